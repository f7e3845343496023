/- The walk of SyncobjFairness. No condition. -/
import Derived.Test.YtefgfmnnaglfmaaQ3
namespace Go.Proofs.Ytefgfmnnaglfmaa
open Go.RowKit
/-- Is t among the places 1 .. j - 1? -/
def wts (Q : List Int) (j : Nat) (t : Int) : Bool := (Q.tail.take (j - 1)).any (· == t)
theorem wts_succ {Q : List Int} {j : Nat} (t : Int) (h1 : 1 ≤ j) (h2 : j < Q.length) : wts Q (j + 1) t = (wts Q j t || (Q.getD j 0 == t)) := by
  unfold wts
  obtain ⟨k, rfl⟩ : ∃ k, j = k + 1 := ⟨j - 1, by omega⟩
  have hk : k < Q.tail.length := by rw [List.length_tail]; omega
  rw [Nat.add_sub_cancel, Nat.add_sub_cancel, any_succ hk]
  congr 2
  rcases Q with _ | ⟨q, r⟩
  · simp at h2
  · rfl
theorem wts_all {Q : List Int} {j : Nat} (t : Int) (h : Q.length ≤ j) : wts Q j t = Q.tail.any (· == t) := by
  unfold wts
  rw [List.take_of_length_le (by rw [List.length_tail]; omega)]
theorem any_mem {l : List Int} {t : Int} : (l.any (· == t) = true) ↔ t ∈ l := by simp
set_option maxRecDepth 100000 in
set_option maxHeartbeats 4000000 in
theorem fair_walk (n : Int) (a : Option Addr) (len cap : Nat) (l : List Int) (w : World) (h : IntS w a len cap l) :
    Calls Try.prog 3 #[.int .i64 n, .slice a len cap] w fun e w' => e = .returned (.bool true) ∧ Below w.heap.size w w' := by
  have HI := Lib.hid h
  have hlen : len ≤ 9223372036854775807 := by have h1 := h.2.1; have h2 := h.2.2.1; unfold maxLen at h2; omega
  have hlc : len ≤ cap := h.2.1
  clear h
  go_enter Try.func3, Try.ntmps3
  go_wp2_with fail
  obtain ⟨F, hF⟩ : ∃ F : Nat → Prop, F = fun k => k < w.heap.size := ⟨_, rfl⟩
  refine (new_any F w (fun k hk => by rw [hF] at hk; exact hk)).mono ?_
  rintro e w1 ⟨rfl, ⟨y1, h1⟩, hb1⟩
  have hN : ∀ k, k < w.heap.size → F k := fun k hk => by rw [hF]; exact hk
  have HN := Lib.hid hN
  have H1 := Lib.hid h1
  have B1 := Lib.hid hb1
  clear h1 hb1 hN hF
  obtain ⟨L, hL⟩ : ∃ L, w.heap.size + 2 = L := ⟨_, rfl⟩
  rw [hL] at H1 ⊢
  clear hL
  go_wp2_with fail
  refine (mod_any n 8 _ (by omega) (by omega)).mono ?_
  rintro e w2 ⟨rfl, rfl⟩
  have hm8 := mo_lt n 8 (by omega)
  generalize mo n 8 = m8 at hm8 ⊢
  obtain ⟨m, hm⟩ : ∃ m : Nat, m = m8 + 2 := ⟨_, rfl⟩
  have hadd : IntKind.i64.wrap (2 + (m8 : Int)) = (m : Int) := by rw [IntWalk.i64_in _ (by omega)]; omega
  have hm10 : m ≤ 9 := by omega
  have hm1 : 1 ≤ m := by omega
  clear hm
  go_wp2_with fail
  refine (awake_any w1).mono ?_
  rintro e w2 ⟨rfl, hb2⟩
  have H2 := Lib.hid (H1.out.below hb2)
  have B2 : Hid (Keep F w w2) := B1.out.trans (Keep.of hb2)
  have HC := Lib.hid (addMutex_any (id := 0) (lv := 0) H2.out (in_small (by omega)) (by omega))
  rw [show (addM s0 0 0).1 = 0 from rfl] at HC
  clear hb2 H1 B1
  go_wp2_with fail
  refine HC.out.mono ?_
  rintro e w3 ⟨rfl, ⟨y3, h3⟩, hb3⟩
  have E0 : Hid (FSt w w3 L 1 [] 0 [] (.slice none 0 0)) := ⟨F, _, y3, h3, fq0, QR.nil _ _, (fun g hg => by cases hg), HN.out, Keep.below (B2.out.trans hb3) HN.out (Nat.le_refl _)⟩
  clear HC h3 hb3 H2 B2 HN
  obtain ⟨i0, hi0, hz0, hz1, hz2⟩ := info_parts Try.info3
  go_wp2_with fail
  go_loopw [6, 7] (fun v z wr => ∃ (i : Nat) (Q : List Int), i ≤ len ∧ i ≤ 30 ∧ Q.length ≤ i ∧ z = .int .i64 i ∧ Hid (FSt w wr L (2 * i + 1) Q (if Q = [] then 0 else 1) Q v)) (fun _ z _ => len - (intOf z).toNat)
  case atStart => exact ⟨0, [], by omega, by omega, by simp, rfl, E0⟩
  case round =>
    clear E0 hadd hm8
    obtain ⟨i, Q, hil, hi30, hQl, rfl, E⟩ := hrel
    by_cases hcont : i < len ∧ i < 30
    · have y0 : (i : Int) < len := by omega
      have y1 : (i : Int) < 30 := by omega
      obtain ⟨b, o, x, rfl, hbw, hx, hmem, hwf, hrg⟩ := HI.out.at hcont.1
      have cx : wr.cell? ⟨b, o + i, none⟩ = some (.int .i64 x) := by
        have h1 := hrg 0 (.int .i64 x) rfl
        rw [Nat.mul_one, Nat.add_zero] at h1
        exact (E.out.bel.cell (p := ⟨b, o + i, none⟩) hbw).trans h1
      clear hrg hx hmem hwf
      go_wp2_with fail
      refine (mod_any x m _ hm1 (by omega)).mono ?_
      rintro e w4 ⟨rfl, rfl⟩
      have hmx := mo_lt x m (by omega)
      obtain ⟨t, het⟩ : ∃ t : Int, ((mo x m : Nat) : Int) = t := ⟨_, rfl⟩
      have ht : 0 ≤ t ∧ t < 10 := by omega
      rw [het]
      clear het hmx cx
      by_cases hA : t ∈ Q.tail
      · have HS : ∀ s, FQ s Q (if Q = [] then 0 else 1) → (acqS s t 0 0 65535).1 = 0 ∧ (acqS s t 0 0 65535).2.1 = 9 ∧ FQ (acqS s t 0 0 65535).2.2 Q (if Q = [] then 0 else 1) := fun s hs => by rw [hs.acqA hA]; exact ⟨rfl, rfl, hs⟩
        have HAC := Lib.hid (E.out.acq (i := t) (by omega) (by omega) ht HS)
        have hQ : Q ≠ [] := by rintro rfl; cases hA
        have HW : Hid (Q.tail.any (· == t) = true) := any_mem.2 hA
        rcases E.out.row.cases with ⟨_, eQ⟩ | ⟨g, cp, ev⟩
        · exact absurd eQ hQ
        subst ev
        go_wp2_with fail
        refine HAC.out.mono ?_
        rintro e w5 ⟨rfl, hE⟩
        have E1 := Lib.hid hE
        have E2 := Lib.hid (hE.mono (show 2 * i + 1 + 1 ≤ 2 * (i + 1) + 1 by omega))
        obtain ⟨_, _, _, q3, _⟩ := hE.row.cell
        have HCl : Hid (∀ j, j < Q.length → w5.cell? ⟨g, j, none⟩ = some (.int .i64 (Q.getD j 0))) := fun j hj => by have := q3 j hj; rwa [Nat.zero_add] at this
        clear hE q3 HAC E HS
        go_wp2_with fail
        go_loop [11, 12] (fun x z => ∃ j : Nat, 1 ≤ j ∧ (j ≤ Q.length ∨ j = 1) ∧ z = .int .i64 j ∧ x = .bool (wts Q j t)) (fun _ z => Q.length - (intOf z).toNat)
        case atStart => exact ⟨1, by omega, .inr rfl, rfl, by simp [wts]⟩
        case round =>
          obtain ⟨j, hj1, hj2, rfl, rfl⟩ := hrel
          by_cases hjl : j < Q.length
          · have y0 : (j : Int) < Q.length := by omega
            have hws := Lib.hid (wts_succ t hj1 hjl)
            have cj := HCl.out j hjl
            cases hb : wts Q j t
            · by_cases he : Q.getD j 0 = t
              · have d1 : (Q.getD j 0 == t) = true := by simpa using he
                have hn : Hid (wts Q (j + 1) t = true) := by
                  show wts Q (j + 1) t = true
                  rw [hws.out, hb, d1]; rfl
                generalize Q.getD j 0 = qj at *
                go_wp2_with fail
                go_round
                case rel => exact ⟨j + 1, by omega, .inl (by omega), by go_num, by rw [hn.out]⟩
                case measure => simp [intOf]; omega
              · have d1 : (Q.getD j 0 == t) = false := by simpa using he
                have hn : Hid (wts Q (j + 1) t = false) := by
                  show wts Q (j + 1) t = false
                  rw [hws.out, hb, d1]; rfl
                generalize Q.getD j 0 = qj at *
                go_wp2_with fail
                go_round
                case rel => exact ⟨j + 1, by omega, .inl (by omega), by go_num, by rw [hn.out]⟩
                case measure => simp [intOf]; omega
            · have hn : Hid (wts Q (j + 1) t = true) := by
                show wts Q (j + 1) t = true
                rw [hws.out, hb]; rfl
              clear cj
              go_wp2_with fail
              go_round
              case rel => exact ⟨j + 1, by omega, .inl (by omega), by go_num, by rw [hn.out]⟩
              case measure => simp [intOf]; omega
          · have y0 : ¬ (j : Int) < Q.length := by omega
            rw [wts_all t (by omega), HW.out]
            go_wp2_with fail
            exact ⟨⟨i + 1, Q, by omega, by omega, by omega, by go_num, E2⟩, by simp [intOf]; omega⟩
      have hA' : Q.tail.any (· == t) = false := by
        rw [← Bool.not_eq_true]; exact fun h => hA (any_mem.1 h)
      rcases hQQ : Q with _ | ⟨q, r⟩
      · subst hQQ
        have HAC := Lib.hid (E.out.acq (i := t) (by omega) (by omega) ht (fun s hs => hs.acqC0 ht))
        obtain ⟨av, cv, ev⟩ : ∃ av cv, u6 = .slice av 0 cv := by
          rcases E.out.row.cases with ⟨ev, _⟩ | ⟨g, cp, ev⟩
          · exact ⟨_, _, ev⟩
          · exact ⟨_, _, ev⟩
        subst ev
        go_wp2_with fail
        refine HAC.out.mono ?_
        rintro e w5 ⟨rfl, hE⟩
        have E1 := Lib.hid hE
        obtain ⟨p1, p2, p3⟩ := E1.out.push t
        have P1 := Lib.hid p1
        have P2 := Lib.hid p2
        have P3 := Lib.hid p3
        clear p1 p2 p3
        clear hE HAC E
        go_wp2_with fail
        go_loop [11, 12] (fun x z => x = .bool false ∧ z = .int .i64 1) (fun _ _ => 0)
        case atStart => exact ⟨rfl, rfl⟩
        case round =>
          obtain ⟨rfl, rfl⟩ := hrel
          go_wp2_with (at_builtin; refine wpList_append_lies _ rfl _ _ 22 rfl 0 3 i0 _ 1 8 Try.underlying22 hi0 hz0 hz1 hz2 rfl (by omega) _ ([] : List Int).length (([] : List Int).map (Value.int .i64)) rfl (by exact P2.out) ⟨w5.heap.size, 0, none⟩ 1 1 [.int .i64 t] rfl rfl (by exact P1.out) (by simp [Value.oneCell']) (by omega) (by simp only [maxLen]; omega) (by omega) (Nat.zero_le _) (w5.heap.size + 1) (by simp) ?_)
          intro g2 cap2 w6 ho hg hat hlt6
          have E3 := Lib.hid (P3.out g2 cap2 w6 ho hg hat hlt6)
          clear ho hg hat P1 P2 P3 E1
          have E4 : Hid (FSt w w6 L (2 * (i + 1) + 1) [t] (if [t] = [] then 0 else 1) [t] (.slice (some ⟨g2, 0, none⟩) 1 cap2)) := by
            rw [if_neg (by simp)]; exact E3.out.mono (by omega)
          clear E3
          go_wp2_with fail
          exact ⟨⟨i + 1, [t], by omega, by omega, by simp, by go_num, E4⟩, by simp [intOf]; omega⟩
      have hQ : Q ≠ [] := by rw [hQQ]; simp
      rw [if_neg hQ] at E
      by_cases hB : q = t
      · subst hB
        have HAC := Lib.hid (E.out.acq (i := q) (a := 1) (b := 0) (Q' := Q) (c' := 2) (by omega) (by omega) ht (fun s hs => by rw [hQQ] at hs ⊢; exact hs.acqB (by omega)))
        have HW : Hid (Q.tail.any (· == q) = false) := hA'
        have HFix : Hid (∀ W, Hid (FSt w W L (2 * (i + 1) + 1) Q 1 Q u6) → Hid (FSt w W L (2 * (i + 1) + 1) Q (if Q = [] then 0 else 1) Q u6)) := fun W h => by rw [if_neg hQ]; exact h
        rcases E.out.row.cases with ⟨_, eQ⟩ | ⟨g, cp, ev⟩
        · exact absurd eQ hQ
        subst ev
        have hg0 : Q.getD 0 0 = q := by rw [hQQ]; rfl
        have hhd : Q.head? = some q := by rw [hQQ]; rfl
        have hql : 0 < Q.length := List.length_pos_iff.2 hQ
        have HQQ := Lib.hid hQQ
        clear hQQ
        go_wp2_with fail
        refine HAC.out.mono ?_
        rintro e w5 ⟨rfl, hE⟩
        have HRL : Hid (Calls Try.prog 14 #[ptr L, .int .i64 q, .int .i64 0] w5 fun e w' => e = .returned (.int .i64 0) ∧ FSt w w' L (2 * i + 1 + 1 + 1) Q 1 Q (.slice (some ⟨g, 0, none⟩) Q.length cp)) := hE.rel (a := 0) (Q' := Q) (c' := 1) (by omega) (by omega) (by omega) ht hhd (fun s hs => by have h1 := HQQ.out; rw [h1] at hs ⊢; exact hs.relB (by omega))
        have E1 := Lib.hid hE
        obtain ⟨_, _, _, q3, _⟩ := hE.row.cell
        have HCl : Hid (∀ j, j < Q.length → w5.cell? ⟨g, j, none⟩ = some (.int .i64 (Q.getD j 0))) := fun j hj => by have := q3 j hj; rwa [Nat.zero_add] at this
        have c0 : w5.cell? ⟨g, 0, none⟩ = some (.int .i64 q) := by have := HCl.out 0 hql; rwa [hg0] at this
        have z5 : (0 : Int) < Q.length := by omega
        have z6 : decide ((Q.length : Int) > 0) = true := by simp; omega
        clear hE q3 HAC E hg0
        go_wp2_with fail
        go_loop [11, 12] (fun x z => ∃ j : Nat, 1 ≤ j ∧ (j ≤ Q.length ∨ j = 1) ∧ z = .int .i64 j ∧ x = .bool (wts Q j q)) (fun _ z => Q.length - (intOf z).toNat)
        case atStart => exact ⟨1, by omega, .inr rfl, rfl, by simp [wts]⟩
        case round =>
          obtain ⟨j, hj1, hj2, rfl, rfl⟩ := hrel
          by_cases hjl : j < Q.length
          · have y0 : (j : Int) < Q.length := by omega
            have hws := Lib.hid (wts_succ q hj1 hjl)
            have cj := HCl.out j hjl
            cases hb : wts Q j q
            · by_cases he : Q.getD j 0 = q
              · have d1 : (Q.getD j 0 == q) = true := by simpa using he
                have hn : Hid (wts Q (j + 1) q = true) := by
                  show wts Q (j + 1) q = true
                  rw [hws.out, hb, d1]; rfl
                generalize Q.getD j 0 = qj at *
                go_wp2_with fail
                go_round
                case rel => exact ⟨j + 1, by omega, .inl (by omega), by go_num, by rw [hn.out]⟩
                case measure => simp [intOf]; omega
              · have d1 : (Q.getD j 0 == q) = false := by simpa using he
                have hn : Hid (wts Q (j + 1) q = false) := by
                  show wts Q (j + 1) q = false
                  rw [hws.out, hb, d1]; rfl
                generalize Q.getD j 0 = qj at *
                go_wp2_with fail
                go_round
                case rel => exact ⟨j + 1, by omega, .inl (by omega), by go_num, by rw [hn.out]⟩
                case measure => simp [intOf]; omega
            · have hn : Hid (wts Q (j + 1) q = true) := by
                show wts Q (j + 1) q = true
                rw [hws.out, hb]; rfl
              clear cj
              go_wp2_with fail
              go_round
              case rel => exact ⟨j + 1, by omega, .inl (by omega), by go_num, by rw [hn.out]⟩
              case measure => simp [intOf]; omega
          · have y0 : ¬ (j : Int) < Q.length := by omega
            rw [wts_all q (by omega), HW.out]
            go_wp2_with fail
            refine HRL.out.mono ?_
            rintro e w6 ⟨rfl, hE⟩
            have E2 := Lib.hid (hE.mono (show 2 * i + 1 + 1 + 1 ≤ 2 * (i + 1) + 1 by omega))
            clear hE HRL
            go_wp2_with fail
            exact ⟨⟨i + 1, Q, by omega, by omega, by omega, by go_num, (HFix.out _ E2)⟩, by simp [intOf]; omega⟩
      have hn : t ∉ Q := by
        rw [hQQ]
        intro h
        rcases List.mem_cons.1 h with h | h
        · exact hB h.symm
        · exact hA (by rw [hQQ]; exact h)
      have HAC := Lib.hid (E.out.acq (i := t) (by omega) (by omega) ht (fun s hs => hs.acqC1 hQ hn ht))
      have HW : Hid (Q.tail.any (· == t) = false) := hA'
      rcases E.out.row.cases with ⟨_, eQ⟩ | ⟨g, cp, ev⟩
      · exact absurd eQ hQ
      subst ev
      have hg0 : Q.getD 0 0 = q := by rw [hQQ]; rfl
      have hql : 0 < Q.length := List.length_pos_iff.2 hQ
      have dq : (q == t) = false := by simpa using hB
      clear hQQ
      go_wp2_with fail
      refine HAC.out.mono ?_
      rintro e w5 ⟨rfl, hE⟩
      have E1 := Lib.hid hE
      obtain ⟨p1, p2, p3⟩ := E1.out.push t
      have P1 := Lib.hid p1
      have P2 := Lib.hid p2
      have P3 := Lib.hid p3
      clear p1 p2 p3
      obtain ⟨_, _, _, q3, _⟩ := hE.row.cell
      have HCl : Hid (∀ j, j < Q.length → w5.cell? ⟨g, j, none⟩ = some (.int .i64 (Q.getD j 0))) := fun j hj => by have := q3 j hj; rwa [Nat.zero_add] at this
      have c0 : w5.cell? ⟨g, 0, none⟩ = some (.int .i64 q) := by have := HCl.out 0 hql; rwa [hg0] at this
      have z5 : (0 : Int) < Q.length := by omega
      have z6 : decide ((Q.length : Int) > 0) = true := by simp; omega
      clear hE q3 HAC E hg0
      go_wp2_with fail
      go_loop [11, 12] (fun x z => ∃ j : Nat, 1 ≤ j ∧ (j ≤ Q.length ∨ j = 1) ∧ z = .int .i64 j ∧ x = .bool (wts Q j t)) (fun _ z => Q.length - (intOf z).toNat)
      case atStart => exact ⟨1, by omega, .inr rfl, rfl, by simp [wts]⟩
      case round =>
        obtain ⟨j, hj1, hj2, rfl, rfl⟩ := hrel
        by_cases hjl : j < Q.length
        · have y0 : (j : Int) < Q.length := by omega
          have hws := Lib.hid (wts_succ t hj1 hjl)
          have cj := HCl.out j hjl
          cases hb : wts Q j t
          · by_cases he : Q.getD j 0 = t
            · have d1 : (Q.getD j 0 == t) = true := by simpa using he
              have hn : Hid (wts Q (j + 1) t = true) := by
                show wts Q (j + 1) t = true
                rw [hws.out, hb, d1]; rfl
              generalize Q.getD j 0 = qj at *
              go_wp2_with fail
              go_round
              case rel => exact ⟨j + 1, by omega, .inl (by omega), by go_num, by rw [hn.out]⟩
              case measure => simp [intOf]; omega
            · have d1 : (Q.getD j 0 == t) = false := by simpa using he
              have hn : Hid (wts Q (j + 1) t = false) := by
                show wts Q (j + 1) t = false
                rw [hws.out, hb, d1]; rfl
              generalize Q.getD j 0 = qj at *
              go_wp2_with fail
              go_round
              case rel => exact ⟨j + 1, by omega, .inl (by omega), by go_num, by rw [hn.out]⟩
              case measure => simp [intOf]; omega
          · have hn : Hid (wts Q (j + 1) t = true) := by
              show wts Q (j + 1) t = true
              rw [hws.out, hb]; rfl
            clear cj
            go_wp2_with fail
            go_round
            case rel => exact ⟨j + 1, by omega, .inl (by omega), by go_num, by rw [hn.out]⟩
            case measure => simp [intOf]; omega
        · have y0 : ¬ (j : Int) < Q.length := by omega
          rw [wts_all t (by omega), HW.out]
          go_wp2_with (at_builtin; refine wpList_append_lies _ rfl _ _ 22 rfl 0 3 i0 _ 1 8 Try.underlying22 hi0 hz0 hz1 hz2 rfl (by omega) _ Q.length (Q.map (Value.int .i64)) rfl (by exact P2.out) ⟨w5.heap.size, 0, none⟩ 1 1 [.int .i64 t] rfl rfl (by exact P1.out) (by simp [Value.oneCell']) (by omega) (by simp only [maxLen]; omega) (by omega) (Nat.zero_le _) (w5.heap.size + 1) (by simp) ?_)
          intro g2 cap2 w6 ho hg hat hlt6
          have E3 := Lib.hid (P3.out g2 cap2 w6 ho hg hat hlt6)
          clear ho hg hat P1 P2 P3 E1

          have E4 : Hid (FSt w w6 L (2 * (i + 1) + 1) (Q ++ [t]) (if Q ++ [t] = [] then 0 else 1) (Q ++ [t]) (.slice (some ⟨g2, 0, none⟩) (Q.length + 1) cap2)) := by
            rw [if_neg (by simp)]; exact E3.out.mono (by omega)
          clear E3
          have hl1 : ((Q.length + 1 : Nat) : Int) ≠ 1 := by omega
          have hl2 : ((Q.length : Int) + 1 == 1) = false := by rw [beq_eq_false_iff_ne]; omega
          go_wp2_with fail
          exact ⟨⟨i + 1, Q ++ [t], by omega, by omega, by simp; omega, by go_num, E4⟩, by simp [intOf]; omega⟩
    · have HFin : Hid (∀ s c, FQ s Q c → True) := fun _ _ _ => trivial
      clear HFin
      have hgo : (¬ (i : Int) < len) ∨ ((i : Int) < len ∧ ¬ (i : Int) < 30) := by omega
      have hgoal : Hid (FSt w wr L (2 * i + 1) (Q.drop 0) (if Q.drop 0 = [] then 0 else 1) Q u6) := E
      clear E
      rcases hgo with y0 | ⟨y0, y1⟩
      all_goals
        go_wp2_with fail
        obtain ⟨wo, rfl⟩ : ∃ wo : World, wo = wr := ⟨_, rfl⟩
        go_loopw [13] (fun z wr => ∃ j : Nat, j ≤ Q.length ∧ z = .int .i64 j ∧ Hid (FSt w wr L (2 * i + 1 + j) (Q.drop j) (if Q.drop j = [] then 0 else 1) Q u6)) (fun z _ => Q.length - (intOf z).toNat)
        case atStart => exact ⟨0, by omega, rfl, hgoal⟩
        case round =>
          clear hgoal
          obtain ⟨j, hj, rfl, E⟩ := hrel
          have HOW := Lib.hid E.out.own
          by_cases hjl : j < Q.length
          · have y2 : (j : Int) < Q.length := by omega
            obtain ⟨q, hq⟩ : ∃ q, Q[j]? = some q := ⟨_, List.getElem?_eq_getElem hjl⟩
            have hdr : Q.drop j = q :: Q.drop (j + 1) := by
              rw [List.drop_eq_getElem_cons hjl]
              congr 1
              rw [List.getElem?_eq_getElem hjl] at hq
              injection hq
            have hrg : 0 ≤ q ∧ q < 10 := by
              obtain ⟨F, s, y, a, b, _⟩ := E.out
              exact b.rg q (by rw [hdr]; simp)
            have E5 : Hid (FSt w wr L (2 * i + 1 + j) (q :: Q.drop (j + 1)) 1 Q u6) := by
              have := E.out
              rw [hdr, if_neg (by simp)] at this
              exact this
            have HRL := Lib.hid (E5.out.rel (i := q) (by omega) (by simp; omega) (by omega) hrg rfl (fun s hs => hs.relC))
            rw [hdr] at HOW
            have HOW2 : Hid (Calls Try.prog 15 #[ptr L, .int .i64 0] wr fun e w' => e = .returned (.tuple #[.int .i64 q, .bool true]) ∧ wr = w') := HOW.out
            rcases E.out.row.cases with ⟨_, eQ⟩ | ⟨g, cp, ev⟩
            · rw [eQ] at hjl; simp at hjl
            subst ev
            obtain ⟨_, _, _, q3, _⟩ := E.out.row.cell
            have cj : wr.cell? ⟨g, j, none⟩ = some (.int .i64 q) := by
              have h1 := q3 j hjl
              rw [Nat.zero_add, List.getD_eq_getElem?_getD, hq] at h1
              exact h1
            clear q3 HOW E hdr hq
            go_wp2_with fail
            refine HOW2.out.mono ?_
            rintro e w5 ⟨rfl, rfl⟩
            go_wp2_with fail
            refine HRL.out.mono ?_
            rintro e w6 ⟨rfl, hE⟩
            have E6 := Lib.hid hE
            clear hE HRL HOW2 E5 cj
            go_wp2_with fail
            exact ⟨⟨j + 1, by omega, by go_num, E6⟩, by simp [intOf]; omega⟩
          · have y2 : ¬ (j : Int) < Q.length := by omega
            have hdr : Q.drop j = [] := List.drop_of_length_le (by omega)
            rw [hdr] at HOW
            have HOW2 : Hid (Calls Try.prog 15 #[ptr L, .int .i64 0] wr fun e w' => e = .returned (.tuple #[.int .i64 0, .bool false]) ∧ wr = w') := HOW.out
            have HB := Lib.hid E.out.bel
            obtain ⟨av, cv, ev⟩ : ∃ av cv, u6 = .slice av Q.length cv := by
              rcases E.out.row.cases with ⟨ev, eQ⟩ | ⟨g, cp, ev⟩
              · exact ⟨_, _, by rw [ev, eQ]; rfl⟩
              · exact ⟨_, _, ev⟩
            subst ev
            clear HOW E hdr
            go_wp2_with fail
            refine HOW2.out.mono ?_
            rintro e w5 ⟨rfl, rfl⟩
            go_wp2_with fail
            go_ret
            exact ⟨rfl, HB.out⟩
end Go.Proofs.Ytefgfmnnaglfmaa
