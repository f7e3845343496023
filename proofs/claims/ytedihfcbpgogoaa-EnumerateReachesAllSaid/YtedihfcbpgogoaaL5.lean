/- EnumerateReachesAll answers true. No condition but that the row lies in memory. -/
import Derived.Test.YtedihfcbpgogoaaL6
namespace Go.Proofs.Ytedihfcbpgogoaa
open Go.RowKit
theorem find_slot {T : List Fn} (V : VT T) {i : Nat} (hi : i < T.length) : (kids T (fAt T i).pa).find? (slot T (fAt T i).sl) = some i := by
  have hm : i ∈ kids T (fAt T i).pa := (mem_kids V).2 ⟨hi, rfl⟩
  have hs : slot T (fAt T i).sl i = true := by simp [slot]
  cases hf : (kids T (fAt T i).pa).find? (slot T (fAt T i).sl) with
  | none =>
    have := List.find?_eq_none.1 hf i hm
    rw [hs] at this
    exact absurd rfl this
  | some j =>
    have h1 := List.find?_some hf
    have h2 := List.mem_of_find?_eq_some hf
    obtain ⟨a, b⟩ := (mem_kids V).1 h2
    have h3 : (fAt T j).sl = (fAt T i).sl := by simpa [slot] using h1
    rw [V.un j i a hi b h3]
theorem reach {T : List Fn} {n : Nat} {b : Nat → BN} (A : Asg T n b) : ∀ (q : Nat) (p c : Int) (i : Nat), -1 ≤ p → (T.length : Int) - p ≤ q → Dn T p i → (p = -1 ∧ c = 0 ∨ ∃ m : Nat, p = (m : Int) ∧ m < T.length ∧ c = (b m).se) → RtR T b (b i).bu (fAt T i).sl p c (some i) := by
  have V := A.1.vt
  have N := A.num
  have root : ∀ j, j < T.length → Dn T (-1) j := dn_root V
  have R0 : ∀ k, k < T.length → (fAt T k).pa = -1 → ((bus T).2 k).bu = 0 := (num_spec V (T.length + 1) (-1) 0 0 b0 (by omega) (by omega) (Int.le_refl _)).2
  intro q
  induction q with
  | zero => intro p c i hp hq hd _; have := hd.gt V; have := hd.lt; omega
  | succ q ih =>
    intro p c i hp hq hd hc
    have hil := hd.lt
    obtain ⟨k, hk, hkp, htr⟩ := hd.tr
    have hkgt := (Dn.kid hk hkp).gt V
    rcases htr with rfl | hdk
    · have e : c = (b i).bu := by
        rw [A.at hil]
        rcases hc with ⟨h1, h2⟩ | ⟨m, h1, hm, h2⟩
        · rw [h2, R0 i hil (by rw [hkp, h1])]
        · rw [h2, A.at hm, N.pb i m (root i hil) (root m hm) (by rw [hkp, h1])]
      rw [e]
      refine .here ?_
      rw [← hkp]
      exact find_slot V hil
    · have hbk := hdk.br V
      have rk := N.rg k (root k hk) hbk
      obtain ⟨m, hm1, hm2⟩ := (dn_up hil).1 hdk
      have hml : m < T.length := by have := V.pa i hil; omega
      have hbm : (fAt T m).br = true := by have := V.br i hil (by omega); rwa [hm1] at this
      have rm := N.rg m (root m hml) hbm
      have spm := V.sp m hml
      have hbu : ((bus T).2 i).bu = ((bus T).2 m).se := N.pb i m (root i hil) (root m hml) hm1
      have hse : ((bus T).2 k).se ≤ ((bus T).2 m).se ∧ ((bus T).2 m).su ≤ ((bus T).2 k).su := by
        rcases hm2 with rfl | h
        · omega
        · have := N.nest k m (root k hk) (root m hml) hbm h; omega
      have hck : c < ((bus T).2 k).se := by
        rcases hc with ⟨h1, h2⟩ | ⟨m', h1, hm', h2⟩
        · omega
        · rw [h2, A.at hm']
          exact (N.nest m' k (root m' hm') (root k hk) hbk (.kid hk (by rw [hkp, h1]))).1
      have hkm : k ∈ kids T p := (mem_kids V).2 ⟨hk, hkp⟩
      have hmt : mt T b (b i).bu k = true := by
        unfold mt
        rw [A.at hk, A.at hil, hbk]
        simp
        omega
      refine .go (k := k) (by rw [A.at hil]; omega) hkm hmt (fun k' hk' hm' => A.uni hkm hk' hmt hm') ?_
      exact ih (k : Int) (b k).se i (by omega) (by omega) hdk (.inr ⟨k, rfl, hk, rfl⟩)
theorem reach_root {T : List Fn} {n : Nat} {b : Nat → BN} (A : Asg T n b) {i : Nat} (hi : i < T.length) : RtR T b (b i).bu (fAt T i).sl (-1) 0 (some i) :=
  reach A (T.length + 1) (-1) 0 i (by omega) (by omega) (dn_root A.1.vt i hi) (.inl ⟨rfl, rfl⟩)
set_option maxRecDepth 100000 in
set_option maxHeartbeats 8000000 in
theorem reaches_any {w : World} {a : Option Addr} {len cap : Nat} {T0 : List Fn} (h : FnS w a len cap T0) :
    Calls Try.prog 5 #[.slice a len cap] w fun e w' => e = .returned (.bool true) ∧ Below w.heap.size w w' := by
  have HT := Lib.hid (topo_any h)
  clear h
  go_enter Try.func5, Try.ntmps5
  go_wp2_with fail
  refine HT.out.mono ?_
  rintro e w1 ⟨X, vb, vo, Lb, T, Sx, nn, rfl, S, G, hT⟩
  obtain ⟨a1, c1, rfl, H1⟩ := topo_FnS S G
  have H := Lib.hid H1
  have B1 := Lib.hid S.bel
  have V := Lib.hid (G.vld hT)
  have hcc := H1.len.2.1
  have HB := Lib.hid (buses_any (n := 256) H1)
  clear H1 S G HT
  go_wp2_with fail
  refine HB.out.mono ?_
  rintro e w2 ⟨b2, ⟨hv, _⟩ | ⟨_, _, _, h3, rfl⟩ | ⟨_, _, _, h3, B, hB, hr, rfl⟩⟩
  · exact absurd ⟨V.out, by omega, by omega⟩ hv
  · have B2 : Hid (Below w.heap.size w w2) := bthen B1.out b2
    have HA := Lib.hid (awake_any w2)
    clear HB b2 h3
    by_cases hm0 : T.length = 0
    · have HM0 := Lib.hid hm0
      rw [hm0] at hcc ⊢
      clear hm0
      go_wp2_with fail
      refine HA.out.mono ?_
      rintro e w3 ⟨rfl, b3⟩
      have B3 : Hid (Below w.heap.size w w3) := bthen B2.out b3
      have HA3 := Lib.hid (awake_any w3)
      clear b3 HA
      go_wp2_with fail
      refine HA3.out.mono ?_
      rintro e w4 ⟨rfl, b4⟩
      have B4 : Hid (Below w.heap.size w w4) := bthen B3.out b4
      clear b4
      go_wp2_with fail
      go_ret
      exact ⟨rfl, B4.out⟩
    · have hne : ((0 : Int) != (T.length : Int)) = true := by simp; omega
      go_wp2_with fail
      refine HA.out.mono ?_
      rintro e w3 ⟨rfl, b3⟩
      have B3 : Hid (Below w.heap.size w w3) := bthen B2.out b3
      have HA3 := Lib.hid (awake_any w3)
      clear b3 HA
      go_wp2_with fail
      refine HA3.out.mono ?_
      rintro e w4 ⟨rfl, b4⟩
      have B4 : Hid (Below w.heap.size w w4) := bthen B3.out b4
      clear b4
      go_wp2_with fail
      go_ret
      exact ⟨rfl, B4.out⟩
  · have B2 : Hid (Below w.heap.size w w2) := bthen B1.out b2
    have HA := Lib.hid (awake_any w2)
    have H2 := Lib.hid (H.out.below b2)
    have BS2 : Hid (BS w2 (some ⟨B, 0, none⟩) T.length T.length (bus T).2) := ⟨Nat.le_refl _, by omega, .inr ⟨B, rfl, hr⟩⟩
    have AS : Hid (Asg T T.length (bus T).2) := ⟨V.out, h3, rfl, fun _ _ => rfl⟩
    clear HB b2 h3 hr hB H
    obtain ⟨m, hm⟩ : ∃ m, T.length = m := ⟨_, rfl⟩
    have HM := Lib.hid hm
    rw [hm] at H2 BS2 hcc hT AS ⊢
    clear hm
    have hmm : ((m : Int) != (m : Int)) = false := by simp
    go_wp2_with fail
    refine HA.out.mono ?_
    rintro e w3 ⟨rfl, b3⟩
    have B3 : Hid (Below w.heap.size w w3) := bthen B2.out b3
    have H3 := Lib.hid (H2.out.below b3)
    have BS3 := Lib.hid (BS2.out.below b3)
    clear b3 HA H2 BS2 B2
    generalize hbn : (bus T).2 = bn at *
    clear hbn
    have RR : Hid (∀ i, i < m → RtR T bn (bn i).bu (fAt T i).sl (-1) 0 (some i)) := fun i hi => reach_root AS.out (by have := HM.out; omega)
    have C : Hid (∀ W, Below w3.heap.size w3 W → ∀ i, i < m → ∃ bT oT, a1 = some ⟨bT, oT, none⟩ ∧ W.cell? ⟨bT, oT + i * 11 + 1, none⟩ = some (.int .i64 (fAt T i).sl) ∧ W.cell? ⟨B, i * 3, none⟩ = some (.int .i64 (bn i).bu)) := fun W hW i hi => by
      obtain ⟨bT, oT, e, hbT, _, _, hr⟩ := (H3.out.below hW).at hi
      obtain ⟨B', e', _, d0, d1, d2⟩ := (BS3.out.below hW).at hi
      injection e' with e'
      injection e' with e' _ _
      subst e'
      exact ⟨bT, oT, e, rangeAt.cell hr (j := 1) rfl, d0⟩
    go_wp2_with fail
    go_loopw [6, 7, 8, 9] (fun z _ _ _ wr => ∃ i : Nat, i ≤ m ∧ z = .int .i64 (i : Int) ∧ Hid (Below w3.heap.size w3 wr)) (fun z _ _ _ _ => m - (intOf z).toNat)
    case atStart => exact ⟨0, by omega, rfl, Below.refl _ _⟩
    case round =>
      obtain ⟨i, hi, rfl, BR⟩ := hrel
      by_cases him : i < m
      · have y1 : (i : Int) < m := by omega
        obtain ⟨bT, oT, rfl, c1', d0'⟩ := C.out wr BR.out i him
        have HRo : Hid (Calls Try.prog 14 #[.slice (some ⟨bT, oT, none⟩) m c1, .slice (some ⟨B, 0, none⟩) m m, .int .i64 (bn i).bu, .int .i64 (fAt T i).sl] wr.drew (RouteP T m bn (bn i).bu (fAt T i).sl wr.drew)) := route_any (H3.out.below BR.out.drew) (BS3.out.below BR.out.drew)
        have S0 : Hid (wr.drew.cell? ⟨bT, oT + i * 11 + 1, none⟩ = some (.int .i64 (fAt T i).sl) ∧ wr.drew.cell? ⟨B, i * 3, none⟩ = some (.int .i64 (bn i).bu)) := ⟨c1', d0'⟩
        have SA : Hid (∀ W, Below w3.heap.size w3 W → W.cell? ⟨bT, oT + i * 11 + 1, none⟩ = some (.int .i64 (fAt T i).sl) ∧ W.cell? ⟨B, i * 3, none⟩ = some (.int .i64 (bn i).bu)) := fun W hW => by
          obtain ⟨bT', oT', e, c1, d0⟩ := C.out W hW i him
          injection e with e
          injection e with e1 e2 _
          subst e1 e2
          exact ⟨c1, d0⟩
        have RRi := Lib.hid (RR.out i him)
        have AP : Hid (∀ k, k < i → ¬ ((bn k).bu = (bn i).bu ∧ (fAt T k).sl = (fAt T i).sl)) := fun k hk ⟨e1, e2⟩ => by
          have h1 := RR.out k (by omega)
          rw [e1, e2] at h1
          have := h1.det RRi.out
          injection this with this
          omega
        clear c1' d0'
        generalize (fAt T i).sl = sli at *
        generalize (bn i).bu = bui at *
        go_wp2_with fail
        refine wp_region_pl (fun Z => Z.cell? ⟨bT, oT + i * 11 + 1, none⟩ = some (.int .i64 sli) ∧ Z.cell? ⟨B, i * 3, none⟩ = some (.int .i64 bui)) ((0, 0) :: (1, 0) :: (2, 0) :: (3, 0) :: (4, 0) :: (5, 0) :: (6, 0) :: (7, 0) :: (8, 0) :: (9, 0) :: (10, 0) :: (11, 0) :: (12, 1) :: (13, 0) :: (14, 0) :: (15, 0) :: (16, 0) :: (17, 0) :: []) (by kernel_rfl) (by kernel_rfl) ?_
        iterate 12 (apply wpP_go; (focus rfl); (focus rfl); (focus exact S0.out); (focus (rintro Z ⟨s0, s1⟩; go_simp; exact rfl)); intro K hK; go_simp; refine hK _ ?_; clear hK K)
        apply wpP_one
        focus rfl
        intro K hK
        go_simp
        refine HRo.out.mono ?_
        rintro e w4 ⟨b4, ⟨hn, _⟩ | ⟨_, r, hr, rfl⟩⟩
        · exact absurd AS.out hn
        obtain rfl := hr.det RRi.out
        have B4 : Hid (Below w3.heap.size w3 w4) := bthen BR.out.drew b4
        have S4 := Lib.hid (SA.out w4 B4.out)
        have e2 : rout (some i) = .tuple #[.int .i64 (i : Int), .bool true] := rfl
        rw [e2]
        refine hK _ _ S4.out ?_
        clear hK K b4 hr e2 HRo S0
        iterate 5 (apply wpP_go; (focus rfl); (focus rfl); (focus exact S4.out); (focus (rintro Z ⟨s0, s1⟩; go_simp; exact rfl)); intro K hK; go_simp; refine hK _ ?_; clear hK K)
        refine wpP_done ?_
        have hii : ((i : Int) != (i : Int)) = false := by simp
        go_wp2_with fail
        obtain ⟨wo, hwo⟩ : ∃ wo : World, wo = w4 := ⟨_, rfl⟩
        go_loopw [9] (fun z wr => ∃ k : Nat, k ≤ i ∧ z = .int .i64 (k : Int) ∧ Hid (Below w3.heap.size w3 wr)) (fun z _ => i - (intOf z).toNat)
        case atStart => exact ⟨0, by omega, rfl, B4⟩
        case round =>
          clear hwo B4 S4
          obtain ⟨k, hk, rfl, BK⟩ := hrel
          by_cases hki : k < i
          · have yk : (k : Int) < i := by omega
            have ykm : (k : Int) < m := by omega
            obtain ⟨bT', oT', ee, kc1, kd0⟩ := C.out wr BK.out k (by omega)
            injection ee with ee
            injection ee with ee1 ee2 _
            subst ee1 ee2
            obtain ⟨ic1, id0⟩ := SA.out wr BK.out
            have APk := AP.out k hki
            have HAP := Lib.hid APk
            clear APk
            generalize (bn k).bu = buk at *
            generalize (fAt T k).sl = slk at *
            by_cases q1 : buk = bui
            · have q2 : ¬ slk = sli := fun e => HAP.out ⟨q1, e⟩
              have q1' : (buk == bui) = true := by simp [q1]
              have q2' : (slk == sli) = false := by simp [q2]
              subst q1
              go_wp2_with fail
              go_quiet (fail)
              generalize hgq : wr.drewN _ = wq at *
              have BQ : Hid (Below w3.heap.size w3 wq) := by rw [← hgq]; exact bdN BK.out _
              clear hgq
              go_wp2_with fail
              go_roundw
              case rel => exact ⟨k + 1, by omega, by go_num, BQ⟩
              case measure => simp [intOf]; omega
            · have q1' : (buk == bui) = false := by simp [q1]
              go_wp2_with fail
              go_quiet (fail)
              generalize hgq : wr.drewN _ = wq at *
              have BQ : Hid (Below w3.heap.size w3 wq) := by rw [← hgq]; exact bdN BK.out _
              clear hgq
              go_wp2_with fail
              go_roundw
              case rel => exact ⟨k + 1, by omega, by go_num, BQ⟩
              case measure => simp [intOf]; omega
          · have yk : ¬ (k : Int) < i := by omega
            go_wp2_with fail
            go_roundw
            case rel => exact ⟨i + 1, by omega, by go_num, BK⟩
            case measure => simp [intOf]; omega
      · have y1 : ¬ (i : Int) < m := by omega
        have BF : Hid (Below w.heap.size w wr) := bthen B3.out BR.out
        go_wp2_with fail
        go_ret
        exact ⟨rfl, BF.out⟩
end Go.Proofs.Ytedihfcbpgogoaa
