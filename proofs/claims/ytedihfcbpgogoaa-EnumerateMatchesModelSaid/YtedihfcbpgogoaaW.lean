/- assigned, numbered, help.Equal on bus numbers and on ints. No condition but that the rows lie in memory. -/
import Derived.Test.YtedihfcbpgogoaaV
namespace Go.Proofs.Ytedihfcbpgogoaa
open Go.RowKit
set_option maxHeartbeats 1000000 in
theorem hequal_any {w : World} {a a' : Option Addr} {n cap m cap' : Nat} {b c : Nat → BN} (h : BS w a n cap b) (h' : BS w a' m cap' c) :
    Calls Try.prog 27 #[.slice a n cap, .slice a' m cap'] w (VPost (EqB n m b c) w) := by
  have H := Lib.hid h
  have H' := Lib.hid h'
  have hc1 := h.1
  have hc2 := h'.1
  have hn1 := h.2.1
  have hn2 := h'.2.1
  clear h h'
  by_cases hnm : n = m
  · subst hnm
    have hnn : ((n : Int) != (n : Int)) = false := by simp
    go_enter Try.func27, Try.ntmps27
    go_wp2_with fail
    go_loopw [5] (fun z wr => ∃ i : Nat, i ≤ n ∧ z = .int .i64 (i : Int) ∧ Hid (Below w.heap.size w wr) ∧ Hid (∀ j, j < i → b j = c j)) (fun z _ => n - (intOf z).toNat)
    case atStart => exact ⟨0, by omega, rfl, Below.refl _ _, fun j hj => by omega⟩
    case round =>
      obtain ⟨i, hi, rfl, B, HI⟩ := hrel
      by_cases hin : i < n
      · have y1 : (i : Int) < n := by omega
        obtain ⟨g, rfl, hg, c0, c1, c2⟩ := (H.out.below B.out).at hin
        obtain ⟨g', rfl, hg', d0, d1, d2⟩ := (H'.out.below B.out).at hin
        obtain ⟨t, hne, ht⟩ := neBs (b i) (c i)
        have HI2 : Hid (b i = c i → ∀ j, j < i + 1 → b j = c j) := fun h j hj => by
          rcases Nat.lt_succ_iff_lt_or_eq.1 hj with h1 | rfl
          · exact HI.out j h1
          · exact h
        have HN : Hid (¬ b i = c i → ¬ EqB n n b c) := fun h1 h2 => h1 (h2.2 i hin)
        generalize (b i).bu = p0 at *
        generalize (b i).se = p1 at *
        generalize (b i).su = p2 at *
        generalize (c i).bu = q0 at *
        generalize (c i).se = q1 at *
        generalize (c i).su = q2 at *
        cases t
        · have h2 := Lib.hid (HI2.out (ht.1 rfl))
          clear ht HI2 HN
          go_wp2_with fail
          go_quiet (fail)
          go_wp2_with fail
          go_roundw
          case rel => exact ⟨i + 1, by omega, by go_num, bdN B.out _, h2⟩
          case measure => simp [intOf]; omega
        · have h2 := Lib.hid (HN.out (fun h => by have := ht.2 h; cases this))
          clear ht HI2 HN
          go_wp2_with fail
          go_quiet (fail)
          go_wp2_with fail
          go_ret
          exact vno h2.out (bdN B.out _)
      · have y1 : ¬ (i : Int) < n := by omega
        have hv : Hid (EqB n n b c) := ⟨rfl, fun j hj => HI.out j (by omega)⟩
        go_wp2_with fail
        go_ret
        exact vyes hv.out B.out
  · have hnn : ((n : Int) != (m : Int)) = true := by simp; omega
    have hv : Hid (¬ EqB n m b c) := fun h => hnm h.1
    go_enter Try.func27, Try.ntmps27
    go_wp2_with fail
    go_ret
    exact vno hv.out (Below.refl _ _)
/-- b are the bus numbers of T. -/
def Asg (T : List Fn) (n : Nat) (b : Nat → BN) : Prop := Vld T ∧ (bus T).1 < 256 ∧ EqB T.length n (bus T).2 b
set_option maxHeartbeats 1000000 in
theorem assigned_any {w : World} {a a' : Option Addr} {len cap n cap' : Nat} {T : List Fn} {b : Nat → BN} (h : FnS w a len cap T) (h' : BS w a' n cap' b) :
    Calls Try.prog 29 #[.slice a len cap, .slice a' n cap'] w (VPost (Asg T n b) w) := by
  have H' := Lib.hid h'
  have HL := Lib.hid h.len
  have HC := Lib.hid (buses_any (n := 256) h)
  clear h h'
  go_enter Try.func29, Try.ntmps29
  go_wp2_with fail
  refine HC.out.mono ?_
  rintro e w1 ⟨b1, ⟨hv, rfl⟩ | ⟨hv, _, _, h3, rfl⟩ | ⟨hv, _, _, h3, B, hB, hr, rfl⟩⟩
  · have B1 := Lib.hid b1
    have hn : Hid (¬ Asg T n b) := fun q => hv ⟨q.1, by omega, by omega⟩
    clear b1 hv HC
    go_wp2_with fail
    go_ret
    exact vno hn.out B1.out
  · have B1 := Lib.hid b1
    have hn : Hid (¬ Asg T n b) := fun q => by have := q.2.1; omega
    clear b1 hv HC h3
    go_wp2_with fail
    go_ret
    exact vno hn.out B1.out
  · have B1 := Lib.hid b1
    have HE := Lib.hid (sequal_any (w := w1) (a := some ⟨B, 0, none⟩) (n := T.length) (cap := T.length) (b := (bus T).2) ⟨Nat.le_refl _, by have := hv.len; omega, .inr ⟨B, rfl, hr⟩⟩ (H'.out.below b1))
    have hq : Hid (Asg T n b ↔ EqB T.length n (bus T).2 b) := ⟨fun q => q.2.2, fun q => ⟨hv, h3, q⟩⟩
    clear b1 hv HC h3 hr hB
    go_wp2_with fail
    refine HE.out.mono ?_
    rintro e w2 ⟨t, rfl, ht, b2⟩
    have B2 : Hid (Below w.heap.size w w2) := bthen B1.out b2
    have ht2 : Hid (t = true ↔ Asg T n b) := ht.trans hq.out.symm
    clear ht b2 hq
    go_wp2_with fail
    go_ret
    exact ⟨t, rfl, ht2.out, B2.out⟩
set_option maxHeartbeats 1000000 in
theorem numbered_any {w : World} {a a' : Option Addr} {len cap n cap' : Nat} {T : List Fn} {b : Nat → BN} (h : FnS w a len cap T) (h' : BS w a' n cap' b) :
    Calls Try.prog 33 #[.slice a len cap, .slice a' n cap'] w (VPost (Asg T n b) w) := by
  have H' := Lib.hid h'
  have hc1 := h'.1
  have hn1 := h'.2.1
  have HL := Lib.hid h.len
  have HC := Lib.hid (rbuses_any (n := 256) h)
  clear h h'
  go_enter Try.func33, Try.ntmps33
  go_wp2_with fail
  refine HC.out.mono ?_
  rintro e w1 ⟨b1, ⟨hv, rfl⟩ | ⟨hv, _, _, h3, rfl⟩ | ⟨hv, _, _, h3, B, hB, hr, rfl⟩⟩
  · have B1 := Lib.hid b1
    have hn : Hid (¬ Asg T n b) := fun q => hv ⟨q.1, by omega, by omega⟩
    clear b1 hv HC
    go_wp2_with fail
    go_ret
    exact vno hn.out B1.out
  · have B1 := Lib.hid b1
    have hn : Hid (¬ Asg T n b) := fun q => by have := q.2.1; omega
    clear b1 hv HC h3
    go_wp2_with fail
    go_ret
    exact vno hn.out B1.out
  · have H1 : Hid (BS w1 (some ⟨B, 0, none⟩) T.length T.length (bus T).2) := ⟨Nat.le_refl _, by have := hv.len; omega, .inr ⟨B, rfl, hr⟩⟩
    have H2 := Lib.hid (H'.out.below b1)
    have B1 := Lib.hid b1
    have hq : Hid (Asg T n b ↔ EqB T.length n (bus T).2 b) := ⟨fun q => q.2.2, fun q => ⟨hv, h3, q⟩⟩
    have hlT : T.length ≤ 64 := hv.len
    clear b1 hv HC h3 hr hB HL
    generalize (bus T).2 = c at *
    generalize T.length = m at *
    by_cases hnm : m = n
    · subst hnm
      have hnn : ((m : Int) != (m : Int)) = false := by simp
      go_wp2_with fail
      go_loopw [7] (fun z wr => ∃ i : Nat, i ≤ m ∧ z = .int .i64 (i : Int) ∧ Hid (Below w1.heap.size w1 wr) ∧ Hid (∀ j, j < i → b j = c j)) (fun z _ => m - (intOf z).toNat)
      case atStart => exact ⟨0, by omega, rfl, Below.refl _ _, fun j hj => by omega⟩
      case round =>
        obtain ⟨i, hi, rfl, B2, HI⟩ := hrel
        by_cases hin : i < m
        · have y1 : (i : Int) < m := by omega
          obtain ⟨g', rfl, hg', d0, d1, d2⟩ := (H2.out.below B2.out).at hin
          obtain ⟨g, hgg, hg, c0, c1, c2⟩ := (H1.out.below B2.out).at hin
          injection hgg with hgg
          injection hgg with hgg _ _
          subst hgg
          obtain ⟨t, hne, ht⟩ := neBs (b i) (c i)
          have HI2 : Hid (b i = c i → ∀ j, j < i + 1 → b j = c j) := fun h j hj => by
            rcases Nat.lt_succ_iff_lt_or_eq.1 hj with h1 | rfl
            · exact HI.out j h1
            · exact h
          have HN : Hid (¬ b i = c i → ¬ Asg T m b) := fun h1 h2 => h1 ((hq.out.1 h2).2 i hin).symm
          generalize (b i).bu = p0 at *
          generalize (b i).se = p1 at *
          generalize (b i).su = p2 at *
          generalize (c i).bu = q0 at *
          generalize (c i).se = q1 at *
          generalize (c i).su = q2 at *
          cases t
          · have h2 := Lib.hid (HI2.out (ht.1 rfl))
            clear ht HI2 HN
            go_wp2_with fail
            go_quiet (fail)
            go_wp2_with fail
            go_roundw
            case rel => exact ⟨i + 1, by omega, by go_num, bdN B2.out _, h2⟩
            case measure => simp [intOf]; omega
          · have h2 := Lib.hid (HN.out (fun h => by have := ht.2 h; cases this))
            clear ht HI2 HN
            go_wp2_with fail
            go_quiet (fail)
            go_wp2_with fail
            go_ret
            exact vno h2.out (bdN (bthen B1.out B2.out) _)
        · have y1 : ¬ (i : Int) < m := by omega
          have hv : Hid (Asg T m b) := hq.out.2 ⟨rfl, fun j hj => (HI.out j (by omega)).symm⟩
          go_wp2_with fail
          go_ret
          exact vyes hv.out (bthen B1.out B2.out)
    · have hnn : ((m : Int) != (n : Int)) = true := by simp; omega
      have hv : Hid (¬ Asg T n b) := fun h => hnm (hq.out.1 h).1
      go_wp2_with fail
      go_ret
      exact vno hv.out B1.out
/-- Two rows of ints. -/
theorem equalI_any {w : World} {v v' : Value} {A C : List Int} (h : IR w v A) (h' : IR w v' C) (hA : A.length ≤ 1000000) (_hC : C.length ≤ 1000000) :
    Calls Try.prog 23 #[v, v'] w (VPost (A = C) w) := by
  obtain ⟨a, cap, rfl, hcp, f1⟩ := h.form
  obtain ⟨a', cap', rfl, hcp', f2⟩ := h'.form
  have H := Lib.hid f1
  have H' := Lib.hid f2
  clear f1 f2 h h'
  by_cases hnm : A.length = C.length
  · have HL := Lib.hid hnm
    rw [← hnm] at hcp' H' ⊢
    obtain ⟨n, hn⟩ : ∃ n, A.length = n := ⟨_, rfl⟩
    have HN := Lib.hid hn
    rw [hn] at hcp hcp' H H' hA ⊢
    clear hn hnm
    have hnn : ((n : Int) != (n : Int)) = false := by simp
    go_enter Try.func23, Try.ntmps23
    go_wp2_with fail
    go_loopw [5] (fun z wr => ∃ i : Nat, i ≤ n ∧ z = .int .i64 (i : Int) ∧ Hid (Below w.heap.size w wr) ∧ Hid (∀ j, j < i → A.getD j 0 = C.getD j 0)) (fun z _ => n - (intOf z).toNat)
    case atStart => exact ⟨0, by omega, rfl, Below.refl _ _, fun j hj => by omega⟩
    case round =>
      obtain ⟨i, hi, rfl, B, HI⟩ := hrel
      by_cases hin : i < n
      · have y1 : (i : Int) < n := by omega
        obtain ⟨g, rfl, hg, c0'⟩ := H.out i hin
        obtain ⟨g', rfl, hg', d0'⟩ := H'.out i hin
        have c0 := (B.out.cell (p := ⟨g, i, none⟩) hg).trans c0'
        have d0 := (B.out.cell (p := ⟨g', i, none⟩) hg').trans d0'
        clear c0' d0'
        have HI2 : Hid (A.getD i 0 = C.getD i 0 → ∀ j, j < i + 1 → A.getD j 0 = C.getD j 0) := fun h j hj => by
          rcases Nat.lt_succ_iff_lt_or_eq.1 hj with h1 | rfl
          · exact HI.out j h1
          · exact h
        have HNE : Hid (¬ A.getD i 0 = C.getD i 0 → ¬ A = C) := fun h1 h2 => h1 (by rw [h2])
        generalize A.getD i 0 = p0 at *
        generalize C.getD i 0 = q0 at *
        by_cases e : p0 = q0
        · have h2 := Lib.hid (HI2.out e)
          clear HI2 HNE
          subst e
          have e2 : (p0 != p0) = false := by simp
          go_wp2_with fail
          go_quiet (fail)
          go_wp2_with fail
          go_roundw
          case rel => exact ⟨i + 1, by omega, by go_num, bdN B.out _, h2⟩
          case measure => simp [intOf]; omega
        · have h2 := Lib.hid (HNE.out e)
          clear HI2 HNE
          have e2 : (p0 != q0) = true := by simp [e]
          go_wp2_with fail
          go_quiet (fail)
          go_wp2_with fail
          go_ret
          exact vno h2.out (bdN B.out _)
      · have y1 : ¬ (i : Int) < n := by omega
        have hv : Hid (A = C) := by
          show A = C
          refine List.ext_getElem HL.out (fun j h1 h2 => ?_)
          have := HI.out j (by have := HN.out; omega)
          simpa [List.getD_eq_getElem?_getD, h1, h2] using this
        go_wp2_with fail
        go_ret
        exact vyes hv.out B.out
  · have hnn : ((A.length : Int) != (C.length : Int)) = true := by simp; omega
    have hv : Hid (¬ A = C) := fun h => hnm (by rw [h])
    go_enter Try.func23, Try.ntmps23
    go_wp2_with fail
    go_ret
    exact vno hv.out (Below.refl _ _)
end Go.Proofs.Ytedihfcbpgogoaa
