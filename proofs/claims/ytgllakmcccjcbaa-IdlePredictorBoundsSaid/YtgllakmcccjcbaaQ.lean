/- The predictors: what each call does to their blocks. No condition. -/
import Derived.Test.YtgllakmcccjcbaaQ0
import Derived.Deep.QuietTactic
import Derived.BigQuiet
import Derived.RegionTactic
import Derived.Deep.MidRow
import Derived.Deep.DeepCutAuto
namespace Go.Proofs.Ytgllakmcccjcbaa
open Go.RowKit K

/-- The cells of the program's predictor: how many, where the next goes, the ring of eight. -/
def pv (c q : Nat) (R : Nat → Int) (i : Nat) : Value := if i = 0 then .int .i64 (c : Int) else if i = 1 then .int .i64 (q : Int) else .int .u64 (R (i - 2))
theorem pv0 (c q : Nat) (R : Nat → Int) : pv c q R 0 = .int .i64 (c : Int) := rfl
theorem pv1 (c q : Nat) (R : Nat → Int) : pv c q R 1 = .int .i64 (q : Int) := rfl
theorem pv2 (c q : Nat) (R : Nat → Int) (i : Nat) : pv c q R (2 + i) = .int .u64 (R i) := by
  unfold pv; rw [if_neg (by omega), if_neg (by omega), show 2 + i - 2 = i by omega]
def PB (w : World) (B c q : Nat) (R : Nat → Int) : Prop := Row w B 64 10 (pv c q R)

section
variable {w : World} {B c q : Nat} {R : Nat → Int}
theorem PB.at_ (h : PB w B c q R) : w.cell? ⟨B, 0, none⟩ = some (.int .i64 (c : Int)) ∧ w.cell? ⟨B, 1, none⟩ = some (.int .i64 (q : Int)) ∧ (∀ j, j < 8 → w.cell? ⟨B, 2 + j, none⟩ = some (.int .u64 (R j))) ∧ ∀ i, w.frozen? ⟨B, i, none⟩ = false :=
  ⟨Row.cell h (by omega), Row.cell h (by omega), fun j hj => by rw [Row.cell h (by omega), pv2], fun i => Row.frozen h i⟩
theorem PB.lt (h : PB w B c q R) : B < w.heap.size := Row.lt h
theorem PB.rec (h : PB w B c q R) (hq : q < 8) (d : Int) (c' q' : Nat) :
    PB (((w.setCell ⟨B, 2 + q, none⟩ (.int .u64 d)).setCell ⟨B, 1, none⟩ (.int .i64 (q' : Int))).setCell ⟨B, 0, none⟩ (.int .i64 (c' : Int))) B c' q' (upd R q d) := by
  refine Row.congr (Row.set (Row.set (Row.set h (i := 2 + q) (by omega) _) (i := 1) (by omega) _) (i := 0) (by omega) _) fun i hi => ?_
  by_cases e0 : i = 0
  · subst e0; rw [upd_hit, pv0]
  rw [upd_miss _ _ e0]
  by_cases e1 : i = 1
  · subst e1; rw [upd_hit, pv1]
  rw [upd_miss _ _ e1]
  obtain ⟨j, rfl⟩ : ∃ j, i = 2 + j := ⟨i - 2, by omega⟩
  rw [pv2]
  by_cases e : j = q
  · subst e; rw [upd_hit, upd_hit]
  · rw [upd_miss _ _ (by omega), upd_miss _ _ e, pv2]
theorem PB.rec' (h : PB w B c q R) (hq : q < 8) (d : Int) (c' q' : Nat) (a b : Int) (ea : a = q') (eb : b = c') :
    PB (((w.setCell ⟨B, 2 + q, none⟩ (.int .u64 d)).setCell ⟨B, 1, none⟩ (.int .i64 a)).setCell ⟨B, 0, none⟩ (.int .i64 b)).drew B c' q' (upd R q d) := by
  subst ea eb; exact h.rec hq d c' q'
theorem PB.ch {w' : World} {C : Nat → Prop} (h : PB w B c q R) (k : Ch C w w') (hB : ¬ C B) : PB w' B c q R := Row.ch h k hB
theorem PB.below {w' : World} {B0 : Nat} (h : PB w B c q R) (k : Below B0 w w') (hB : B < B0) : PB w' B c q R := Row.below h k hB
end

theorem newpred_any (w : World) : Calls Try.prog 22 #[] w fun e w' => e = .returned (.pointer (some ⟨w.heap.size, 0, none⟩)) ∧ PB w' w.heap.size 0 0 (fun _ => 0) ∧ Below w.heap.size w w' := by
  go_enter Try.func22, Try.ntmps22
  go_wp2
  go_ret
  refine ⟨rfl, ?_, (Below.refl _ _).alloc (Nat.le_refl _) _⟩
  exact Row.ofList w 64 _ _ 10 (by kernel_rfl)

theorem record_no (B : Nat) (d : Int) (w : World) (hd : 1152921504606846976 < d) : Calls Try.prog 24 #[.pointer (some ⟨B, 0, none⟩), .int .u64 d] w fun e w' => e = .returned (.int .i64 1) ∧ w = w' := by
  have d1 : decide (1152921504606846976 < d) = true := by simp; omega
  go_enter Try.func24, Try.ntmps24
  go_wp2
  go_ret
  exact ⟨rfl, rfl⟩

/-- How many are counted. -/
def cnt (c : Nat) : Nat := if c < 8 then c + 1 else 8

set_option maxHeartbeats 1000000 in
theorem record_yes (B c q : Nat) (R : Nat → Int) (d : Int) (w : World) (hd : d ≤ 1152921504606846976) (hc : c ≤ 8) (hq : q < 8) (h : PB w B c q R) :
    Calls Try.prog 24 #[.pointer (some ⟨B, 0, none⟩), .int .u64 d] w fun e w' => e = .returned (.int .i64 0) ∧ PB w' B (cnt c) ((q + 1) % 8) (upd R q d) ∧ Ch (· = B) w w' := by
  have d1 : decide (1152921504606846976 < d) = false := by simp; omega
  have H := Lib.hid h
  obtain ⟨c0, c1, c2, fr⟩ := h.at_
  have c2q := c2 q hq
  have f0 := fr 0
  have f1 := fr 1
  have f2 := fr (2 + q)
  clear c2 fr h
  have H1 := Lib.hid (Row.set H.out (i := 2 + q) (by omega) (.int .u64 d))
  have g1 := Row.cell H1.out (i := 1) (by omega)
  rw [upd_miss _ _ (by omega), pv1] at g1
  have e1 := Row.frozen H1.out 1
  have H2 := Lib.hid (Row.set H1.out (i := 1) (by omega) (.int .i64 (((q + 1) % 8 : Nat) : Int)))
  have g0 := Row.cell H2.out (i := 0) (by omega)
  rw [upd_miss _ _ (by omega), upd_miss _ _ (by omega), pv0] at g0
  have e0 := Row.frozen H2.out 0
  have q0 : (0 : Int) ≤ (q : Int) := by omega
  have q1 : (q : Int) < 8 := by omega
  by_cases hc8 : c < 8
  · have ec : cnt c = c + 1 := if_pos hc8
    rw [ec]
    go_enter Try.func24, Try.ntmps24
    go_wp2
    go_region
    go_wp2
    all_goals
      go_ret
      refine ⟨rfl, H.out.rec' hq d (c + 1) ((q + 1) % 8) _ _ (by omega) (by omega), ?_⟩
      exact ((((Ch.refl (· = B) w).setCell (p := ⟨B, 2 + q, none⟩) (fun _ => rfl) _).setCell (p := ⟨B, 1, none⟩) (fun _ => rfl) _).setCell (p := ⟨B, 0, none⟩) (fun _ => rfl) _).drew
  · have ec : cnt c = 8 := if_neg hc8
    rw [ec]
    go_enter Try.func24, Try.ntmps24
    go_wp2
    go_region
    go_wp2
    all_goals
      go_ret
      refine ⟨rfl, H.out.rec' hq d 8 ((q + 1) % 8) _ _ (by omega) (by omega), ?_⟩
      exact ((((Ch.refl (· = B) w).setCell (p := ⟨B, 2 + q, none⟩) (fun _ => rfl) _).setCell (p := ⟨B, 1, none⟩) (fun _ => rfl) _).setCell (p := ⟨B, 0, none⟩) (fun _ => rfl) _).drew

def Rb (R : Nat → Int) : Prop := ∀ j, j < 8 → 0 ≤ R j ∧ R j ≤ 1152921504606846976

def rls (R : Nat → Int) : List Value := (List.range 8).map fun i => Value.int .u64 (R i)
theorem rls_len (R : Nat → Int) : (rls R).length = 8 := by simp [rls]
theorem rls_at (R : Nat → Int) {k : Nat} (h : k < 8) : (rls R).toArray[k]? = some (.int .u64 (R k)) := by simp [rls, h]
theorem PB.range {w : World} {B c q : Nat} {R : Nat → Int} (h : PB w B c q R) : w.rangeAt B 2 (rls R) := fun j u hu => by
  have hj : j < 8 := by have := (List.getElem?_eq_some_iff.1 hu).1; rwa [rls_len] at this
  have := rls_at R hj
  simp only [List.getElem?_toArray] at this
  rw [hu] at this
  rw [h.at_.2.2.1 j hj, ← this]
theorem Try.info62 : (Try.prog.info? 62).map (·.size) = some 8 := by kernel_rfl
theorem Try.info23 : (Try.prog.info? 23).map (fun i => (i.zero, i.size, i.bytes)) = some (some (.int .u64 0), 1, 8) := by kernel_rfl

theorem expected_few (B c q : Nat) (R : Nat → Int) (t : Int) (w : World) (hc : c < 8) (h : PB w B c q R) :
    Calls Try.prog 26 #[.pointer (some ⟨B, 0, none⟩), .int .u64 t] w fun e w' => e = .returned (.int .u64 t) ∧ w = w' := by
  obtain ⟨c0, -, -, -⟩ := h.at_
  clear h
  have d1 : decide ((c : Int) < 8) = true := by simp; omega
  go_enter Try.func26, Try.ntmps26
  go_wp2
  go_ret
  exact ⟨rfl, rfl⟩

set_option maxHeartbeats 1000000 in
theorem expected_any (B c q : Nat) (R : Nat → Int) (t : Int) (w : World) (hc : 8 ≤ c) (hR : Rb R) (_ht : 0 ≤ t) (h : PB w B c q R) :
    Calls Try.prog 26 #[.pointer (some ⟨B, 0, none⟩), .int .u64 t] w fun e w' => e = .returned (.int .u64 (expd (sm R 8) (mx R 8) t)) ∧ w = w' := by
  have H := Lib.hid h
  obtain ⟨c0, -, -, -⟩ := h.at_
  clear h
  have HR := Lib.hid hR
  clear hR
  have d1 : decide ((c : Int) < 8) = false := by simp; omega
  obtain ⟨i0, hi, hz0, hz1, hz2⟩ := info_parts Try.info23
  have HX := Lib.hid (fun (k : Nat) (hk : k < 8) (W : World) => run_index_array (P := Try.prog) 62 23 8 _ i0 (rls R).toArray k _ Try.underlying62 Try.underlying23 rfl hi hz1 hk (rls_at R hk) W)
  clear hi hz0 hz1 hz2
  go_enter Try.func26, Try.ntmps26
  go_wp2_with (refine wpList_load_mid rfl 62 _ rfl B 2 rfl (rls R) _ H.out.range Try.underlying62 rfl (by rw [rls_len]; exact Try.info62) ?_)
  go_loop [5, 6, 19] (fun a b i => ∃ k : Nat, k ≤ 8 ∧ i = .int .i64 k ∧ a = .int .u64 (sm R k) ∧ b = .int .u64 (mx R k)) (fun _ _ i => 8 - (intOf i).toNat)
  case atStart => exact ⟨0, by omega, rfl, rfl, rfl⟩
  case round =>
    obtain ⟨k, hk, rfl, rfl, rfl⟩ := hrel
    obtain ⟨s0, s1⟩ := sm_bd R k 1152921504606846976 fun i hi => HR.out i (by omega)
    have m0 := mx_nonneg R k
    have m1 := mx_le_sm R k fun i hi => (HR.out i (by omega)).1
    by_cases hlt : k < 8
    · have hx := HX.out k hlt
      obtain ⟨r0, r1⟩ := HR.out k hlt
      have k1 : (k : Int) < 8 := by omega
      have ES := Lib.hid (show sm R (k + 1) = sm R k + R k from rfl)
      by_cases hm : mx R k < R k
      · have EM := Lib.hid (show mx R (k + 1) = R k from if_pos hm)
        go_wp2_with fail
        go_round
        case rel => exact ⟨k + 1, by omega, by go_num, by rw [ES.out], by rw [EM.out]⟩
        case measure => simp [intOf]; omega
      · have EM := Lib.hid (show mx R (k + 1) = mx R k from if_neg hm)
        go_wp2_with fail
        all_goals
          go_round
          case rel => exact ⟨k + 1, by omega, by go_num, by rw [ES.out], by rw [EM.out]; try (congr 1; omega)⟩
          case measure => simp [intOf]; omega
    · have k1 : ¬ (k : Int) < 8 := by omega
      obtain rfl : k = 8 := by omega
      by_cases hm : t < (sm R 8 - mx R 8) / 7
      · have EX := Lib.hid (show expd (sm R 8) (mx R 8) t = t from if_pos hm)
        go_wp2_with fail
        all_goals go_ret
        all_goals exact ⟨by rw [EX.out]; rfl, rfl⟩
      · have EX := Lib.hid (show expd (sm R 8) (mx R 8) t = (sm R 8 - mx R 8) / 7 from if_neg hm)
        go_wp2_with fail
        all_goals go_ret
        all_goals first | exact ⟨by rw [EX.out]; rfl, rfl⟩ | exact ⟨by rw [EX.out]; exact ret_int (by omega), rfl⟩
end Go.Proofs.Ytgllakmcccjcbaa
