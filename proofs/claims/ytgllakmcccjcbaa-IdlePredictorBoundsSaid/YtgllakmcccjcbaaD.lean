/- Energy of the program and of the reference: what they answer. No condition. -/
import Derived.Test.YtgllakmcccjcbaaC
import Derived.IntWalk
namespace Go.Proofs.Ytgllakmcccjcbaa
open Go.RowKit

/-- The energy of state st for duration d: its own part, and the first k steps down. -/
def en (f : Nat → S) (st : Nat) (d : Int) : Nat → Int
  | 0 => (f st).p * d
  | k + 1 => en f st d k + ((f k).p - (f (k + 1)).p) * (f (k + 1)).r

theorem mul_bd {a b A B : Int} (ha : 0 ≤ a) (hA : a ≤ A) (hb : 0 ≤ b) (hB : b ≤ B) : 0 ≤ a * b ∧ a * b ≤ A * B :=
  ⟨Int.mul_nonneg ha hb, Int.le_trans (Int.mul_le_mul_of_nonneg_right hA hb) (Int.mul_le_mul_of_nonneg_left hB (by omega))⟩

theorem Valid.step {f : Nat → S} {n k : Nat} (hv : Valid f n) (hs : ∀ i, i < n → (f i).wf) (hk : k + 1 < n) :
    0 ≤ (f k).p - (f (k + 1)).p ∧ (f k).p - (f (k + 1)).p ≤ 1048576 ∧ 0 ≤ (f (k + 1)).r ∧ (f (k + 1)).r ≤ 1073741824 ∧
    0 ≤ ((f k).p - (f (k + 1)).p) * (f (k + 1)).r ∧ ((f k).p - (f (k + 1)).p) * (f (k + 1)).r ≤ 1125899906842624 := by
  obtain ⟨_, q2, q3, _, q5⟩ := hv.2.2 (k + 1) hk
  obtain ⟨_, _, q3', _, _⟩ := hv.2.2 k (by omega)
  obtain ⟨_, _, r1, _, r2, _⟩ := hs (k + 1) hk
  obtain ⟨_, _, _, _, r3, _⟩ := hs k (by omega)
  have q6 := q5 (by omega)
  simp only [Nat.add_sub_cancel] at q6
  have := mul_bd (a := (f k).p - (f (k + 1)).p) (b := (f (k + 1)).r) (A := 1048576) (B := 1073741824) (by omega) (by omega) r1 q2
  exact ⟨by omega, by omega, r1, q2, this.1, by have := this.2; omega⟩

theorem en_bd {f : Nat → S} {n st : Nat} {d : Int} (hv : Valid f n) (hs : ∀ i, i < n → (f i).wf) (hst : st < n) (h0 : 0 ≤ d) (h1 : d ≤ 1099511627776) (k : Nat) (hk : k ≤ st) :
    0 ≤ en f st d k ∧ en f st d k ≤ 1152921504606846976 + k * 1125899906842624 := by
  induction k with
  | zero =>
    obtain ⟨_, _, q3, _, _⟩ := hv.2.2 st hst
    obtain ⟨_, _, _, _, r3, _⟩ := hs st hst
    have := mul_bd r3 q3 h0 h1
    unfold en; omega
  | succ k ih =>
    have h := ih (by omega)
    have := hv.step hs (k := k) (by omega)
    unfold en; omega

theorem energy_no (A : Option Addr) (n c : Nat) (st d : Int) (w : World) (f : Nat → S) (hn : n ≤ 9223372036854775807) (hsl : Sl w w.heap.size A n f) (hv : ¬ Valid f n) :
    Calls Try.prog 20 #[.slice A n c, .int .i64 st, .int .u64 d] w fun e w' => e = .returned (.tuple #[.int .u64 0, .int .i64 1]) ∧ Below w.heap.size w w' := by
  have HS := Lib.hid hsl
  have HV := Lib.hid hv
  clear hsl hv
  go_enter Try.func20, Try.ntmps20
  go_wp2_with (go_at_call 18; refine (check_no _ _ _ _ _ hn HS.out HV.out).mono ?_; rintro e w1 ⟨rfl, hb1⟩)
  go_ret2
  exact ⟨rfl, hb1⟩
theorem energy_out (A : Option Addr) (n c : Nat) (st d : Int) (w : World) (f : Nat → S) (hn : n ≤ 9223372036854775807) (hsl : Sl w w.heap.size A n f) (hv : Valid f n) (ho : st < 0 ∨ (n : Int) ≤ st ∨ 1099511627776 < d) :
    Calls Try.prog 20 #[.slice A n c, .int .i64 st, .int .u64 d] w fun e w' => e = .returned (.tuple #[.int .u64 0, .int .i64 1]) ∧ Below w.heap.size w w' := by
  have HS := Lib.hid hsl
  have HV := Lib.hid hv
  clear hsl hv
  by_cases h1 : st < 0
  · have d1 : decide (st < 0) = true := by simp; omega
    go_enter Try.func20, Try.ntmps20
    go_wp2_with (go_at_call 18; refine (check_yes _ _ _ _ _ hn HS.out HV.out).mono ?_; rintro e w1 ⟨rfl, hb1⟩)
    go_ret2
    exact ⟨rfl, hb1⟩
  have d1 : decide (st < 0) = false := by simp; omega
  by_cases h2 : (n : Int) ≤ st
  · have d2 : decide ((n : Int) ≤ st) = true := by simp; omega
    go_enter Try.func20, Try.ntmps20
    go_wp2_with (go_at_call 18; refine (check_yes _ _ _ _ _ hn HS.out HV.out).mono ?_; rintro e w1 ⟨rfl, hb1⟩)
    go_ret2
    exact ⟨rfl, hb1⟩
  have d2 : decide ((n : Int) ≤ st) = false := by simp; omega
  have d3 : decide (1099511627776 < d) = true := by simp; omega
  go_enter Try.func20, Try.ntmps20
  go_wp2_with (go_at_call 18; refine (check_yes _ _ _ _ _ hn HS.out HV.out).mono ?_; rintro e w1 ⟨rfl, hb1⟩)
  go_ret2
  exact ⟨rfl, hb1⟩

set_option maxHeartbeats 1000000 in
theorem energy_yes (A : Option Addr) (n c st : Nat) (d : Int) (w : World) (f : Nat → S) (hn : n ≤ 9223372036854775807) (hsl : Sl w w.heap.size A n f) (hv : Valid f n) (hst : st < n) (h0 : 0 ≤ d) (h1 : d ≤ 1099511627776) :
    Calls Try.prog 20 #[.slice A n c, .int .i64 st, .int .u64 d] w fun e w' => e = .returned (.tuple #[.int .u64 (en f st d st), .int .i64 0]) ∧ Below w.heap.size w w' := by
  have HS := Lib.hid hsl
  have HV := Lib.hid hv
  have hp := en_bd hv hsl.1 hst h0 h1 0 (Nat.zero_le _)
  have hn10 := hv.2.1
  unfold en at hp
  obtain ⟨b, off, rfl, hb, -⟩ := hsl.2 hv.1
  clear hsl hv
  have d1 : decide ((st : Int) < 0) = false := by simp
  have d2 : decide ((n : Int) ≤ (st : Int)) = false := by simp; omega
  have d3 : decide (1099511627776 < d) = false := by simp; omega
  go_enter Try.func20, Try.ntmps20
  go_wp2_with (go_at_call 18; refine (check_yes _ _ _ _ _ hn HS.out HV.out).mono ?_; rintro e w1 ⟨rfl, hb1⟩; obtain ⟨b', off', e', _, c0, c1, c2⟩ := HS.out.at_ hb1 hst; simp only [Option.some.injEq, Addr.mk.injEq, and_true] at e'; obtain ⟨rfl, rfl⟩ := e')
  clear d1 d2 d3 c0 c1 c2
  go_loopw [9, 10] (fun t i wr => ∃ k : Nat, k ≤ st ∧ i = .int .i64 (k + 1) ∧ t = .int .u64 (en f st d k) ∧ Below w.heap.size w wr) (fun _ i _ => st + 1 - (intOf i).toNat)
  case atStart => exact ⟨0, Nat.zero_le _, rfl, rfl, hb1⟩
  case round =>
    obtain ⟨k, hk, rfl, rfl, hbel⟩ := hrel
    have hsz := hbel.size
    have hbw : b < wr.heap.size := by omega
    by_cases hlt : k < st
    case neg =>
      obtain rfl : k = st := by omega
      go_wp2
      go_ret2
      exact ⟨rfl, hbel⟩
    obtain ⟨b', off', e, _, -, -, c2⟩ := HS.out.at_ hbel (show k < n by omega)
    simp only [Option.some.injEq, Addr.mk.injEq, and_true] at e
    obtain ⟨rfl, rfl⟩ := e
    obtain ⟨b', off', e, _, -, x1, x2⟩ := HS.out.at_ hbel (show k + 1 < n by omega)
    simp only [Option.some.injEq, Addr.mk.injEq, and_true] at e
    obtain ⟨rfl, rfl⟩ := e
    obtain ⟨s1, s2, s3, s4, s5, s6⟩ := HV.out.step HS.out.1 (k := k) (by omega)
    have eb := en_bd HV.out HS.out.1 hst h0 h1 k (by omega)
    have g1 : (k : Int) + 1 < n := by omega
    go_wp2
    go_quiet (fail)
    go_wp2
    go_roundw
    case rel => exact ⟨k + 1, by omega, by go_num, rfl, below_drewN hbel _⟩
    case measure => simp [intOf]; omega

theorem refenergy_no (A : Option Addr) (n c : Nat) (st d : Int) (w : World) (f : Nat → S) (hn : n ≤ 9223372036854775807) (hsl : Sl w w.heap.size A n f) (hv : ¬ Valid f n) :
    Calls Try.prog 21 #[.slice A n c, .int .i64 st, .int .u64 d] w fun e w' => e = .returned (.tuple #[.int .u64 0, .int .i64 1]) ∧ Below w.heap.size w w' := by
  have HS := Lib.hid hsl
  have HV := Lib.hid hv
  clear hsl hv
  go_enter Try.func21, Try.ntmps21
  go_wp2_with (go_at_call 19; refine (refcheck_no _ _ _ _ _ hn HS.out HV.out).mono ?_; rintro e w1 ⟨rfl, hb1⟩)
  go_ret2
  exact ⟨rfl, hb1⟩
theorem refenergy_out (A : Option Addr) (n c : Nat) (st d : Int) (w : World) (f : Nat → S) (hn : n ≤ 9223372036854775807) (hsl : Sl w w.heap.size A n f) (hv : Valid f n) (ho : st < 0 ∨ (n : Int) ≤ st ∨ 1099511627776 < d) :
    Calls Try.prog 21 #[.slice A n c, .int .i64 st, .int .u64 d] w fun e w' => e = .returned (.tuple #[.int .u64 0, .int .i64 1]) ∧ Below w.heap.size w w' := by
  have HS := Lib.hid hsl
  have HV := Lib.hid hv
  clear hsl hv
  by_cases h1 : st < 0
  · have d1 : decide (st < 0) = true := by simp; omega
    go_enter Try.func21, Try.ntmps21
    go_wp2_with (go_at_call 19; refine (refcheck_yes _ _ _ _ _ hn HS.out HV.out).mono ?_; rintro e w1 ⟨rfl, hb1⟩)
    go_ret2
    exact ⟨rfl, hb1⟩
  have d1 : decide (st < 0) = false := by simp; omega
  by_cases h2 : (n : Int) ≤ st
  · have d2 : decide ((n : Int) ≤ st) = true := by simp; omega
    go_enter Try.func21, Try.ntmps21
    go_wp2_with (go_at_call 19; refine (refcheck_yes _ _ _ _ _ hn HS.out HV.out).mono ?_; rintro e w1 ⟨rfl, hb1⟩)
    go_ret2
    exact ⟨rfl, hb1⟩
  have d2 : decide ((n : Int) ≤ st) = false := by simp; omega
  have d3 : decide (1099511627776 < d) = true := by simp; omega
  go_enter Try.func21, Try.ntmps21
  go_wp2_with (go_at_call 19; refine (refcheck_yes _ _ _ _ _ hn HS.out HV.out).mono ?_; rintro e w1 ⟨rfl, hb1⟩)
  go_ret2
  exact ⟨rfl, hb1⟩

set_option maxHeartbeats 1000000 in
theorem refenergy_yes (A : Option Addr) (n c st : Nat) (d : Int) (w : World) (f : Nat → S) (hn : n ≤ 9223372036854775807) (hsl : Sl w w.heap.size A n f) (hv : Valid f n) (hst : st < n) (h0 : 0 ≤ d) (h1 : d ≤ 1099511627776) :
    Calls Try.prog 21 #[.slice A n c, .int .i64 st, .int .u64 d] w fun e w' => e = .returned (.tuple #[.int .u64 (en f st d st), .int .i64 0]) ∧ Below w.heap.size w w' := by
  have HS := Lib.hid hsl
  have HV := Lib.hid hv
  have hp := en_bd hv hsl.1 hst h0 h1 0 (Nat.zero_le _)
  have hn10 := hv.2.1
  unfold en at hp
  obtain ⟨b, off, rfl, hb, -⟩ := hsl.2 hv.1
  clear hsl hv
  have d1 : decide ((st : Int) < 0) = false := by simp
  have d2 : decide ((n : Int) ≤ (st : Int)) = false := by simp; omega
  have d3 : decide (1099511627776 < d) = false := by simp; omega
  go_enter Try.func21, Try.ntmps21
  go_wp2_with (go_at_call 19; refine (refcheck_yes _ _ _ _ _ hn HS.out HV.out).mono ?_; rintro e w1 ⟨rfl, hb1⟩; obtain ⟨b', off', e', _, c0, c1, c2⟩ := HS.out.at_ hb1 hst; simp only [Option.some.injEq, Addr.mk.injEq, and_true] at e'; obtain ⟨rfl, rfl⟩ := e')
  clear d1 d2 d3 c0 c1 c2
  go_loopw [9, 10] (fun t i wr => ∃ k : Nat, k ≤ st ∧ i = .int .i64 (k + 1) ∧ t = .int .u64 (en f st d k) ∧ Below w.heap.size w wr) (fun _ i _ => st + 1 - (intOf i).toNat)
  case atStart => exact ⟨0, Nat.zero_le _, rfl, rfl, hb1⟩
  case round =>
    obtain ⟨k, hk, rfl, rfl, hbel⟩ := hrel
    have hsz := hbel.size
    have hbw : b < wr.heap.size := by omega
    by_cases hlt : k < st
    case neg =>
      obtain rfl : k = st := by omega
      go_wp2
      go_ret2
      exact ⟨rfl, hbel⟩
    obtain ⟨b', off', e, _, -, -, c2⟩ := HS.out.at_ hbel (show k < n by omega)
    simp only [Option.some.injEq, Addr.mk.injEq, and_true] at e
    obtain ⟨rfl, rfl⟩ := e
    obtain ⟨b', off', e, _, -, x1, x2⟩ := HS.out.at_ hbel (show k + 1 < n by omega)
    simp only [Option.some.injEq, Addr.mk.injEq, and_true] at e
    obtain ⟨rfl, rfl⟩ := e
    obtain ⟨s1, s2, s3, s4, s5, s6⟩ := HV.out.step HS.out.1 (k := k) (by omega)
    have eb := en_bd HV.out HS.out.1 hst h0 h1 k (by omega)
    have g1 : (k : Int) + 1 < n := by omega
    go_wp2
    go_quiet (fail)
    go_wp2
    go_roundw
    case rel => exact ⟨k + 1, by omega, by go_num, rfl, below_drewN hbel _⟩
    case measure => simp [intOf]; omega
end Go.Proofs.Ytgllakmcccjcbaa
