/- Select of the program and of the reference: what they answer. No condition. -/
import Derived.Test.YtgllakmcccjcbaaA
import Derived.Test.YtgllakmcccjcbaaB
namespace Go.Proofs.Ytgllakmcccjcbaa
open Go.RowKit

theorem check_yes (A : Option Addr) (n c : Nat) (w : World) (f : Nat → S) (hn : n ≤ 9223372036854775807) (hsl : Sl w w.heap.size A n f) (hv : Valid f n) :
    Calls Try.prog 18 #[.slice A n c] w fun e w' => e = .returned (.int .i64 0) ∧ Below w.heap.size w w' :=
  (check_any A n c w f hn hsl).mono fun e w' ⟨c, he, h, hb⟩ => by
    rcases h with ⟨rfl, _⟩ | ⟨_, h⟩
    · exact ⟨he, hb⟩
    · exact absurd hv h
theorem check_no (A : Option Addr) (n c : Nat) (w : World) (f : Nat → S) (hn : n ≤ 9223372036854775807) (hsl : Sl w w.heap.size A n f) (hv : ¬ Valid f n) :
    Calls Try.prog 18 #[.slice A n c] w fun e w' => e = .returned (.int .i64 1) ∧ Below w.heap.size w w' :=
  (check_any A n c w f hn hsl).mono fun e w' ⟨c, he, h, hb⟩ => by
    rcases h with ⟨_, h⟩ | ⟨rfl, _⟩
    · exact absurd h hv
    · exact ⟨he, hb⟩
theorem refcheck_yes (A : Option Addr) (n c : Nat) (w : World) (f : Nat → S) (hn : n ≤ 9223372036854775807) (hsl : Sl w w.heap.size A n f) (hv : Valid f n) :
    Calls Try.prog 19 #[.slice A n c] w fun e w' => e = .returned (.int .i64 0) ∧ Below w.heap.size w w' :=
  (refcheck_any A n c w f hn hsl).mono fun e w' ⟨c, he, h, hb⟩ => by
    rcases h with ⟨rfl, _⟩ | ⟨_, h⟩
    · exact ⟨he, hb⟩
    · exact absurd hv h
theorem refcheck_no (A : Option Addr) (n c : Nat) (w : World) (f : Nat → S) (hn : n ≤ 9223372036854775807) (hsl : Sl w w.heap.size A n f) (hv : ¬ Valid f n) :
    Calls Try.prog 19 #[.slice A n c] w fun e w' => e = .returned (.int .i64 1) ∧ Below w.heap.size w w' :=
  (refcheck_any A n c w f hn hsl).mono fun e w' ⟨c, he, h, hb⟩ => by
    rcases h with ⟨_, h⟩ | ⟨rfl, _⟩
    · exact absurd h hv
    · exact ⟨he, hb⟩

/-- The last state among the first k that fits, or 0. -/
def sel (f : Nat → S) (x y : Int) : Nat → Nat
  | 0 => 0
  | k + 1 => if (f k).l ≤ y ∧ (f k).r ≤ x then k else sel f x y k

theorem sel_le (f : Nat → S) (x y : Int) (k : Nat) : sel f x y k ≤ k := by
  induction k with
  | zero => exact Nat.le_refl _
  | succ k ih => unfold sel; split <;> omega

theorem select_no (A : Option Addr) (n c : Nat) (x y : Int) (w : World) (f : Nat → S) (hn : n ≤ 9223372036854775807) (hsl : Sl w w.heap.size A n f) (hv : ¬ Valid f n) :
    Calls Try.prog 16 #[.slice A n c, .int .u64 x, .int .u64 y] w fun e w' => e = .returned (.tuple #[.int .i64 0, .int .i64 1]) ∧ Below w.heap.size w w' := by
  have HS := Lib.hid hsl
  have HV := Lib.hid hv
  clear hsl hv
  go_enter Try.func16, Try.ntmps16
  go_wp2_with (go_at_call 18; refine (check_no _ _ _ _ _ hn HS.out HV.out).mono ?_; rintro e w1 ⟨rfl, hb1⟩)
  go_ret2
  exact ⟨rfl, hb1⟩
theorem refselect_no (A : Option Addr) (n c : Nat) (x y : Int) (w : World) (f : Nat → S) (hn : n ≤ 9223372036854775807) (hsl : Sl w w.heap.size A n f) (hv : ¬ Valid f n) :
    Calls Try.prog 17 #[.slice A n c, .int .u64 x, .int .u64 y] w fun e w' => e = .returned (.tuple #[.int .i64 0, .int .i64 1]) ∧ Below w.heap.size w w' := by
  have HS := Lib.hid hsl
  have HV := Lib.hid hv
  clear hsl hv
  go_enter Try.func17, Try.ntmps17
  go_wp2_with (go_at_call 19; refine (refcheck_no _ _ _ _ _ hn HS.out HV.out).mono ?_; rintro e w1 ⟨rfl, hb1⟩)
  go_ret2
  exact ⟨rfl, hb1⟩

set_option maxHeartbeats 1000000 in
theorem select_yes (A : Option Addr) (n c : Nat) (x y : Int) (w : World) (f : Nat → S) (hn : n ≤ 9223372036854775807) (hsl : Sl w w.heap.size A n f) (hv : Valid f n) :
    Calls Try.prog 16 #[.slice A n c, .int .u64 x, .int .u64 y] w fun e w' => e = .returned (.tuple #[.int .i64 (sel f x y n), .int .i64 0]) ∧ Below w.heap.size w w' := by
  have HS := Lib.hid hsl
  have HV := Lib.hid hv
  obtain ⟨b, off, rfl, hb, -⟩ := hsl.2 hv.1
  clear hsl hv
  go_enter Try.func16, Try.ntmps16
  go_wp2_with (go_at_call 18; refine (check_yes _ _ _ _ _ hn HS.out HV.out).mono ?_; rintro e w1 ⟨rfl, hb1⟩)
  go_loopw [9, 19] (fun t i wr => ∃ k : Nat, k ≤ n ∧ i = .int .i64 k ∧ t = .int .i64 (sel f x y k) ∧ Below w.heap.size w wr) (fun _ i _ => n - (intOf i).toNat)
  case atStart => exact ⟨0, Nat.zero_le _, rfl, rfl, hb1⟩
  case round =>
    obtain ⟨k, hk, rfl, rfl, hbel⟩ := hrel
    have hsz := hbel.size
    have hbw : b < wr.heap.size := by omega
    by_cases hlt : k < n
    case neg =>
      obtain rfl : k = n := by omega
      go_wp2
      go_ret2
      exact ⟨rfl, hbel⟩
    obtain ⟨b', off', e, _, c0, c1, c2⟩ := HS.out.at_ hbel hlt
    simp only [Option.some.injEq, Addr.mk.injEq, and_true] at e
    obtain ⟨rfl, rfl⟩ := e
    by_cases h1 : (f k).l ≤ y
    · have d1 : decide ((f k).l ≤ y) = true := by simp; omega
      by_cases h2 : (f k).r ≤ x
      · go_wp2
        go_roundw
        case rel => exact ⟨k + 1, by omega, by go_num, by rw [sel, if_pos ⟨h1, h2⟩], hbel.alloc (by omega) _⟩
        case measure => simp [intOf]; omega
      · go_wp2
        go_roundw
        case rel => exact ⟨k + 1, by omega, by go_num, by rw [sel, if_neg (by omega)], hbel.alloc (by omega) _⟩
        case measure => simp [intOf]; omega
    · have d1 : decide ((f k).l ≤ y) = false := by simp; omega
      go_wp2
      go_roundw
      case rel => exact ⟨k + 1, by omega, by go_num, by rw [sel, if_neg (by omega)], hbel.alloc (by omega) _⟩
      case measure => simp [intOf]; omega

set_option maxHeartbeats 1000000 in
theorem refselect_yes (A : Option Addr) (n c : Nat) (x y : Int) (w : World) (f : Nat → S) (hn : n ≤ 9223372036854775807) (hsl : Sl w w.heap.size A n f) (hv : Valid f n) :
    Calls Try.prog 17 #[.slice A n c, .int .u64 x, .int .u64 y] w fun e w' => e = .returned (.tuple #[.int .i64 (sel f x y n), .int .i64 0]) ∧ Below w.heap.size w w' := by
  have HS := Lib.hid hsl
  have HV := Lib.hid hv
  obtain ⟨b, off, rfl, hb, -⟩ := hsl.2 hv.1
  clear hsl hv
  go_enter Try.func17, Try.ntmps17
  go_wp2_with (go_at_call 19; refine (refcheck_yes _ _ _ _ _ hn HS.out HV.out).mono ?_; rintro e w1 ⟨rfl, hb1⟩)
  go_loop [9, 10] (fun t i => ∃ k : Nat, k ≤ n ∧ i = .int .i64 k ∧ t = .int .i64 (sel f x y k)) (fun _ i => n - (intOf i).toNat)
  case atStart => exact ⟨0, Nat.zero_le _, rfl, rfl⟩
  case round =>
    obtain ⟨k, hk, rfl, rfl⟩ := hrel
    by_cases hlt : k < n
    case neg =>
      obtain rfl : k = n := by omega
      go_wp2
      go_ret2
      exact ⟨rfl, hb1⟩
    obtain ⟨b', off', e, _, c0, c1, c2⟩ := HS.out.at_ hb1 hlt
    simp only [Option.some.injEq, Addr.mk.injEq, and_true] at e
    obtain ⟨rfl, rfl⟩ := e
    by_cases h1 : (f k).l ≤ y
    · have d1 : decide ((f k).l ≤ y) = true := by simp; omega
      by_cases h2 : (f k).r ≤ x
      · go_wp2
        go_round
        case rel => exact ⟨k + 1, by omega, by go_num, by rw [sel, if_pos ⟨h1, h2⟩]⟩
        case measure => simp [intOf]; omega
      · go_wp2
        go_round
        case rel => exact ⟨k + 1, by omega, by go_num, by rw [sel, if_neg (by omega)]⟩
        case measure => simp [intOf]; omega
    · have d1 : decide ((f k).l ≤ y) = false := by simp; omega
      go_wp2
      go_round
      case rel => exact ⟨k + 1, by omega, by go_num, by rw [sel, if_neg (by omega)]⟩
      case measure => simp [intOf]; omega

end Go.Proofs.Ytgllakmcccjcbaa
