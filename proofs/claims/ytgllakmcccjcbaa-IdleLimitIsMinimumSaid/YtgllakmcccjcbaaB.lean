/- The reference's Check: what it answers. No condition. -/
import Derived.Test.YtgllakmcccjcbaaP
import Derived.Deep.QuietTactic
import Derived.BigQuiet
namespace Go.Proofs.Ytgllakmcccjcbaa
open Go.RowKit

set_option maxHeartbeats 2000000 in
theorem refcheck_any (A : Option Addr) (n c : Nat) (w : World) (f : Nat → S) (hn : n ≤ 9223372036854775807) (hsl : Sl w w.heap.size A n f) :
    Calls Try.prog 19 #[.slice A n c] w (ChkPost f n w) := by
  by_cases h1 : n < 1
  · have d1 : decide ((n : Int) < 1) = true := by simp; omega
    go_enter Try.func19, Try.ntmps19
    go_wp2
    go_ret
    exact chk_no (fun v => by have := v.1; omega) (Below.refl _ _)
  have d1 : decide ((n : Int) < 1) = false := by simp; omega
  by_cases h2 : 10 < n
  · have d2 : decide ((10 : Int) < (n : Int)) = true := by simp; omega
    go_enter Try.func19, Try.ntmps19
    go_wp2
    go_ret
    exact chk_no (fun v => by have := v.2.1; omega) (Below.refl _ _)
  have d2 : decide ((10 : Int) < (n : Int)) = false := by simp; omega
  have HC := Lib.hid hsl
  obtain ⟨b, off, rfl, hb, hc⟩ := hsl.2 (by omega)
  obtain ⟨z0, z1, -⟩ := hc 0 (by omega)
  simp only [Nat.zero_mul, Nat.add_zero] at z0 z1
  clear hsl hc
  by_cases hl : (f 0).l = 0
  case neg =>
    have d3 : ((f 0).l != 0) = true := by simp [hl]
    go_enter Try.func19, Try.ntmps19
    go_wp2
    go_ret
    exact chk_no (fun v => by have := (v.2.2 0 (by omega)).2.2.2.1 rfl; omega) (Below.refl _ _)
  have HL := Lib.hid hl
  have d3 : ((f 0).l != 0) = false := by simp [hl]
  clear hl
  by_cases hr : (f 0).r = 0
  case neg =>
    have d4 : ((f 0).r != 0) = true := by simp [hr]
    go_enter Try.func19, Try.ntmps19
    go_wp2
    go_ret
    exact chk_no (fun v => by have := (v.2.2 0 (by omega)).2.2.2.1 rfl; omega) (Below.refl _ _)
  have HR := Lib.hid hr
  have d4 : ((f 0).r != 0) = false := by simp [hr]
  clear hr
  go_enter Try.func19, Try.ntmps19
  go_wp2
  clear d1 d2 d3 d4 z0 z1
  go_loopw [3] (fun i wr => ∃ k : Nat, k ≤ n ∧ i = .int .i64 k ∧ Below w.heap.size w wr ∧ Hid (∀ j, j < k → okAt f j)) (fun i _ => n - (intOf i).toNat)
  case atStart => exact ⟨0, Nat.zero_le _, rfl, Below.refl _ _, fun _ h => by omega⟩
  case round =>
    obtain ⟨k, hk, rfl, hbel, hok⟩ := hrel
    have hsz := hbel.size
    have hbw : b < wr.heap.size := by omega
    by_cases hlt : k < n
    case neg =>
      go_wp2
      go_ret
      exact chk_yes ⟨by omega, by omega, fun i hi => hok.out i (by omega)⟩ hbel
    obtain ⟨b', off', e, _, c0, c1, c2⟩ := HC.out.at_ hbel hlt
    simp only [Option.some.injEq, Addr.mk.injEq, and_true] at e
    obtain ⟨rfl, rfl⟩ := e
    by_cases hbig : (f k).l ≤ 1073741824 ∧ (f k).r ≤ 1073741824 ∧ (f k).p ≤ 1048576
    case neg =>
      go_wp2
      all_goals
        go_ret
        refine chk_no (not_valid hlt ?_) (hbel.alloc (by omega) _)
        rintro ⟨q1, q2, q3, q4, q5⟩
        omega
    obtain ⟨hg1, hg2, hg3⟩ := hbig
    have a1 : decide (1073741824 < (f k).l) = false := by simp; omega
    have a2 : decide (1073741824 < (f k).r) = false := by simp; omega
    have a3 : decide (1048576 < (f k).p) = false := by simp; omega
    by_cases hk0 : k = 0
    · have HK := Lib.hid hk0
      have b0 : decide ((0 : Int) < (k : Int)) = false := by simp [hk0]
      have b1 : (0 < k) = False := by simp [hk0]
      clear hk0
      go_wp2
      go_quiet (fail)
      go_wp2
      go_roundw
      case rel => exact ⟨k + 1, by omega, by go_num, below_drewN (hbel.alloc (by omega) _) _, ok_step hok.out ⟨by omega, by omega, by omega, fun h => by rw [h]; exact ⟨HL.out, HR.out⟩, fun h => by have := HK.out; omega⟩⟩
      case measure => simp [intOf]; omega
    have b1 : (0 < k) = True := by simp; omega
    have b0 : decide ((0 : Int) < (k : Int)) = true := by simp; omega
    obtain ⟨b', off', e, _, e0, e1, e2⟩ := HC.out.at_ hbel (show k - 1 < n by omega)
    simp only [Option.some.injEq, Addr.mk.injEq, and_true] at e
    obtain ⟨rfl, rfl⟩ := e
    by_cases hl1 : (f k).l ≤ (f (k - 1)).l
    · have x1 : decide ((f k).l ≤ (f (k - 1)).l) = true := by simp; omega
      go_wp2
      go_quiet (fail)
      go_wp2
      go_ret
      refine chk_no (not_valid hlt ?_) (below_drewN (hbel.alloc (by omega) _) _)
      rintro ⟨q1, q2, q3, q4, q5⟩
      have q6 := q5 (by omega)
      omega
    have x1 : decide ((f k).l ≤ (f (k - 1)).l) = false := by simp; omega
    by_cases hl2 : (f k).r ≤ (f (k - 1)).r
    · have x2 : decide ((f k).r ≤ (f (k - 1)).r) = true := by simp; omega
      go_wp2
      go_quiet (fail)
      go_wp2
      go_ret
      refine chk_no (not_valid hlt ?_) (below_drewN (hbel.alloc (by omega) _) _)
      rintro ⟨q1, q2, q3, q4, q5⟩
      have q6 := q5 (by omega)
      omega
    have x2 : decide ((f k).r ≤ (f (k - 1)).r) = false := by simp; omega
    go_wp2
    go_quiet (fail)
    go_wp2
    case roundEnd =>
      go_roundw
      case rel => exact ⟨k + 1, by omega, by go_num, below_drewN (hbel.alloc (by omega) _) _, ok_step hok.out ⟨by omega, by omega, by omega, fun h => by omega, fun h => ⟨by omega, by omega, by omega⟩⟩⟩
      case measure => simp [intOf]; omega
    go_ret
    refine chk_no (not_valid hlt ?_) (below_drewN (hbel.alloc (by omega) _) _)
    rintro ⟨q1, q2, q3, q4, q5⟩
    have q6 := q5 (by omega)
    omega

end Go.Proofs.Ytgllakmcccjcbaa
