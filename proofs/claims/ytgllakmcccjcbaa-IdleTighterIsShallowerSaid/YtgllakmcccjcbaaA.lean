/- The two Check functions: what they answer. No condition. -/
import Derived.Test.YtgllakmcccjcbaaP
namespace Go.Proofs.Ytgllakmcccjcbaa
open Go.RowKit

set_option maxHeartbeats 1000000 in
theorem check_any (A : Option Addr) (n c : Nat) (w : World) (f : Nat → S) (hn : n ≤ 9223372036854775807) (hsl : Sl w w.heap.size A n f) :
    Calls Try.prog 18 #[.slice A n c] w (ChkPost f n w) := by
  by_cases h1 : n < 1
  · have d1 : decide ((n : Int) < 1) = true := by simp; omega
    go_enter Try.func18, Try.ntmps18
    go_wp2
    go_ret
    exact chk_no (fun v => by have := v.1; omega) (Below.refl _ _)
  have d1 : decide ((n : Int) < 1) = false := by simp; omega
  by_cases h2 : 10 < n
  · have d2 : decide ((10 : Int) < (n : Int)) = true := by simp; omega
    go_enter Try.func18, Try.ntmps18
    go_wp2
    go_ret
    exact chk_no (fun v => by have := v.2.1; omega) (Below.refl _ _)
  have d2 : decide ((10 : Int) < (n : Int)) = false := by simp; omega
  have HC := Lib.hid hsl
  obtain ⟨b, off, rfl, hb, -⟩ := hsl.2 (by omega)
  clear hsl
  go_enter Try.func18, Try.ntmps18
  go_wp2
  go_loopw [16] (fun i wr => ∃ k : Nat, k ≤ n ∧ i = .int .i64 k ∧ Below w.heap.size w wr ∧ Hid (∀ j, j < k → okAt f j)) (fun i _ => n - (intOf i).toNat)
  case atStart => exact ⟨0, Nat.zero_le _, rfl, Below.refl _ _, fun _ h => by omega⟩
  case round =>
    obtain ⟨k, hk, rfl, hbel, hok⟩ := hrel
    have hsz := hbel.size
    have hbw : b < wr.heap.size := by omega
    by_cases hlt : k < n
    · obtain ⟨b', off', e, _, c0, c1, c2⟩ := HC.out.at_ hbel hlt
      simp only [Option.some.injEq, Addr.mk.injEq, and_true] at e
      obtain ⟨rfl, rfl⟩ := e
      by_cases hk0 : k = 0
      · have HK := Lib.hid hk0
        have b0 : ((k : Int) == 0) = true := by simp [hk0]
        clear hk0
        go_wp2
        case roundEnd =>
          go_roundw
          case rel => exact ⟨k + 1, by omega, by go_num, hbel.alloc (by omega) _, ok_step hok.out ⟨by omega, by omega, by omega, fun _ => ⟨by simp_all; done, by simp_all; done⟩, fun h => by have := HK.out; omega⟩⟩
          case measure => simp [intOf]; omega
        all_goals
          go_ret
          refine chk_no (not_valid hlt ?_) (hbel.alloc (by omega) _)
          rintro ⟨q1, q2, q3, q4, q5⟩
          have q6 := q4 HK.out
          first | omega | (simp_all; done)
      · have b0 : ((k : Int) == 0) = false := by simp [hk0]
        have hk1 : 1 ≤ k := by omega
        obtain ⟨b', off', e, _, e0, e1, e2⟩ := HC.out.at_ hbel (show k - 1 < n by omega)
        simp only [Option.some.injEq, Addr.mk.injEq, and_true] at e
        obtain ⟨rfl, rfl⟩ := e
        go_wp2
        case roundEnd =>
          go_roundw
          case rel => exact ⟨k + 1, by omega, by go_num, (hbel.alloc (by omega) _).alloc (by simp; omega) _, ok_step hok.out ⟨by omega, by omega, by omega, fun h => by omega, fun h => ⟨by omega, by omega, by omega⟩⟩⟩
          case measure => simp [intOf]; omega
        all_goals
          go_ret
          refine chk_no (not_valid hlt ?_) (by first | exact hbel.alloc (by omega) _ | exact (hbel.alloc (by omega) _).alloc (by simp; omega) _)
          rintro ⟨q1, q2, q3, q4, q5⟩
          have q6 := q5 (by omega)
          omega
    · go_wp2
      go_ret
      exact chk_yes ⟨by omega, by omega, fun i hi => hok.out i (by omega)⟩ hbel

end Go.Proofs.Ytgllakmcccjcbaa
