/- The walk of IdleSelectRespectsLimits: it returns true and writes nothing that was there. No condition. -/
import Derived.Test.YtgllakmcccjcbaaH
namespace Go.Proofs.Ytgllakmcccjcbaa
open Go.RowKit

set_option maxHeartbeats 1000000 in
theorem respects_walk (A : Option Addr) (len c : Nat) (x y : Int) (w : World) (f : Nat → S) (hn : len ≤ 9223372036854775807) (hsl : Sl w w.heap.size A len f) (hx : 0 ≤ x ∧ x ≤ 18446744073709551615) (hy : 0 ≤ y ∧ y ≤ 18446744073709551615) :
    Calls Try.prog 5 #[.slice A len c, .int .u64 x, .int .u64 y] w fun e w' => e = .returned (.bool true) ∧ Below w.heap.size w w' := by
  have HS := Lib.hid hsl
  obtain ⟨hx, hx2⟩ := hx
  obtain ⟨hy, hy2⟩ := hy
  clear hsl
  by_cases h20 : 20 < len
  · have d1 : decide ((20 : Int) < (len : Int)) = true := by simp; omega
    go_enter Try.func5, Try.ntmps5
    go_wp2_with (go_at_call 13; refine (awake_any _).mono ?_; rintro e w1 ⟨rfl, hb1⟩)
    go_ret
    exact ⟨rfl, hb1⟩
  have d1 : decide ((20 : Int) < (len : Int)) = false := by simp; omega
  go_enter Try.func5, Try.ntmps5
  go_wp2_with fail
  refine (states_any _ _ _ _ _ hn HS.out).mono ?_
  rintro e w1 ⟨n, g, hnl, hsm, hv, rfl, hown, hb1⟩
  have HV := Lib.hid hv
  have HM := Lib.hid hsm
  have HO := Lib.hid hown
  have hn1 := hsm.1
  have hn7 := hsm.2.1
  clear hv hsm hown hnl
  have hx1 : 0 ≤ x % 1500 ∧ x % 1500 < 1500 := by omega
  have hy1 : 0 ≤ y % 300 ∧ y % 300 < 300 := by omega
  go_wp2_with fail
  refine (select_yes _ n n _ _ _ g (by omega) (HO.out.sl HM.out) HV.out).mono ?_
  rintro e w2 ⟨rfl, hb2⟩
  obtain ⟨s1, s2, s3⟩ := sel_valid HV.out hx1.1 hy1.1
  generalize hs : sel g (x % 1500) (y % 300) n = s at s1 s2 s3 ⊢
  clear hs
  have S3 := Lib.hid s3
  clear s3
  have hsz1 : w.heap.size < w1.heap.size := (HO.out.at_ (k := 0) (by omega)).1
  have HS2 := Lib.hid ((HO.out.sl HM.out).below hb2)
  obtain ⟨b', off', e', _, c0, c1, -⟩ := HS2.out.at_ (Below.refl _ _) s1
  simp only [Option.some.injEq, Addr.mk.injEq, and_true] at e'
  obtain ⟨rfl, rfl⟩ := e'
  simp only [Nat.zero_add] at c0 c1
  unfold fits at s2
  obtain ⟨t1, t2⟩ := s2
  have a1 : decide (n ≤ s) = false := by simp; omega
  have a2 : decide (y % 300 < (g s).l) = false := by simp; omega
  have a3 : decide (x % 1500 < (g s).r) = false := by simp; omega
  go_wp2_with fail
  go_loop [12] (fun i => ∃ k : Nat, s + 1 ≤ k ∧ k ≤ n ∧ i = .int .i64 k) (fun i => n - (intOf i).toNat)
  case atStart => exact ⟨s + 1, by omega, by omega, by go_num⟩
  case round =>
    obtain ⟨k, hk1, hk, rfl⟩ := hrel
    clear c0 c1 a1 a2 a3
    by_cases hlt : k < n
    · obtain ⟨b', off', e', _, c0, c1, -⟩ := HS2.out.at_ (Below.refl _ _) hlt
      simp only [Option.some.injEq, Addr.mk.injEq, and_true] at e'
      obtain ⟨rfl, rfl⟩ := e'
      simp only [Nat.zero_add] at c0 c1
      have h3 := S3.out k (by omega) hlt
      by_cases hl : (g k).l ≤ y % 300
      · have a1 : decide ((g k).l ≤ y % 300) = true := by simp; omega
        have h4 : ¬ (g k).r ≤ x % 1500 := fun h => h3 ⟨hl, h⟩
        have a2 : decide ((g k).r ≤ x % 1500) = false := by simp; omega
        clear h3
        go_wp2_with fail
        go_round
        case rel => exact ⟨k + 1, by omega, by omega, by go_num⟩
        case measure => simp [intOf]; omega
      · have a1 : decide ((g k).l ≤ y % 300) = false := by simp; omega
        clear h3
        go_wp2_with fail
        go_round
        case rel => exact ⟨k + 1, by omega, by omega, by go_num⟩
        case measure => simp [intOf]; omega
    · go_wp2_with (go_at_call 13; refine (awake_any _).mono ?_; rintro e w3 ⟨rfl, hb3⟩)
      go_ret
      exact ⟨rfl, bthen (bthen hb1 hb2) hb3⟩
end Go.Proofs.Ytgllakmcccjcbaa
