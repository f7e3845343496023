/- The walk of IdleSelectMinimizesEnergy: it returns true and writes nothing that was there. No condition. -/
import Derived.Test.YtgllakmcccjcbaaH
namespace Go.Proofs.Ytgllakmcccjcbaa
open Go.RowKit

set_option maxHeartbeats 1000000 in
theorem minimizes_walk (A : Option Addr) (len c : Nat) (x y : Int) (w : World) (f : Nat → S) (hn : len ≤ 9223372036854775807) (hsl : Sl w w.heap.size A len f) (hx : 0 ≤ x ∧ x ≤ 18446744073709551615) (hy : 0 ≤ y ∧ y ≤ 18446744073709551615) :
    Calls Try.prog 6 #[.slice A len c, .int .u64 x, .int .u64 y] w fun e w' => e = .returned (.bool true) ∧ Below w.heap.size w w' := by
  have HS := Lib.hid hsl
  obtain ⟨hx, hx2⟩ := hx
  obtain ⟨hy, hy2⟩ := hy
  clear hsl
  by_cases h20 : 20 < len
  · have d1 : decide ((20 : Int) < (len : Int)) = true := by simp; omega
    go_enter Try.func6, Try.ntmps6
    go_wp2_with (go_at_call 13; refine (awake_any _).mono ?_; rintro e w1 ⟨rfl, hb1⟩)
    go_ret
    exact ⟨rfl, hb1⟩
  have d1 : decide ((20 : Int) < (len : Int)) = false := by simp; omega
  go_enter Try.func6, Try.ntmps6
  go_wp2_with fail
  refine (states_any _ _ _ _ _ hn HS.out).mono ?_
  rintro e w1 ⟨n, g, hnl, hsm, hv, rfl, hown, hb1⟩
  have HV := Lib.hid hv
  have HM := Lib.hid hsm
  have HO := Lib.hid hown
  have hn1 := hsm.1
  have hn7 := hsm.2.1
  clear hv hsm hown hnl
  have hx1 : 0 ≤ x % 1500 ∧ x % 1500 < 1500 := by omega
  have hy1 : 0 ≤ y % 300 ∧ y % 300 < 300 := by omega
  go_wp2_with fail
  refine (select_yes _ n n _ _ _ g (by omega) (HO.out.sl HM.out) HV.out).mono ?_
  rintro e w2 ⟨rfl, hb2⟩
  have s1 := (sel_valid HV.out hx1.1 hy1.1).1
  have S3 := Lib.hid (fun i hi hl => sel_min (i := i) HV.out hx1.1 hy1.1 hi hl)
  generalize hs : sel g (x % 1500) (y % 300) n = s at s1 S3 ⊢
  clear hs
  have H2 := Lib.hid ((HO.out.sl HM.out).next hb2)
  go_wp2_with fail
  refine (energy_yes _ n n s _ _ g (by omega) H2.out HV.out s1 (by omega) (by omega)).mono ?_
  rintro e w3 ⟨rfl, hb3⟩
  have H3 := Lib.hid (H2.out.next hb3)
  have hb3' := bthen (bthen hb1 hb2) hb3
  clear hb1 hb2 hb3
  go_wp2_with fail
  go_loopw [14] (fun i wr => ∃ k : Nat, k ≤ n ∧ i = .int .i64 k ∧ Below w3.heap.size w3 wr) (fun i _ => n - (intOf i).toNat)
  case atStart => exact ⟨0, by omega, rfl, Below.refl _ _⟩
  case round =>
    obtain ⟨k, hk, rfl, hbr⟩ := hrel
    by_cases hlt : k < n
    · have H4 := Lib.hid (H3.out.next hbr)
      go_wp2_with fail
      refine (energy_yes _ n n k _ _ g (by omega) H4.out HV.out hlt (by omega) (by omega)).mono ?_
      rintro e w4 ⟨rfl, hb4⟩
      have H5 := Lib.hid (H4.out.next hb4)
      obtain ⟨b', off', e', _, c0, -, -⟩ := H5.out.at_ (Below.refl _ _) hlt
      simp only [Option.some.injEq, Addr.mk.injEq, and_true] at e'
      obtain ⟨rfl, rfl⟩ := e'
      simp only [Nat.zero_add] at c0
      by_cases hl : (g k).l ≤ y % 300
      · have a1 : decide ((g k).l ≤ y % 300) = true := by simp; omega
        have a2 : decide (en g k (x % 1500) k < en g s (x % 1500) s) = false := by have := S3.out k hlt hl; simp; omega
        go_wp2_with fail
        go_roundw
        case rel => exact ⟨k + 1, by omega, by go_num, bthen hbr hb4⟩
        case measure => simp [intOf]; omega
      · have a1 : decide ((g k).l ≤ y % 300) = false := by simp; omega
        go_wp2_with fail
        go_roundw
        case rel => exact ⟨k + 1, by omega, by go_num, bthen hbr hb4⟩
        case measure => simp [intOf]; omega
    · go_wp2_with (go_at_call 13; refine (awake_any _).mono ?_; rintro e w4 ⟨rfl, hb4⟩)
      go_ret
      exact ⟨rfl, bthen (bthen hb3' hbr) hb4⟩
end Go.Proofs.Ytgllakmcccjcbaa
