/- The walk of IdleBreakEven: it returns true and writes nothing that was there. No condition. -/
import Derived.Test.YtgllakmcccjcbaaH
namespace Go.Proofs.Ytgllakmcccjcbaa
open Go.RowKit

/-- What the six energies are to each other. -/
theorem break_even {g : Nat → S} {n k : Nat} (hv : Valid g n) (hk : k + 1 < n) :
    en g k (g (k + 1)).r k = en g (k + 1) (g (k + 1)).r (k + 1) ∧
    (∀ d, d < (g (k + 1)).r → en g k d k < en g (k + 1) d (k + 1)) ∧ ∀ d, (g (k + 1)).r < d → en g (k + 1) d (k + 1) < en g k d k := by
  have hp := hv.pstep hk
  refine ⟨?_, fun d hd => ?_, fun d hd => ?_⟩
  · rw [en_step, Int.sub_self, Int.mul_zero, Int.add_zero]
  · have := mul_pos' hp (show 0 < (g (k + 1)).r - d by omega)
    rw [en_step]; omega
  · have := mul_neg' hp (show (g (k + 1)).r - d < 0 by omega)
    rw [en_step]; omega

theorem energy_at (A : Option Addr) (n c k : Nat) (st d : Int) (w : World) (f : Nat → S) (e : st = k) (hn : n ≤ 9223372036854775807) (hsl : Sl w w.heap.size A n f) (hv : Valid f n) (hst : k < n) (h0 : 0 ≤ d) (h1 : d ≤ 1099511627776) :
    Calls Try.prog 20 #[.slice A n c, .int .i64 st, .int .u64 d] w fun e w' => e = .returned (.tuple #[.int .u64 (en f k d k), .int .i64 0]) ∧ Below w.heap.size w w' := by
  subst e
  exact energy_yes A n c k d w f hn hsl hv hst h0 h1

set_option maxHeartbeats 1000000 in
theorem breakeven_walk (A : Option Addr) (len c : Nat) (v d : Int) (w : World) (f : Nat → S) (hn : len ≤ 9223372036854775807) (hsl : Sl w w.heap.size A len f) (_hv0 : -9223372036854775808 ≤ v ∧ v ≤ 9223372036854775807) (hd : 0 ≤ d ∧ d ≤ 18446744073709551615) :
    Calls Try.prog 7 #[.slice A len c, .int .i64 v, .int .u64 d] w fun e w' => e = .returned (.bool true) ∧ Below w.heap.size w w' := by
  have HS := Lib.hid hsl
  obtain ⟨hd, hd2⟩ := hd
  clear hsl
  by_cases h20 : 20 < len
  · have d1 : decide ((20 : Int) < (len : Int)) = true := by simp; omega
    go_enter Try.func7, Try.ntmps7
    go_wp2_with (go_at_call 13; refine (awake_any _).mono ?_; rintro e w1 ⟨rfl, hb1⟩)
    go_ret
    exact ⟨rfl, hb1⟩
  have d1 : decide ((20 : Int) < (len : Int)) = false := by simp; omega
  go_enter Try.func7, Try.ntmps7
  go_wp2_with fail
  refine (states_any _ _ _ _ _ hn HS.out).mono ?_
  rintro e w1 ⟨n, g, hnl, hsm, hv, rfl, hown, hb1⟩
  have HV := Lib.hid hv
  have HM := Lib.hid hsm
  have HO := Lib.hid hown
  have hn1 := hsm.1
  have hn7 := hsm.2.1
  clear hv hsm hown hnl d1
  by_cases h2 : n < 2
  · have d2 : decide ((n : Int) < 2) = true := by simp; omega
    go_wp2_with (go_at_call 13; refine (awake_any _).mono ?_; rintro e w2 ⟨rfl, hb2⟩)
    go_ret
    exact ⟨rfl, bthen hb1 hb2⟩
  have d2 : decide ((n : Int) < 2) = false := by simp; omega
  go_wp2_with fail
  refine (mod_any _ _ _ (by omega) (by omega)).mono ?_
  rintro e w2 ⟨rfl, rfl⟩
  have m1 := md_lo v ((n : Int) - 1) (by omega)
  have m2 := md_hi v ((n : Int) - 1) (by omega)
  generalize md v ((n : Int) - 1) = m at m1 m2 ⊢
  obtain ⟨k, rfl⟩ := Int.eq_ofNat_of_zero_le m1
  have hk : k + 1 < n := by omega
  have ek : (1 : Int) + (k : Int) = (k : Int) + 1 := by omega
  have H1 := Lib.hid (HO.out.sl HM.out)
  obtain ⟨b', off', e', _, -, c1, -⟩ := H1.out.at_ (Below.refl _ _) hk
  simp only [Option.some.injEq, Addr.mk.injEq, and_true] at e'
  obtain ⟨rfl, rfl⟩ := e'
  simp only [Nat.zero_add] at c1
  obtain ⟨q1, q2, q3⟩ := break_even HV.out hk
  obtain ⟨-, -, z1, z2, -, -⟩ := HM.out.2.2 (k + 1) hk
  have z3 : 1 ≤ (g (k + 1)).r := by
    have h1 := ((HV.out.2.2 (k + 1) hk).2.2.2.2 (by omega)).2.1
    have h2 := HM.out.2.2 k (by omega)
    simp only [Nat.add_sub_cancel] at h1
    omega
  have Q1 := Lib.hid q1
  have Q2 := Lib.hid q2
  have Q3 := Lib.hid q3
  clear q1 q2 q3
  have d3 : 0 ≤ d % (g (k + 1)).r ∧ d % (g (k + 1)).r < (g (k + 1)).r := ⟨Int.emod_nonneg _ (by omega), Int.emod_lt_of_pos _ (by omega)⟩
  have d4 : 0 ≤ d % 1000 ∧ d % 1000 < 1000 := by omega
  go_wp2_with fail
  refine (energy_at _ n n k _ _ _ g (by omega) (by omega) H1.out HV.out (by omega) (by omega) (by omega)).mono ?_
  rintro e w2 ⟨rfl, hb2⟩
  have H2 := Lib.hid (H1.out.next hb2)
  go_wp2_with fail
  refine (energy_at _ n n (k + 1) _ _ _ g (by omega) (by omega) H2.out HV.out hk (by omega) (by omega)).mono ?_
  rintro e w3 ⟨rfl, hb3⟩
  have H3 := Lib.hid (H2.out.next hb3)
  go_wp2_with fail
  refine (energy_at _ n n k _ _ _ g (by omega) (by omega) H3.out HV.out (by omega) d3.1 (by omega)).mono ?_
  rintro e w4 ⟨rfl, hb4⟩
  have H4 := Lib.hid (H3.out.next hb4)
  go_wp2_with fail
  refine (energy_at _ n n (k + 1) _ _ _ g (by omega) (by omega) H4.out HV.out hk d3.1 (by omega)).mono ?_
  rintro e w5 ⟨rfl, hb5⟩
  have H5 := Lib.hid (H4.out.next hb5)
  go_wp2_with fail
  refine (energy_at _ n n k _ _ _ g (by omega) (by omega) H5.out HV.out (by omega) (by omega) (by omega)).mono ?_
  rintro e w6 ⟨rfl, hb6⟩
  have H6 := Lib.hid (H5.out.next hb6)
  go_wp2_with fail
  refine (energy_at _ n n (k + 1) _ _ _ g (by omega) (by omega) H6.out HV.out hk (by omega) (by omega)).mono ?_
  rintro e w7 ⟨rfl, hb7⟩
  have t1 : (en g k (g (k + 1)).r k == en g (k + 1) (g (k + 1)).r (k + 1)) = true := by rw [beq_iff_eq]; exact Q1.out
  have t2 := Q2.out _ d3.2
  have t3 := Q3.out ((g (k + 1)).r + 1 + d % 1000) (by omega)
  have t4 : decide (en g k (d % (g (k + 1)).r) k < en g (k + 1) (d % (g (k + 1)).r) (k + 1)) = true := by simpa using t2
  have t5 : decide (en g (k + 1) ((g (k + 1)).r + 1 + d % 1000) (k + 1) < en g k ((g (k + 1)).r + 1 + d % 1000) k) = true := by simpa using t3
  go_wp2_with fail
  refine (awake_any _).mono ?_
  rintro e w8 ⟨rfl, hb8⟩
  go_wp2_with fail
  go_ret
  exact ⟨rfl, bthen (bthen (bthen (bthen (bthen (bthen (bthen hb1 hb2) hb3) hb4) hb5) hb6) hb7) hb8⟩
end Go.Proofs.Ytgllakmcccjcbaa
