/- The walk of IdleEnergyAgrees: it returns true and writes nothing that was there. No condition. -/
import Derived.Test.YtgllakmcccjcbaaH
namespace Go.Proofs.Ytgllakmcccjcbaa
open Go.RowKit

/-- What Energy gives, as one function of what came in. -/
def EnPost (v r : Int) (w : World) (e : Ending) (w' : World) : Prop := e = .returned (.tuple #[.int .u64 v, .int .i64 r]) ∧ Below w.heap.size w w'

/-- The program's Energy and the reference's give the same pair, whatever came in. -/
theorem energy_both (A : Option Addr) (n c : Nat) (st d : Int) (f : Nat → S) (hn : n ≤ 9223372036854775807) (h0 : 0 ≤ d) :
    ∃ v r : Int, (∀ w, Sl w w.heap.size A n f → Calls Try.prog 20 #[.slice A n c, .int .i64 st, .int .u64 d] w (EnPost v r w)) ∧
      ∀ w, Sl w w.heap.size A n f → Calls Try.prog 21 #[.slice A n c, .int .i64 st, .int .u64 d] w (EnPost v r w) := by
  by_cases hv : Valid f n
  · by_cases ho : st < 0 ∨ (n : Int) ≤ st ∨ 1099511627776 < d
    · exact ⟨0, 1, fun w hs => energy_out A n c st d w f hn hs hv ho, fun w hs => refenergy_out A n c st d w f hn hs hv ho⟩
    · obtain ⟨k, rfl⟩ := Int.eq_ofNat_of_zero_le (show 0 ≤ st by omega)
      exact ⟨en f k d k, 0, fun w hs => energy_yes A n c k d w f hn hs hv (by omega) h0 (by omega), fun w hs => refenergy_yes A n c k d w f hn hs hv (by omega) h0 (by omega)⟩
  · exact ⟨0, 1, fun w hs => energy_no A n c st d w f hn hs hv, fun w hs => refenergy_no A n c st d w f hn hs hv⟩

set_option maxHeartbeats 1000000 in
theorem energyagrees_walk (A : Option Addr) (len c : Nat) (v d : Int) (w : World) (f : Nat → S) (hn : len ≤ 9223372036854775807) (hsl : Sl w w.heap.size A len f) (_hv0 : -9223372036854775808 ≤ v ∧ v ≤ 9223372036854775807) (hd : 0 ≤ d ∧ d ≤ 18446744073709551615) :
    Calls Try.prog 4 #[.slice A len c, .int .i64 v, .int .u64 d] w fun e w' => e = .returned (.bool true) ∧ Below w.heap.size w w' := by
  have HS := Lib.hid hsl
  obtain ⟨hd, hd2⟩ := hd
  clear hsl
  by_cases h20 : 20 < len
  · have d1 : decide ((20 : Int) < (len : Int)) = true := by simp; omega
    go_enter Try.func4, Try.ntmps4
    go_wp2_with (go_at_call 13; refine (awake_any _).mono ?_; rintro e w1 ⟨rfl, hb1⟩)
    go_ret
    exact ⟨rfl, hb1⟩
  have d1 : decide ((20 : Int) < (len : Int)) = false := by simp; omega
  obtain ⟨v1, r1, p1, q1⟩ := energy_both A len c v d f hn hd
  have P1 := Lib.hid p1
  have Q1 := Lib.hid q1
  clear p1 q1
  go_enter Try.func4, Try.ntmps4
  go_wp2_with fail
  refine (states_any _ _ _ _ _ hn HS.out).mono ?_
  rintro e w1 ⟨n, g, hnl, hsm, hv, rfl, hown, hb1⟩
  have HM := Lib.hid hsm
  have HO := Lib.hid hown
  have hn1 := hsm.1
  have hn7 := hsm.2.1
  clear hv hsm hown hnl d1
  go_wp2_with fail
  refine (mod_any _ _ _ (by omega) (by omega)).mono ?_
  rintro e w2 ⟨rfl, rfl⟩
  generalize md v (n : Int) = m
  obtain ⟨v2, r2, p2, q2⟩ := energy_both (some ⟨w.heap.size, 0, none⟩) n n m (d % 2000) g (by omega) (by omega)
  have P2 := Lib.hid p2
  have Q2 := Lib.hid q2
  obtain ⟨v3, r3, p3, q3⟩ := energy_both (some ⟨w.heap.size, 0, none⟩) n n v d g (by omega) (by omega)
  have P3 := Lib.hid p3
  have Q3 := Lib.hid q3
  clear p2 q2 p3 q3
  have H1 := Lib.hid (HS.out.next hb1)
  have G1 := Lib.hid (HO.out.sl HM.out)
  go_wp2_with fail
  refine (P1.out _ H1.out).mono ?_
  rintro e w2 ⟨rfl, hb2⟩
  have H2 := Lib.hid (H1.out.next hb2)
  have G2 := Lib.hid (G1.out.next hb2)
  go_wp2_with fail
  refine (Q1.out _ H2.out).mono ?_
  rintro e w3 ⟨rfl, hb3⟩
  have G3 := Lib.hid (G2.out.next hb3)
  go_wp2_with fail
  refine (P2.out _ G3.out).mono ?_
  rintro e w4 ⟨rfl, hb4⟩
  have G4 := Lib.hid (G3.out.next hb4)
  go_wp2_with fail
  refine (Q2.out _ G4.out).mono ?_
  rintro e w5 ⟨rfl, hb5⟩
  have G5 := Lib.hid (G4.out.next hb5)
  go_wp2_with fail
  refine (P3.out _ G5.out).mono ?_
  rintro e w6 ⟨rfl, hb6⟩
  have G6 := Lib.hid (G5.out.next hb6)
  go_wp2_with fail
  refine (Q3.out _ G6.out).mono ?_
  rintro e w7 ⟨rfl, hb7⟩
  have t1 : (v1 == v1) = true := by simp
  go_wp2_with fail
  refine (awake_any _).mono ?_
  rintro e w8 ⟨rfl, hb8⟩
  go_wp2_with fail
  go_ret
  exact ⟨rfl, bthen (bthen (bthen (bthen (bthen (bthen (bthen hb1 hb2) hb3) hb4) hb5) hb6) hb7) hb8⟩
end Go.Proofs.Ytgllakmcccjcbaa
