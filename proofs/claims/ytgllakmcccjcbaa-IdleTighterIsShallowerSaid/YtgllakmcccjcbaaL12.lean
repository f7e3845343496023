/- The walk of IdleTighterIsShallower: it returns true and writes nothing that was there. No condition. -/
import Derived.Test.YtgllakmcccjcbaaL10
import Derived.Test.YtgllakmcccjcbaaH
import Derived.Deep.RegionWith
namespace Go.Proofs.Ytgllakmcccjcbaa
open Go.RowKit
open K (upd upd_hit upd_miss Ch Row)

theorem sel_mono {f : Nat → S} {n : Nat} {x y x' y' : Int} (hv : Valid f n) (h0 : 0 ≤ x') (h1 : 0 ≤ y') (hx : x' ≤ x) (hy : y' ≤ y) : sel f x' y' n ≤ sel f x y n := by
  obtain ⟨a1, ⟨a2, a3⟩, -⟩ := sel_valid hv h0 h1
  obtain ⟨-, -, b3⟩ := sel_valid (x := x) (y := y) hv (by omega) (by omega)
  rcases Nat.lt_or_ge (sel f x y n) (sel f x' y' n) with h | h
  · exact absurd ⟨by omega, by omega⟩ (b3 _ h a1)
  · exact h

/-- A limit, where client c has a request. -/
theorem limit_has {has : Nat → Bool} {val : Nat → Int} {c : Nat} (hc : c < 32) (hh : has c = true) : limit has val ≤ val c ∧ ∃ i, has i = true ∧ limit has val = val i := by
  have hsp := lim_spec has val 32
  have hf : (lim has val 32).1 = true := by
    rcases hq : (lim has val 32).1 with _ | _
    · rw [hsp.2 hq c hc] at hh; cases hh
    · rfl
  obtain ⟨a1, i, a2, a3, a4⟩ := hsp.1 hf
  rw [limit_yes hf]
  exact ⟨a1 c hc hh, i, a3, a4⟩

def h0 : Nat → Bool := fun _ => false
def v0 : Nat → Int := fun _ => 0
def h1 : Nat → Bool := upd h0 3 true
def v1 (y : Int) : Nat → Int := upd v0 3 y
def h2 : Nat → Bool := upd h1 7 true
def v2 (y r : Int) : Nat → Int := upd (v1 y) 7 r
def h3 : Nat → Bool := upd h2 7 false
def v3 (y r : Int) : Nat → Int := upd (v2 y r) 7 0

theorem l1 (y : Int) : limit h1 (v1 y) = y := by
  obtain ⟨-, i, a, b⟩ := limit_has (has := h1) (val := v1 y) (c := 3) (by omega) (upd_hit _ _ _)
  rw [b]
  by_cases e : i = 3
  · subst e; exact upd_hit _ _ _
  · unfold h1 at a; rw [upd_miss _ _ e] at a; cases a
theorem l2 (y r : Int) (hy : 0 ≤ y) (hr : 0 ≤ r) : 0 ≤ limit h2 (v2 y r) ∧ limit h2 (v2 y r) ≤ y := by
  have e3 : h2 3 = true := by unfold h2; rw [upd_miss _ _ (by omega)]; exact upd_hit _ _ _
  have e4 : v2 y r 3 = y := by unfold v2; rw [upd_miss _ _ (by omega)]; exact upd_hit _ _ _
  obtain ⟨a, i, b, d⟩ := limit_has (has := h2) (val := v2 y r) (c := 3) (by omega) e3
  refine ⟨?_, by rw [e4] at a; exact a⟩
  rw [d]
  by_cases e : i = 7
  · subst e; unfold v2; rw [upd_hit]; exact hr
  · unfold v2; rw [upd_miss _ _ e]
    by_cases e' : i = 3
    · subst e'; unfold v1; rw [upd_hit]; exact hy
    · unfold v1; rw [upd_miss _ _ e']; exact Int.le_refl _
theorem l3 (y r : Int) : limit h3 (v3 y r) = y := by
  have e3 : h3 3 = true := by unfold h3; rw [upd_miss _ _ (by omega)]; unfold h2; rw [upd_miss _ _ (by omega)]; exact upd_hit _ _ _
  obtain ⟨-, i, a, b⟩ := limit_has (has := h3) (val := v3 y r) (c := 3) (by omega) e3
  rw [b]
  have e7 : i ≠ 7 := by rintro rfl; unfold h3 at a; rw [upd_hit] at a; cases a
  unfold h3 at a; rw [upd_miss _ _ e7] at a
  unfold h2 at a; rw [upd_miss _ _ e7] at a
  unfold v3; rw [upd_miss _ _ e7]
  unfold v2; rw [upd_miss _ _ e7]
  by_cases e : i = 3
  · subst e; exact upd_hit _ _ _
  · unfold h1 at a; rw [upd_miss _ _ e] at a; cases a
theorem h2_7 : h2 7 = true := upd_hit _ _ _

theorem remove_at (B c : Nat) (k : Int) (w : World) (has : Nat → Bool) (val : Nat → Int) (e : k = c) (hk : c < 32) (h : LB w B 70 has val) (hh : has c = true) :
    Calls Try.prog 32 #[.pointer (some ⟨B, 0, none⟩), .int .i64 k] w fun e w' => e = .returned (.int .i64 0) ∧ LB w' B 70 (upd has c false) (upd val c 0) ∧ Ch (· = B) w w' := by
  subst e; exact remove_yes B c w has val hk h hh

set_option maxRecDepth 100000 in
set_option maxHeartbeats 2000000 in
theorem tighter_walk (A : Option Addr) (len c : Nat) (x le y r : Int) (w : World) (f : Nat → S) (hn : len ≤ 9223372036854775807) (hsl : Sl w w.heap.size A len f)
    (hx : 0 ≤ x ∧ x ≤ 18446744073709551615) (hle : 0 ≤ le ∧ le ≤ 18446744073709551615) (hy : 0 ≤ y ∧ y ≤ 18446744073709551615) (hr : 0 ≤ r ∧ r ≤ 18446744073709551615) :
    Calls Try.prog 12 #[.slice A len c, .int .u64 x, .int .u64 le, .int .u64 y, .int .u64 r] w fun e w' => e = .returned (.bool true) ∧ Below w.heap.size w w' := by
  have HS := Lib.hid hsl
  clear hsl
  by_cases h20 : 20 < len
  · have d1 : decide ((20 : Int) < (len : Int)) = true := by simp; omega
    go_enter Try.func12, Try.ntmps12
    go_wp2_with (go_at_call 13; refine (awake_any _).mono ?_; rintro e w1 ⟨rfl, hb1⟩)
    go_ret
    exact ⟨rfl, hb1⟩
  have d1 : decide ((20 : Int) < (len : Int)) = false := by simp; omega
  go_enter Try.func12, Try.ntmps12
  go_wp2_with fail
  refine (states_any _ _ _ _ _ hn HS.out).mono ?_
  rintro e w1 ⟨n, g, hnl, hsm, hv, rfl, hown, hb1⟩
  have HV := Lib.hid hv
  have G1 := Lib.hid (hown.sl hsm)
  have hn7 := hsm.2.1
  clear hv hsm hown hnl d1
  have x1 : 0 ≤ x % 1500 ∧ x % 1500 < 1500 := by omega
  have y1 : 0 ≤ y % 300 ∧ y % 300 < 300 := by omega
  have r1 : 0 ≤ r % 300 ∧ r % 300 < 300 := by omega
  go_wp2_with fail
  refine (newlimits_any _).mono ?_
  rintro e w2 ⟨rfl, hl2, hb2⟩
  have L2 := Lib.hid (show LB w2 w1.heap.size 70 h0 v0 from hl2)
  clear hl2
  go_wp2_with fail
  refine (set_at _ 3 _ _ _ _ _ rfl (by omega) L2.out).mono ?_
  rintro e w3 ⟨rfl, hl3, hc3⟩
  have L3 := Lib.hid (show LB w3 w1.heap.size 70 h1 (v1 (y % 300)) from hl3)
  have b3 : Below w1.heap.size w1 w3 := K.Below.thenCh hb2 hc3 hb2.size (by intro i hi; omega)
  have G3 := Lib.hid (G1.out.next b3)
  clear hl3 hc3 hb2 L2
  go_wp2_with fail
  refine (limit_any _ _ _ _ L3.out).mono ?_
  rintro e w4 ⟨rfl, rfl⟩
  rw [l1]
  go_wp2_with fail
  refine (select_yes _ n n _ _ _ g (by omega) G3.out HV.out).mono ?_
  rintro e w4 ⟨rfl, k4⟩
  have L4 := Lib.hid (L3.out.below k4 L3.out.lt)
  have G4 := Lib.hid (G3.out.next k4)
  have b4 := bthen b3 k4
  clear k4 L3 G3 b3
  have p1 : 0 ≤ le % (x % 1500 + 1) ∧ le % (x % 1500 + 1) < x % 1500 + 1 := ⟨Int.emod_nonneg _ (by omega), Int.emod_lt_of_pos _ (by omega)⟩
  obtain ⟨p1, p2⟩ := p1
  have p3 : IntKind.u64.wrap (x % 1500 + 1) = x % 1500 + 1 := IntWalk.u64_in _ (by omega)
  have p4 : IntKind.u64.wrap (x % 1500 - le % (x % 1500 + 1)) = x % 1500 - le % (x % 1500 + 1) := IntWalk.u64_in _ (by omega)
  have p5 : ¬ x % 1500 + 1 = 0 := by omega
  go_upto_region 9 with fail
  go_cut [16, 17] (fun s16 s17 wx => ∃ q : Nat, s16 = .int .i64 (q : Int) ∧ q ≤ sel g (x % 1500) (y % 300) n ∧ s17 = .int .i64 0 ∧ Below w4.heap.size w4 wx)
  case first =>
    go_region_with (first | (go_at_call 30; refine (limit_any _ _ _ _ (by exact L4.out)).mono ?_; rintro e w5 ⟨rfl, rfl⟩; rw [l1]) | (go_at_call 16; refine (select_yes _ n n _ _ _ g (by omega) (by exact G4.out) HV.out).mono ?_; rintro e w5 ⟨rfl, k5⟩))
    all_goals
      go_wp2_with fail
      go_meet
      refine ⟨_, rfl, sel_mono HV.out ?_ y1.1 ?_ (Int.le_refl _), rfl, ?_⟩
      · rw [IntWalk.rem_in _ _ hle.1, p4]; omega
      · rw [IntWalk.rem_in _ _ hle.1, p4]; omega
      · exact (Below.refl w4.heap.size w4).trans (by repeat (first | exact ⟨k5.os, k5.tape, k5.output, k5.size, k5.block⟩ | apply Below.drew))
  case rest =>
    obtain ⟨q, rfl, hq, rfl, k5⟩ := hcut
    have L5 := Lib.hid (L4.out.below k5 L4.out.lt)
    have b5 := bthen b4 k5
    clear k5 L4 G4 b4 p3 p4
    go_wp2_with fail
    refine (set_at _ 7 _ _ _ _ _ rfl (by omega) L5.out).mono ?_
    rintro e w6 ⟨rfl, hl6, hc6⟩
    have L6 := Lib.hid (show LB w6 w1.heap.size 70 h2 (v2 (y % 300) (r % 300)) from hl6)
    have b6 : Below w1.heap.size w1 w6 := K.Below.thenCh b5 hc6 b5.size (by intro i hi; omega)
    have G6 := Lib.hid (G1.out.next b6)
    clear hl6 hc6 L5 b5
    obtain ⟨z1, z2⟩ := l2 (y % 300) (r % 300) y1.1 r1.1
    go_wp2_with fail
    refine (limit_any _ _ _ _ L6.out).mono ?_
    rintro e w7 ⟨rfl, rfl⟩
    generalize limit h2 (v2 (y % 300) (r % 300)) = z at z1 z2 ⊢
    go_wp2_with fail
    refine (select_yes _ n n _ _ _ g (by omega) G6.out HV.out).mono ?_
    rintro e w7 ⟨rfl, k7⟩
    have L7 := Lib.hid (L6.out.below k7 L6.out.lt)
    have b7 := bthen b6 k7
    have hz : sel g (x % 1500) z n ≤ sel g (x % 1500) (y % 300) n := sel_mono HV.out x1.1 z1 (Int.le_refl _) z2
    clear k7 L6 G6 b6
    go_wp2_with fail
    refine (remove_at _ 7 _ _ _ _ rfl (by omega) L7.out h2_7).mono ?_
    rintro e w8 ⟨rfl, hl8, hc8⟩
    have L8 := Lib.hid (show LB w8 w1.heap.size 70 h3 (v3 (y % 300) (r % 300)) from hl8)
    have b8 : Below w1.heap.size w1 w8 := K.Below.thenCh b7 hc8 b7.size (by intro i hi; omega)
    have G8 := Lib.hid (G1.out.next b8)
    clear hl8 hc8 L7 b7
    go_wp2_with fail
    refine (limit_any _ _ _ _ L8.out).mono ?_
    rintro e w9 ⟨rfl, rfl⟩
    rw [l3]
    go_wp2_with fail
    refine (select_yes _ n n _ _ _ g (by omega) G8.out HV.out).mono ?_
    rintro e w9 ⟨rfl, k9⟩
    have b9 := bthen b8 k9
    generalize sel g (x % 1500) (y % 300) n = a at hq hz ⊢
    generalize sel g (x % 1500) z n = a' at hz ⊢
    have t1 : decide ((q : Int) ≤ (a : Int)) = true := by simp; omega
    have t2 : decide ((a' : Int) ≤ (a : Int)) = true := by simp; omega
    have t3 : decide (q ≤ a) = true := by simp; omega
    have t4 : decide (a' ≤ a) = true := by simp; omega
    go_wp2_with fail
    refine (awake_any _).mono ?_
    rintro e w10 ⟨rfl, k10⟩
    go_wp2_with fail
    go_ret
    exact ⟨rfl, bthen (bthen hb1 b9) k10⟩
end Go.Proofs.Ytgllakmcccjcbaa
