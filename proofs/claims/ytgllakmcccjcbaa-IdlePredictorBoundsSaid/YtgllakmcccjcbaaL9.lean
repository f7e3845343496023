/- The walk of IdlePredictorBounds: it returns true and writes nothing that was there. No condition. -/
import Derived.Test.YtgllakmcccjcbaaL8
namespace Go.Proofs.Ytgllakmcccjcbaa
open Go.RowKit
open K (upd upd_hit upd_miss Ch Row Below.thenCh)

theorem Ring.next {R D : Nat → Int} {m : Nat} (h : Ring R D m) : Ring (upd R (m % 8) (D m)) D (m + 1) := by
  intro i hi hm
  by_cases e : i = m
  · subst e; rw [upd_hit]
  · rw [upd_miss _ _ (by omega)]; exact h i (by omega) (by omega)

/-- A predictor that has recorded the first m of D. -/
structure One (w : World) (B m : Nat) (R D : Nat → Int) : Prop where
  a : PB w B (if m < 8 then m else 8) (m % 8) R
  ring : Ring R D m

theorem One.rec_ {w : World} {B m : Nat} {R D : Nat → Int} (h : One w B m R D) (d : Int) (e : d = D m) (hd : d ≤ 1152921504606846976) :
    Calls Try.prog 24 #[.pointer (some ⟨B, 0, none⟩), .int .u64 d] w fun e w' => e = .returned (.int .i64 0) ∧ One w' B (m + 1) (upd R (m % 8) (D m)) D ∧ Ch (· = B) w w' := by
  subst e
  refine (record_yes B _ (m % 8) R (D m) w hd (by split <;> omega) (by omega) h.a).mono ?_
  rintro e w' ⟨rfl, hp, hc⟩
  rw [cnt_eq, show (m % 8 + 1) % 8 = (m + 1) % 8 by omega] at hp
  exact ⟨rfl, ⟨hp, h.ring.next⟩, hc⟩

theorem One.ex_ {w : World} {B m : Nat} {R D : Nat → Int} (h : One w B m R D) (hm : 8 ≤ m) (hD : ∀ i, i < m → 0 ≤ D i ∧ D i ≤ 1152921504606846976) (t : Int) (ht : 0 ≤ t) :
    Calls Try.prog 26 #[.pointer (some ⟨B, 0, none⟩), .int .u64 t] w fun e w' => e = .returned (.int .u64 (expd (sm (fun j => D (m - 8 + j)) 8) (mx (fun j => D (m - 8 + j)) 8) t)) ∧ w = w' := by
  have ha := h.a
  rw [if_neg (by omega)] at ha
  rw [← (h.ring.sum hm).1, ← (h.ring.sum hm).2]
  exact expected_any B 8 _ R t w (by omega) (fun j hj => by rw [h.ring.rot hm j hj]; exact hD _ (by omega)) ht ha
theorem One.ch {w w' : World} {B m : Nat} {R D : Nat → Int} {C : Nat → Prop} (h : One w B m R D) (k : Ch C w w') (hB : ¬ C B) : One w' B m R D := ⟨h.a.ch k hB, h.ring⟩
theorem One.below {w w' : World} {B m B0 : Nat} {R D : Nat → Int} (h : One w B m R D) (k : Below B0 w w') (hB : B < B0) : One w' B m R D := ⟨h.a.below k hB, h.ring⟩

/-- What the law compares. -/
theorem final {Da : Nat → Int} {s : Nat} (hs : s < 8) (hD : ∀ i, i < 8 → 0 ≤ Da i ∧ Da i ≤ 1125899906842623) :
    ∃ X : Int, 0 ≤ X ∧ X ≤ 1125899906842623 ∧ lo (fun t => Da ((t + s) % 8)) 8 ≤ X ∧ X ≤ mx (fun t => Da ((t + s) % 8)) 8 ∧
      (∀ t, expd (sm Da 8) (mx Da 8) t = if t < X then t else X) ∧ ∀ t, expd (sm (fun t => Da ((t + s) % 8)) 8) (mx (fun t => Da ((t + s) % 8)) 8) t = if t < X then t else X := by
  have hb := expd_bounds (fun t => Da ((t + s) % 8)) fun i hi => by have := hD ((i + s) % 8) (by omega); omega
  have hl := lo_nonneg (fun t => Da ((t + s) % 8)) 8 fun i hi => (hD ((i + s) % 8) (by omega)).1
  have hm := mx_le (fun t => Da ((t + s) % 8)) 8 1125899906842623 (by omega) fun i hi => (hD ((i + s) % 8) (by omega)).2
  refine ⟨(sm Da 8 - mx Da 8) / 7, ?_, ?_, ?_, ?_, fun t => rfl, fun t => ?_⟩
  all_goals (rw [rot_sum Da s hs, rot_mx Da s hs] at *)
  · omega
  · omega
  · exact hb.1
  · exact hb.2
  · rfl

set_option maxRecDepth 100000 in
set_option maxHeartbeats 2000000 in
theorem bounds_walk (A : Option Addr) (len c : Nat) (v t : Int) (w : World) (f : Nat → Int) (hn : len ≤ c ∧ c ≤ 9223372036854775807) (hsl : Us w w.heap.size A len f) (_hv0 : -9223372036854775808 ≤ v ∧ v ≤ 9223372036854775807) (ht : 0 ≤ t ∧ t ≤ 18446744073709551615) :
    Calls Try.prog 9 #[.slice A len c, .int .i64 v, .int .u64 t] w fun e w' => e = .returned (.bool true) ∧ Below w.heap.size w w' := by
  have HS := Lib.hid hsl
  obtain ⟨ht, ht2⟩ := ht
  obtain ⟨hlc, hc63⟩ := hn
  clear hsl
  by_cases h8 : len < 8
  · have d1 : decide ((len : Int) < 8) = true := by simp; omega
    go_enter Try.func9, Try.ntmps9
    go_wp2_with (go_at_call 13; refine (awake_any _).mono ?_; rintro e w1 ⟨rfl, hb1⟩)
    go_ret
    exact ⟨rfl, hb1⟩
  have d1 : decide ((len : Int) < 8) = false := by simp; omega
  by_cases h30 : 30 < len
  · have d2 : decide ((30 : Int) < (len : Int)) = true := by simp; omega
    go_enter Try.func9, Try.ntmps9
    go_wp2_with (go_at_call 13; refine (awake_any _).mono ?_; rintro e w1 ⟨rfl, hb1⟩)
    go_ret
    exact ⟨rfl, hb1⟩
  have d2 : decide ((30 : Int) < (len : Int)) = false := by simp; omega
  obtain ⟨b, off, rfl, hbo, -⟩ := HS.out.at_ (Below.refl _ _) (show 0 < len by omega)
  obtain ⟨s, hs, hmod⟩ : ∃ s : Nat, s < 8 ∧ ∀ W : World, Calls Try.prog 15 #[.int .i64 v, .int .i64 8] W fun e w' => e = .returned (.int .i64 (s : Int)) ∧ W = w' := by
    have m1 := md_lo v 8 (by omega)
    have m2 := md_hi v 8 (by omega)
    obtain ⟨k, hk⟩ := Int.eq_ofNat_of_zero_le m1
    exact ⟨k, by omega, fun W => (mod_any v 8 W (by omega) (by omega)).mono fun e w' h => by rw [hk] at h; exact h⟩
  have HMD := Lib.hid hmod
  clear hmod
  obtain ⟨D, hDe⟩ : ∃ D : Nat → Int, ∀ i, D i = f i % 1125899906842624 := ⟨fun i => f i % 1125899906842624, fun i => rfl⟩
  have HDe := Lib.hid hDe
  have HDb : Hid (∀ i, i < len → 0 ≤ D i ∧ D i ≤ 1125899906842623) := fun i hi => by rw [HDe.out i]; have := HS.out.1 i hi; omega
  clear hDe
  go_enter Try.func9, Try.ntmps9
  go_wp2_with fail
  refine (newpred_any _).mono ?_
  rintro e w1 ⟨rfl, hl1, hb1⟩
  have L1 := Lib.hid hl1
  clear hl1
  go_wp2_with fail
  refine (newpred_any _).mono ?_
  rintro e w2 ⟨rfl, hl2, hb2⟩
  have hlt : w.heap.size < w1.heap.size := L1.out.lt
  have A2 : Hid (One w2 w.heap.size 0 (fun _ => 0) D) := (⟨L1.out.below hb2 hlt, fun i hi => by omega⟩ : One w2 w.heap.size 0 (fun _ => 0) D)
  have B2 : Hid (PB w2 w1.heap.size 0 0 (fun _ => 0)) := hl2
  have hb12 := K.bthen hb1 hb2
  clear hl2 L1 hb1 hb2 d1 d2
  have n1 : ((len : Int) - 8).toNat = len - 8 := by omega
  go_wp2_with fail
  clear n1
  go_loopw [12] (fun i wr => ∃ (k : Nat) (R : Nat → Int), k ≤ len ∧ i = .int .i64 k ∧ Hid (One wr w.heap.size k R D) ∧ Hid (PB wr w1.heap.size 0 0 (fun _ => 0)) ∧ Below w.heap.size w wr) (fun i _ => len - (intOf i).toNat)
  case atStart => exact ⟨0, _, by omega, rfl, A2, B2, hb12⟩
  case round =>
    clear A2 B2 hb12
    obtain ⟨k, R, hk, rfl, HA, HBB, hbel⟩ := hrel
    have hsz := hbel.size
    by_cases hlk : k < len
    · obtain ⟨b', off', e', _, c0⟩ := HS.out.at_ hbel hlk
      simp only [Option.some.injEq, Addr.mk.injEq, and_true] at e'
      obtain ⟨rfl, rfl⟩ := e'
      obtain ⟨f0, f1⟩ := HS.out.1 k hlk
      obtain ⟨q0, q1⟩ := HDb.out k hlk
      go_wp2_with fail
      refine (HA.out.rec_ _ (HDe.out k).symm (by rw [← HDe.out k]; omega)).mono ?_
      rintro e w3 ⟨rfl, hA3, hc3⟩
      have HA3 := Lib.hid hA3
      have HB3 := Lib.hid (HBB.out.ch hc3 (by omega))
      have hb3 : Below w.heap.size w w3 := Below.thenCh hbel hc3 hsz (by intro i hi; omega)
      clear hA3 hc3
      go_wp2_with fail
      go_roundw
      case rel => exact ⟨k + 1, _, by omega, by go_num, HA3, HB3, hb3⟩
      case measure => simp [intOf]; omega
    · obtain rfl : k = len := by omega
      obtain ⟨D', hD'e⟩ : ∃ D' : Nat → Int, D' = fun t => D (k - 8 + (t + s) % 8) := ⟨_, rfl⟩
      have HD' := Lib.hid hD'e
      have HDb' : Hid (∀ i, 0 ≤ D' i ∧ D' i ≤ 1125899906842623) := fun i => by rw [HD'.out]; exact HDb.out _ (by omega)
      have O2 : Hid (One wr w1.heap.size 0 (fun _ => 0) D') := (⟨HBB.out, fun i hi => by omega⟩ : One wr w1.heap.size 0 (fun _ => 0) D')
      clear hD'e
      go_wp2_with fail
      obtain ⟨wo, rfl⟩ : ∃ wo : World, wo = wr := ⟨_, rfl⟩
      go_loopw [10, 11, 13] (fun l m i wr => ∃ (j : Nat) (R' : Nat → Int), j ≤ 8 ∧ i = .int .i64 j ∧ l = .int .u64 (lo D' j) ∧ m = .int .u64 (mx D' j) ∧ Hid (One wr w.heap.size k R D) ∧ Hid (One wr w1.heap.size j R' D') ∧ Below w.heap.size w wr) (fun _ _ i _ => 8 - (intOf i).toNat)
      case atStart => exact ⟨0, _, by omega, rfl, rfl, rfl, HA, O2, hbel⟩
      case round =>
        clear HA O2 hbel hsz HBB
        obtain ⟨j, R', hj, rfl, rfl, rfl, HA, HO, hbel⟩ := hrel
        have hsz := hbel.size
        by_cases hj8 : j < 8
        · have hp : (j + s) % 8 < 8 := by omega
          obtain ⟨b', off', e', _, c0⟩ := HS.out.at_ hbel (show k - 8 + (j + s) % 8 < k by omega)
          simp only [Option.some.injEq, Addr.mk.injEq, and_true] at e'
          obtain ⟨rfl, rfl⟩ := e'
          rw [← Nat.add_assoc] at c0
          obtain ⟨f0, f1⟩ := HS.out.1 (k - 8 + (j + s) % 8) (by omega)
          obtain ⟨q0, q1⟩ := HDb'.out j
          have ed : Hid (f (k - 8 + (j + s) % 8) % 1125899906842624 = D' j) := (by rw [HD'.out]; exact (HDe.out _).symm : f (k - 8 + (j + s) % 8) % 1125899906842624 = D' j)
          have j8 : (j : Int) < 8 := by omega
          have g1 : ((j : Int) + s) % 8 < 8 := by omega
          go_wp2_with fail
          refine (HMD.out _).mono ?_
          rintro e w3 ⟨rfl, rfl⟩
          have EL := Lib.hid (show lo D' (j + 1) = if D' j < lo D' j then D' j else lo D' j from rfl)
          have EM := Lib.hid (show mx D' (j + 1) = if mx D' j < D' j then D' j else mx D' j from rfl)
          go_upto_region 17 with fail
          rw [ed.out]
          go_cut [10, 11] (fun l m wx => wr = wx ∧ l = .int .u64 (lo D' (j + 1)) ∧ m = .int .u64 (mx D' (j + 1)))
          case first =>
            have l0 := lo_nonneg D' j fun i _ => (HDb'.out i).1
            have l1 := mx_nonneg D' j
            by_cases z1 : D' j < lo D' j
            · by_cases z2 : mx D' j < D' j
              · go_wp2_with fail
                all_goals (go_meet; exact ⟨rfl, by rw [EL.out, if_pos z1]; try (congr 1; omega), by rw [EM.out, if_pos z2]; try (congr 1; omega)⟩)
              · go_wp2_with fail
                all_goals (go_meet; exact ⟨rfl, by rw [EL.out, if_pos z1]; try (congr 1; omega), by rw [EM.out, if_neg (by omega)]; try (congr 1; omega)⟩)
            · by_cases z2 : mx D' j < D' j
              · go_wp2_with fail
                all_goals (go_meet; exact ⟨rfl, by rw [EL.out, if_neg (by omega)]; try (congr 1; omega), by rw [EM.out, if_pos z2]; try (congr 1; omega)⟩)
              · go_wp2_with fail
                all_goals (go_meet; exact ⟨rfl, by rw [EL.out, if_neg (by omega)]; try (congr 1; omega), by rw [EM.out, if_neg (by omega)]; try (congr 1; omega)⟩)
          case rest =>
            obtain ⟨rfl, rfl, rfl⟩ := hcut
            go_wp2_with fail
            refine (HO.out.rec_ _ rfl (by omega)).mono ?_
            rintro e w4 ⟨rfl, hO4, hc4⟩
            have HO4 := Lib.hid hO4
            have HA4 := Lib.hid (HA.out.ch hc4 (by omega))
            have hb4 : Below w.heap.size w w4 := Below.thenCh hbel hc4 hsz (by intro i hi; omega)
            clear hO4 hc4
            go_wp2_with fail
            go_roundw
            case rel => exact ⟨j + 1, _, by omega, by go_num, rfl, rfl, HA4, HO4, hb4⟩
            case measure => simp [intOf]; omega
        · obtain rfl : j = 8 := by omega
          have j8 : ¬ ((8 : Nat) : Int) < 8 := by omega
          obtain ⟨X, x0, x1, x2, x3, x4, x5⟩ := final (Da := fun t => D (k - 8 + t)) hs fun i hi => HDb.out _ (by omega)
          have HX4 := Lib.hid x4
          have HX5 := Lib.hid x5
          have ha : ∀ W t, 0 ≤ t → One W w.heap.size k R D → Calls Try.prog 26 #[.pointer (some ⟨w.heap.size, 0, none⟩), .int .u64 t] W fun e w' => e = .returned (.int .u64 (if t < X then t else X)) ∧ W = w' := by
            intro W t ht h
            rw [← HX4.out t]
            exact h.ex_ (by omega) (fun i hi => by have := HDb.out i hi; omega) t ht
          have hb : ∀ W t, 0 ≤ t → One W w1.heap.size 8 R' D' → Calls Try.prog 26 #[.pointer (some ⟨w1.heap.size, 0, none⟩), .int .u64 t] W fun e w' => e = .returned (.int .u64 (if t < X then t else X)) ∧ W = w' := by
            intro W t ht h
            rw [← HX5.out t]
            have := h.ex_ (by omega) (fun i hi => by have := HDb'.out i; omega) t ht
            rw [HD'.out] at this
            simpa using this
          have y2 : lo D' 8 ≤ X := by rw [HD'.out]; exact x2
          have y3 : X ≤ mx D' 8 := by rw [HD'.out]; exact x3
          have Ha := Lib.hid ha
          have Hb := Lib.hid hb
          clear ha hb x2 x3 x4 x5
          have a1 : decide (lo D' 8 ≤ X) = true := by simpa using y2
          have a2 : decide (X ≤ mx D' 8) = true := by simpa using y3
          go_wp2_with fail
          refine (Ha.out _ _ (by omega) HA.out).mono ?_
          rintro e w5 ⟨rfl, rfl⟩
          rw [if_neg (by omega)]
          by_cases hx : t < X
          · go_wp2_with fail
            refine (Ha.out _ _ ht HA.out).mono ?_
            rintro e w5 ⟨rfl, rfl⟩
            rw [if_pos hx]
            go_wp2_with fail
            refine (Hb.out _ _ ht HO.out).mono ?_
            rintro e w5 ⟨rfl, rfl⟩
            rw [if_pos hx]
            go_wp2_with fail
            refine (Ha.out _ _ ht HA.out).mono ?_
            rintro e w5 ⟨rfl, rfl⟩
            rw [if_pos hx]
            go_wp2_with fail
            refine (awake_any _).mono ?_
            rintro e w6 ⟨rfl, hb6⟩
            go_wp2_with fail
            go_ret
            exact ⟨rfl, K.bthen hbel hb6⟩
          · go_wp2_with fail
            refine (Ha.out _ _ ht HA.out).mono ?_
            rintro e w5 ⟨rfl, rfl⟩
            rw [if_neg (by omega)]
            go_wp2_with fail
            all_goals
              refine (Hb.out _ _ ht HO.out).mono ?_
              rintro e w5 ⟨rfl, rfl⟩
              rw [if_neg (by omega)]
              go_wp2_with fail
              refine (Ha.out _ _ ht HA.out).mono ?_
              rintro e w5 ⟨rfl, rfl⟩
              rw [if_neg (by omega)]
              go_wp2_with fail
              refine (awake_any _).mono ?_
              rintro e w6 ⟨rfl, hb6⟩
              go_wp2_with fail
              go_ret
              exact ⟨rfl, K.bthen hbel hb6⟩
end Go.Proofs.Ytgllakmcccjcbaa
