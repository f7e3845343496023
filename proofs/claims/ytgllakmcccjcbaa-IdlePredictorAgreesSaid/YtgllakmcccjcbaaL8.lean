/- The walk of IdlePredictorAgrees: it returns true and writes nothing that was there. No condition. -/
import Derived.Test.YtgllakmcccjcbaaQ2
import Derived.Test.YtgllakmcccjcbaaL10
namespace Go.Proofs.Ytgllakmcccjcbaa
open Go.RowKit
open K (upd upd_hit upd_miss Ch Row Below.thenCh)

/-- The two predictors after m records. -/
structure Both (w : World) (base Ba Bb m : Nat) (R ds : Nat → Int) (v : Value) : Prop where
  a : PB w Ba (if m < 8 then m else 8) (m % 8) R
  b : RP w base Bb v m ds
  ring : Ring R ds m
  bd : ∀ i, i < m → 0 ≤ ds i ∧ ds i ≤ 1152921504606846976

theorem Both.rb {w : World} {base Ba Bb m : Nat} {R ds : Nat → Int} {v : Value} (h : Both w base Ba Bb m R ds v) (hm : 8 ≤ m) : Rb R := fun j hj => by
  rw [h.ring.rot hm j hj]; exact h.bd _ (by omega)

/-- What both expect. -/
def ex (m : Nat) (ds : Nat → Int) (t : Int) : Int := if m < 8 then t else expd (sm (fun j => ds (m - 8 + j)) 8) (mx (fun j => ds (m - 8 + j)) 8) t

theorem Both.ea {w : World} {base Ba Bb m : Nat} {R ds : Nat → Int} {v : Value} (h : Both w base Ba Bb m R ds v) (t : Int) (ht : 0 ≤ t) :
    Calls Try.prog 26 #[.pointer (some ⟨Ba, 0, none⟩), .int .u64 t] w fun e w' => e = .returned (.int .u64 (ex m ds t)) ∧ w = w' := by
  have ha := h.a
  unfold ex
  by_cases hm : m < 8
  · rw [if_pos hm] at ha ⊢; exact expected_few Ba m _ R t w hm ha
  · rw [if_neg hm] at ha ⊢
    rw [← (h.ring.sum (by omega)).1, ← (h.ring.sum (by omega)).2]
    exact expected_any Ba 8 _ R t w (by omega) (h.rb (by omega)) ht ha
theorem Both.eb {w : World} {base Ba Bb m : Nat} {R ds : Nat → Int} {v : Value} (h : Both w base Ba Bb m R ds v) (t : Int) (hm2 : m ≤ 1000) :
    Calls Try.prog 27 #[.pointer (some ⟨Bb, 0, none⟩), .int .u64 t] w fun e w' => e = .returned (.int .u64 (ex m ds t)) ∧ w = w' := by
  unfold ex
  by_cases hm : m < 8
  · rw [if_pos hm]; exact refexpected_few base Bb m v ds t w hm h.b
  · rw [if_neg hm]; exact refexpected_any base Bb m v ds t w (by omega) hm2 h.bd h.b

/-- Between the two Records: the program's has it, the reference's not yet. -/
def RecPost (Ba m : Nat) (R : Nat → Int) (r d : Int) (w : World) (e : Ending) (w' : World) : Prop :=
  e = .returned (.int .i64 r) ∧ Ch (· = Ba) w w' ∧ ((r = 1 ∧ 1152921504606846976 < d ∧ w = w') ∨ (r = 0 ∧ d ≤ 1152921504606846976 ∧ PB w' Ba (if m + 1 < 8 then m + 1 else 8) ((m + 1) % 8) (upd R (m % 8) d)))

theorem cnt_eq (m : Nat) : cnt (if m < 8 then m else 8) = if m + 1 < 8 then m + 1 else 8 := by
  unfold cnt
  by_cases h : m < 8
  · rw [if_pos h, if_pos h]; split <;> omega
  · rw [if_neg h, if_neg (by omega), if_neg (by omega)]

theorem Both.ra {w : World} {base Ba Bb m : Nat} {R ds : Nat → Int} {v : Value} (h : Both w base Ba Bb m R ds v) (d : Int) :
    Calls Try.prog 24 #[.pointer (some ⟨Ba, 0, none⟩), .int .u64 d] w (RecPost Ba m R (if d ≤ 1152921504606846976 then 0 else 1) d w) := by
  by_cases hd : d ≤ 1152921504606846976
  · rw [if_pos hd]
    refine (record_yes Ba _ (m % 8) R d w hd (by split <;> omega) (by omega) h.a).mono ?_
    rintro e w' ⟨rfl, hp, hc⟩
    rw [cnt_eq, show (m % 8 + 1) % 8 = (m + 1) % 8 by omega] at hp
    exact ⟨rfl, hc, .inr ⟨rfl, hd, hp⟩⟩
  · rw [if_neg hd]
    refine (record_no Ba d w (by omega)).mono ?_
    rintro e w' ⟨rfl, rfl⟩
    exact ⟨rfl, Ch.refl _ _, .inl ⟨rfl, by omega, rfl⟩⟩

theorem rp_ch {w w' : World} {C : Nat → Prop} {base B m : Nat} {v : Value} {ds : Nat → Int} (h : RP w base B v m ds) (k : Ch C w w') (hB : ¬ C B) (hv : ∀ g, v.ownBlock = some g → ¬ C g) : RP w' base B v m ds := by
  refine ⟨Row.ch h.1 k hB, h.2.1, ?_⟩
  rcases h.2.2 with h1 | ⟨g, cap, cur, e, hb, hh, r⟩
  · exact .inl h1
  · exact .inr ⟨g, cap, cur, e, hb, (k.block g (K.heap_lt hh) (hv g (by rw [e]; rfl))).trans hh, r⟩

/-- The reference's Record, behind the program's. -/
theorem Both.rb2 {w w1 : World} {base Ba Bb m : Nat} {R ds : Nat → Int} {v : Value} (h : Both w base Ba Bb m R ds v) (d : Int) (hd0 : 0 ≤ d) (hm : m ≤ 999) (hb : base ≤ w.heap.size) (r : Int) (e : Ending)
    (hp : RecPost Ba m R r d w e w1) (hba : base ≤ Ba) (hbb : base ≤ Bb) (hne : Ba ≠ Bb) :
    Calls Try.prog 25 #[.pointer (some ⟨Bb, 0, none⟩), .int .u64 d] w1 fun e w' => e = .returned (.int .i64 r) ∧ (∃ m' R' ds' v', m' ≤ m + 1 ∧ Both w' base Ba Bb m' R' ds' v') ∧ Ch (base ≤ ·) w w' := by
  obtain ⟨-, hc, ⟨rfl, hd, rfl⟩ | ⟨rfl, hd, hpa⟩⟩ := hp
  · refine (refrecord_no Bb d w hd).mono ?_
    rintro e w' ⟨rfl, rfl⟩
    exact ⟨rfl, ⟨m, R, ds, v, by omega, h⟩, Ch.refl _ _⟩
  · have hb1 : RP w1 base Bb v m ds := rp_ch h.b hc (fun e => hne e.symm) (fun g hg e => row_ne h.b.2 h.a (by omega) (by rw [← e]; exact hg))
    refine (refrecord_yes base Bb v m ds d w1 hd (by omega) (Nat.le_trans hb hc.size) hb1).mono ?_
    rintro e w' ⟨rfl, ⟨v', hv'⟩, hc'⟩
    have hnotin : ¬ RC w1 base Bb Ba := by
      rintro (e | ⟨_, cs, hh⟩)
      · exact hne e
      · obtain ⟨cs', hh', _⟩ := hpa
        rw [hh] at hh'
        injection hh' with hh'
        injection hh' with _ ht
        exact absurd ht (by decide)
    refine ⟨rfl, ⟨m + 1, upd R (m % 8) d, upd ds m d, v', Nat.le_refl _, ?_, hv', h.ring.step d, fun i hi => ?_⟩, ?_⟩
    · exact Row.ch hpa hc' hnotin
    · by_cases e : i = m
      · subst e; rw [upd_hit]; exact ⟨hd0, hd⟩
      · rw [upd_miss _ _ e]; exact h.bd i (by omega)
    · refine (hc.mono (fun i hi _ => by omega)).andThen hc' (fun i hi hlt => ?_)
      rcases hi with rfl | ⟨hbi, _⟩
      · exact hbb
      · exact hbi

set_option maxRecDepth 100000 in
set_option maxHeartbeats 2000000 in
theorem predagrees_walk (A : Option Addr) (len c : Nat) (t : Int) (w : World) (f : Nat → Int) (hn : len ≤ 9223372036854775807) (hsl : Us w w.heap.size A len f) (ht : 0 ≤ t ∧ t ≤ 18446744073709551615) :
    Calls Try.prog 8 #[.slice A len c, .int .u64 t] w fun e w' => e = .returned (.bool true) ∧ Below w.heap.size w w' := by
  have HS := Lib.hid hsl
  obtain ⟨ht, ht2⟩ := ht
  clear hsl
  by_cases h40 : 40 < len
  · have d1 : decide ((40 : Int) < (len : Int)) = true := by simp; omega
    go_enter Try.func8, Try.ntmps8
    go_wp2_with (go_at_call 13; refine (awake_any _).mono ?_; rintro e w1 ⟨rfl, hb1⟩)
    go_ret
    exact ⟨rfl, hb1⟩
  have d1 : decide ((40 : Int) < (len : Int)) = false := by simp; omega
  go_enter Try.func8, Try.ntmps8
  go_wp2_with fail
  refine (newpred_any _).mono ?_
  rintro e w1 ⟨rfl, hl1, hb1⟩
  have L1 := Lib.hid hl1
  clear hl1
  go_wp2_with fail
  refine (refnewpred_any _).mono ?_
  rintro e w2 ⟨rfl, hl2, hb2⟩
  have hlt : w.heap.size < w1.heap.size := L1.out.lt
  have B2 : Hid (Both w2 w.heap.size w.heap.size w1.heap.size 0 (fun _ => 0) (fun _ => 0) (.slice none 0 0)) :=
    (⟨L1.out.below hb2 hlt, ⟨hl2.1, rfl, .inl ⟨rfl, rfl⟩⟩, fun i hi => by omega, fun i hi => by omega⟩ : Both w2 w.heap.size w.heap.size w1.heap.size 0 (fun _ => 0) (fun _ => 0) (.slice none 0 0))
  have hb12 := K.bthen hb1 hb2
  clear hl2 L1 hb1 hb2
  go_wp2_with fail
  go_loopw [7] (fun i wr => ∃ (k m : Nat) (R ds : Nat → Int) (v : Value), k ≤ len ∧ m ≤ k ∧ i = .int .i64 k ∧ Hid (Both wr w.heap.size w.heap.size w1.heap.size m R ds v) ∧ Below w.heap.size w wr) (fun i _ => len - (intOf i).toNat)
  case atStart => exact ⟨0, 0, _, _, _, by omega, by omega, rfl, B2, hb12⟩
  case round =>
    clear B2 hb12
    obtain ⟨k, m, R, ds, v, hk, hmk, rfl, HB, hbel⟩ := hrel
    have hsz := hbel.size
    by_cases hlk : k < len
    case neg =>
      go_wp2_with (go_at_call 13; refine (awake_any _).mono ?_; rintro e w3 ⟨rfl, hb3⟩)
      go_ret
      exact ⟨rfl, K.bthen hbel hb3⟩
    obtain ⟨b, off, rfl, hbo, c0⟩ := HS.out.at_ hbel hlk
    obtain ⟨f0, f1⟩ := HS.out.1 k hlk
    have t0 : 0 ≤ t % 1500 := by omega
    obtain ⟨d, hd0, hdk⟩ : ∃ d : Int, 0 ≤ d ∧ ((decide (0 < (k : Int) % 5) = true ∧ d = f k % 1000) ∨ (decide (0 < (k : Int) % 5) = false ∧ d = f k)) := by
      by_cases h5 : 0 < (k : Int) % 5
      · exact ⟨f k % 1000, by omega, .inl ⟨by simpa using h5, rfl⟩⟩
      · exact ⟨f k, f0, .inr ⟨by simpa using h5, rfl⟩⟩
    rcases hdk with ⟨d5, hd⟩ | ⟨d5, hd⟩
    all_goals
      have HDD := Lib.hid hd
      clear hd
      go_wp2_with fail
      rw [← HDD.out]
      refine (HB.out.ra d).mono ?_
      rintro e w3 ⟨rfl, hc3, hp3⟩
      have P3 : Hid (RecPost w.heap.size m R (if d ≤ 1152921504606846976 then 0 else 1) d wr (.returned (.int .i64 (if d ≤ 1152921504606846976 then 0 else 1))) w3) := (⟨rfl, hc3, hp3⟩ : RecPost _ _ _ _ _ _ _ _)
      clear hc3 hp3
      generalize (if d ≤ 1152921504606846976 then (0 : Int) else 1) = r at P3 ⊢
      go_wp2_with fail
      refine (HB.out.rb2 d hd0 (by omega) hsz r _ P3.out (Nat.le_refl _) (by omega) (by omega)).mono ?_
      rintro e w4 ⟨rfl, ⟨m', R', ds', v', hm', hB'⟩, hc4⟩
      have HB4 := Lib.hid hB'
      have hb4 : Below w.heap.size w w4 := Below.thenCh hbel hc4 hsz (fun i hi => hi)
      clear hB' hc4 P3
      go_wp2_with fail
      refine (HB4.out.ea t ht).mono ?_
      rintro e w5 ⟨rfl, rfl⟩
      go_wp2_with fail
      refine (HB4.out.eb t (by omega)).mono ?_
      rintro e w5 ⟨rfl, rfl⟩
      go_wp2_with fail
      refine (HB4.out.ea _ t0).mono ?_
      rintro e w5 ⟨rfl, rfl⟩
      go_wp2_with fail
      refine (HB4.out.eb _ (by omega)).mono ?_
      rintro e w5 ⟨rfl, rfl⟩
      go_wp2_with fail
      go_roundw
      case rel => exact ⟨k + 1, m', R', ds', v', by omega, by omega, by go_num, HB4, hb4⟩
      case measure => simp [intOf]; omega
end Go.Proofs.Ytgllakmcccjcbaa
