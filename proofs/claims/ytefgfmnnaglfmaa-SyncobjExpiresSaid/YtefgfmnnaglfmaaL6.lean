/- The walk of SyncobjExpires. No condition. -/
import Derived.Test.YtefgfmnnaglfmaaX4
import Derived.Test.YtefgfmnnaglfmaaH
namespace Go.Proofs.Ytefgfmnnaglfmaa
open Go.RowKit
/-- Thread 3 waits for event 1 until dl. -/
structure ExS (dl : Int) (s : LK) : Prop where
  t3 : s.t 3 = some ⟨2, 1, false, dl, []⟩
  tn : ∀ i, i ≠ 3 → s.t i = none
  o1 : s.o 1 = some ⟨false, 0, 0, 0, [3]⟩
theorem ex_start {a b : Int} (ha : 0 ≤ a ∧ a < 1099511627776) (hb : 1 ≤ b ∧ b ≤ 100) : (wtS (addE s0 1).2 3 1 a b).1 = 2 ∧ (wtS (addE s0 1).2 3 1 a b).2.1 = 0 ∧ ExS (a + b) (wtS (addE s0 1).2 3 1 a b).2.2 := by
  have e1 : (addE s0 1).2.o 1 = some ⟨false, 0, 0, 0, []⟩ := rfl
  have e2 : stat (addE s0 1).2 3 = 0 := rfl
  have hw : IntKind.u64.wrap (a + b) = a + b := by
    have := IntWalk.u64_in (a + b) (by omega)
    exact this
  have e3 : dlv a b = a + b := by unfold dlv; rw [hw, if_neg (by omega)]
  have e4 : wtS (addE s0 1).2 3 1 a b = (2, 0, (waitS (addE s0 1).2 3 1 a b).2) := by
    unfold wtS
    rw [e1]
    simp only [Bool.false_eq_true, if_false, e2, Int.lt_irrefl]
    rw [if_neg (by decide)]
    unfold waitS
    rw [if_neg (show ¬ b = 0 by omega)]
  rw [e4]
  refine ⟨rfl, rfl, ?_⟩
  show ExS (a + b) (waitS (addE s0 1).2 3 1 a b).2
  unfold waitS
  rw [if_neg (show ¬ b = 0 by omega), e3]
  have e5 : decide (65535 ≤ b) = false := by simp; omega
  refine ⟨?_, fun i hi => ?_, ?_⟩
  · simp [LK.upO, LK.upT, LK.setO, LK.setT, stT, addE, s0, th0, e5]
  · simp [LK.upO, LK.upT, LK.setO, LK.setT, stT, addE, s0, th0, hi]
  · simp [LK.upO, LK.upT, LK.setO, LK.setT, stT, addE, s0, th0]
theorem ExS.ex {dl now : Int} {s : LK} (h : ExS dl s) (i : Int) : exB s now i = true ↔ (i = 3 ∧ dl ≤ now) := by
  unfold exB
  by_cases e : i = 3
  · subst e; rw [h.t3]; simp
  · rw [h.tn i e]; simp [e]
theorem list3 {E : List Int} (hn : E.Nodup) (h : ∀ i, i ∈ E ↔ i = 3) : E = [3] := by
  rcases E with _ | ⟨a, r⟩
  · have := (h 3).2 rfl; cases this
  · obtain rfl := (h a).1 (by simp)
    rcases r with _ | ⟨b, r⟩
    · rfl
    · obtain rfl := (h b).1 (by simp)
      simp at hn
theorem ExS.gone {dl : Int} {s : LK} (h : ExS dl s) : stat (expS s [3]) 3 = 3 ∧ (expS s [3]).o 1 = some ⟨false, 0, 0, 0, []⟩ := by
  have e : stT s 3 = ⟨2, 1, false, dl, []⟩ := by unfold stT; rw [h.t3]; rfl
  constructor
  · simp [stat, expS, stopS, LK.upT, LK.upO, LK.setT, LK.setO]
  · simp [expS, stopS, LK.upT, LK.upO, LK.setT, LK.setO, e, h.o1]
/-- The state between two rounds. -/
def ES (w0 w : World) (F : Nat → Prop) (L : Nat) (dl : Int) : Prop := (∃ s y, OK w F L 2 s y ∧ ExS dl s) ∧ Keep F w0 w
theorem ES.no {w0 w : World} {F : Nat → Prop} {L : Nat} {dl now : Int} (h : ES w0 w F L dl) (hd : now < dl) : Calls Try.prog 22 #[ptr L, .int .u64 now] w fun e w' => ∃ a cap, e = .returned (.slice a 0 cap) ∧ ES w0 w' F L dl := by
  obtain ⟨⟨s, y, h1, h2⟩, hb⟩ := h
  refine (expire_any (now := now) h1 (by omega) (fun i t ht _ => ?_) (fun i t ht => ?_)).mono ?_
  · by_cases e : i = 3
    · subst e; rw [h2.t3] at ht; injection ht with ht; subst ht; exact ⟨(in_small (by omega) : InI 1), _, h2.o1, by simp⟩
    · rw [h2.tn i e] at ht; cases ht
  · by_cases e : i = 3
    · subst e; exact in_small (by omega)
    · rw [h2.tn i e] at ht; cases ht
  · rintro e w' ⟨v, E, he, _, hn, hm, hq, _, ⟨y', h3⟩, hb3⟩
    have hE : E = [] := List.eq_nil_iff_forall_not_mem.2 fun i hi => by have := (h2.ex i).1 ((hm i).1 hi); omega
    subst hE
    obtain ⟨a, cap, hv, _⟩ := hq.form
    exact ⟨a, cap, by rw [he, hv]; rfl, ⟨_, y', h3, h2⟩, hb.trans hb3⟩
def EG (w0 w : World) (F : Nat → Prop) (L : Nat) : Prop := (∃ s y, OK w F L 2 s y ∧ stat s 3 = 3 ∧ s.o 1 = some ⟨false, 0, 0, 0, []⟩) ∧ Keep F w0 w
theorem ES.yes {w0 w : World} {F : Nat → Prop} {L : Nat} {dl now : Int} (h : ES w0 w F L dl) (hd : dl ≤ now) : Calls Try.prog 22 #[ptr L, .int .u64 now] w fun e w' => ∃ v, e = .returned v ∧ QR w' noG v [3] ∧ EG w0 w' F L := by
  obtain ⟨⟨s, y, h1, h2⟩, hb⟩ := h
  refine (expire_any (now := now) h1 (by omega) (fun i t ht _ => ?_) (fun i t ht => ?_)).mono ?_
  · by_cases e : i = 3
    · subst e; rw [h2.t3] at ht; injection ht with ht; subst ht; exact ⟨(in_small (by omega) : InI 1), _, h2.o1, by simp⟩
    · rw [h2.tn i e] at ht; cases ht
  · by_cases e : i = 3
    · subst e; exact in_small (by omega)
    · rw [h2.tn i e] at ht; cases ht
  · rintro e w' ⟨v, E, he, _, hn, hm, hq, _, ⟨y', h3⟩, hb3⟩
    have hE : E = [3] := list3 hn fun i => by rw [hm i, h2.ex i]; exact ⟨fun h => h.1, fun h => ⟨h, hd⟩⟩
    subst hE
    exact ⟨v, he, hq, ⟨_, y', h3, h2.gone⟩, hb.trans hb3⟩
theorem ES.st {w0 w : World} {F : Nat → Prop} {L : Nat} {dl : Int} (h : ES w0 w F L dl) : Calls Try.prog 16 #[ptr L, .int .i64 3] w fun e w' => e = .returned (.int .i64 2) ∧ w = w' := by
  obtain ⟨⟨s, y, h1, h2⟩, hb⟩ := h
  have := status_any (i := 3) h1 (in_small (by omega))
  rwa [show stat s 3 = 2 by unfold stat; rw [h2.t3]] at this
theorem EG.st {w0 w : World} {F : Nat → Prop} {L : Nat} (h : EG w0 w F L) : Calls Try.prog 16 #[ptr L, .int .i64 3] w fun e w' => e = .returned (.int .i64 3) ∧ w = w' := by
  obtain ⟨⟨s, y, h1, h2, _⟩, hb⟩ := h
  have := status_any (i := 3) h1 (in_small (by omega))
  rwa [h2] at this
theorem EG.wt {w0 w : World} {F : Nat → Prop} {L : Nat} (h : EG w0 w F L) : Calls Try.prog 17 #[ptr L, .int .i64 1] w fun e w' => ∃ a cap, e = .returned (.slice a 0 cap) ∧ Below w.heap.size w w' := by
  obtain ⟨⟨s, y, h1, h2, h3⟩, hb⟩ := h
  refine (waitersX (id := 1) h1 (in_small (by omega)) h3 (by simp)).mono ?_
  rintro e w' ⟨v, he, hq, hb⟩
  obtain ⟨a, cap, hv, _⟩ := hq.form
  exact ⟨a, cap, by rw [he, hv]; rfl, hb⟩
theorem EG.keep {w0 w w' : World} {F : Nat → Prop} {L : Nat} (h : EG w0 w F L) (hb : Below w.heap.size w w') : EG w0 w' F L := by
  obtain ⟨⟨s, y, h1, h2⟩, h3⟩ := h
  exact ⟨⟨s, y, h1.below hb, h2⟩, h3.trans (Keep.of hb)⟩
theorem QR.lit1 (w : World) (a : Int) : QR (w.alloc (.cells #[.int .i64 a] 3)) noG (.slice (some ⟨w.heap.size, 0, none⟩) 1 1) [a] := by
  refine ⟨?_, fun _ _ h => h⟩
  exact ⟨rfl, .inr ⟨w.heap.size, 1, #[.int .i64 a], rfl, Nat.zero_le _, heap_alloc_new w _, Nat.le_refl _, by unfold maxLen; omega, rfl, rfl⟩⟩
set_option maxRecDepth 100000 in
set_option maxHeartbeats 4000000 in
theorem expires_walk (st wa : Int) (a : Option Addr) (len cap : Nat) (l : List Int) (w : World) (hst : InU st) (hwa : InU wa) (h : UintS w a len cap l) :
    Calls Try.prog 6 #[.int .u64 st, .int .u64 wa, .slice a len cap] w fun e w' => e = .returned (.bool true) ∧ Below w.heap.size w w' := by
  have HI := Lib.hid h
  have hlen : len ≤ 9223372036854775807 := by have h1 := h.2.1; have h2 := h.2.2.1; unfold maxLen at h2; omega
  have hlc : len ≤ cap := h.2.1
  clear h
  obtain ⟨s1, s2⟩ := hst
  obtain ⟨a1, a2⟩ := hwa
  go_enter Try.func6, Try.ntmps6
  go_wp2_with fail
  obtain ⟨F, hF⟩ : ∃ F : Nat → Prop, F = fun k => k < w.heap.size := ⟨_, rfl⟩
  refine (new_any F w (fun k hk => by rw [hF] at hk; exact hk)).mono ?_
  rintro e w1 ⟨rfl, ⟨y1, h1⟩, hb1⟩
  have hN : ∀ k, k < w.heap.size → F k := fun k hk => by rw [hF]; exact hk
  have HN := Lib.hid hN
  have H1 := Lib.hid h1
  have B1 := Lib.hid hb1
  clear h1 hb1 hN hF
  obtain ⟨L, hL⟩ : ∃ L, w.heap.size + 2 = L := ⟨_, rfl⟩
  rw [hL] at H1 ⊢
  clear hL
  go_wp2_with fail
  refine (awake_any w1).mono ?_
  rintro e w2 ⟨rfl, hb2⟩
  have H2 := Lib.hid (H1.out.below hb2)
  have B2 : Hid (Keep F w w2) := B1.out.trans (Keep.of hb2)
  have HC := Lib.hid (addEvent_any (id := 1) H2.out (in_small (by omega)) (by omega))
  rw [show (addE s0 1).1 = 0 from rfl] at HC
  obtain ⟨S, hS⟩ : ∃ S, st % 1099511627776 = S := ⟨_, rfl⟩
  obtain ⟨W, hW⟩ : ∃ W, 1 + wa % 100 = W := ⟨_, rfl⟩
  have hSb : 0 ≤ S ∧ S < 1099511627776 := by omega
  have hWb : 1 ≤ W ∧ W ≤ 100 := by omega
  rw [hS, hW]
  clear hb2 H1 B1
  go_wp2_with fail
  refine HC.out.mono ?_
  rintro e w3 ⟨rfl, ⟨y3, h3⟩, hb3⟩
  have HC2 := Lib.hid (waitE_any (i := 3) (id := 1) (now := S) (to := W) h3 (in_small (by omega)) (in_small (by omega)) (by omega) (fun x hx => by
    have : (addE s0 1).2.o 1 = some ⟨false, 0, 0, 0, []⟩ := rfl
    rw [this] at hx; injection hx with hx; subst hx; simp))
  obtain ⟨x1, x2, x3⟩ := ex_start hSb hWb
  rw [x1, x2] at HC2
  have X3 := Lib.hid x3
  have B3 : Hid (Keep F w w3) := B2.out.trans hb3
  clear HC h3 hb3 H2 B2 x1 x2 x3 hS hW s1 s2 a1 a2
  go_wp2_with fail
  refine HC2.out.mono ?_
  rintro e w4 ⟨rfl, ⟨y4, h4⟩, hb4⟩
  have E0 : Hid (ES w w4 F L (S + W)) := ⟨⟨_, y4, h4, X3.out⟩, B3.out.trans hb4⟩
  clear HC2 X3 B3 h4 hb4
  have hsw : IntKind.u64.wrap (S + W) = S + W := IntWalk.u64_in (S + W) (by omega)
  go_wp2_with fail
  go_loopw [10, 11, 12] (fun nw z _ wr => ∃ (i : Nat) (now : Int), i ≤ len ∧ i ≤ 20 ∧ S ≤ now ∧ now ≤ S + 30 * i ∧ nw = .int .u64 now ∧ z = .int .i64 i ∧ Hid (ES w wr F L (S + W))) (fun _ z _ _ => 20 - (intOf z).toNat)
  case atStart => exact ⟨0, S, by omega, by omega, by omega, by omega, rfl, rfl, E0⟩
  case round =>
    clear E0
    obtain ⟨i, now, hil, hi20, hn1, hn2, rfl, rfl, E⟩ := hrel
    by_cases hcont : i < len ∧ i < 20
    · have y0 : (i : Int) < len := by omega
      have y1 : (i : Int) < 20 := by omega
      obtain ⟨b, o, x, rfl, hbw, hx, hmem, hwf, hrg⟩ := HI.out.at hcont.1
      have cx : wr.cell? ⟨b, o + i, none⟩ = some (.int .u64 x) := by
        have h1 := hrg 0 (.int .u64 x) rfl
        rw [Nat.mul_one, Nat.add_zero] at h1
        exact ((Keep.below E.out.2 HN.out (Nat.le_refl _)).cell (p := ⟨b, o + i, none⟩) hbw).trans h1
      obtain ⟨x1, x2⟩ := hwf
      obtain ⟨n2, hn2'⟩ : ∃ n2, now + x % 30 = n2 := ⟨_, rfl⟩
      have hwr : IntKind.u64.wrap (now + x % 30) = n2 := by rw [IntWalk.u64_in (now + x % 30) (by omega), hn2']
      have hb1 : S ≤ n2 := by omega
      have hb2 : n2 ≤ S + 30 * ((i : Int) + 1) := by omega
      clear hrg hx hmem
      by_cases hd : S + W ≤ n2
      · have HC := Lib.hid (E.out.yes hd)
        go_wp2_with fail
        refine HC.out.mono ?_
        rintro e w5 ⟨v, rfl, hq, hE⟩
        have HQ1 : Hid (QR (w5.alloc (.cells #[.int .i64 3] 3)) noG v [3]) := ⟨World.ownsRow.alloc hq.1 _, hq.2⟩
        have HE := Lib.hid (equal_any HQ1.out (QR.lit1 w5 3) (by simp) (by simp))
        rw [decide_eq_true rfl] at HE
        have E5 : Hid (EG w (w5.alloc (.cells #[.int .i64 3] 3)) F L) := hE.keep ((Below.refl _ _).alloc (Nat.le_refl _) _)
        clear HC hq hE E HQ1
        go_wp2_with fail
        refine HE.out.mono ?_
        rintro e w6 ⟨rfl, hb6⟩
        have E6 := Lib.hid (E5.out.keep hb6)
        have HS := Lib.hid E6.out.st
        clear HE E5 hb6
        go_wp2_with fail
        refine HS.out.mono ?_
        rintro e w7 ⟨rfl, rfl⟩
        have HW := Lib.hid E6.out.wt
        clear HS
        go_wp2_with fail
        refine HW.out.mono ?_
        rintro e w7 ⟨a7, c7, rfl, hb7⟩
        have E7 := Lib.hid (E6.out.keep hb7)
        clear HW hb7 E6
        go_wp2_with fail
        go_ret
        exact ⟨rfl, Keep.below E7.out.2 HN.out (Nat.le_refl _)⟩
      · have hd' : n2 < S + W := by omega
        have HC := Lib.hid (E.out.no hd')
        go_wp2_with fail
        refine HC.out.mono ?_
        rintro e w5 ⟨a5, c5, rfl, hE⟩
        have E5 := Lib.hid hE
        have HS := Lib.hid E5.out.st
        clear HC hE E
        go_wp2_with fail
        refine HS.out.mono ?_
        rintro e w7 ⟨rfl, rfl⟩
        clear HS
        go_wp2_with fail
        go_roundw
        case rel => exact ⟨i + 1, n2, by omega, by omega, by omega, by omega, rfl, by go_num, E5⟩
        case measure => simp [intOf]; omega
    · by_cases hl : i < len
      · have y0 : (i : Int) < len := by omega
        have y1 : ¬ (i : Int) < 20 := by omega
        go_wp2_with fail
        go_ret
        exact ⟨rfl, Keep.below E.out.2 HN.out (Nat.le_refl _)⟩
      · have y0 : ¬ (i : Int) < len := by omega
        go_wp2_with fail
        go_ret
        exact ⟨rfl, Keep.below E.out.2 HN.out (Nat.le_refl _)⟩
end Go.Proofs.Ytefgfmnnaglfmaa
