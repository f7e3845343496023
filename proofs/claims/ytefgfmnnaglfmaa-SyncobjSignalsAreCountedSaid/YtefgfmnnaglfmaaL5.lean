/- The walk of SyncobjSignalsAreCounted. No condition. -/
import Derived.Test.YtefgfmnnaglfmaaH
namespace Go.Proofs.Ytefgfmnnaglfmaa
open Go.RowKit
def evS (c : Int) (s : LK) : Prop := s.o 1 = some ⟨false, 0, 0, c, []⟩ ∧ stat s 7 ≠ 2
theorem ev_start : evS 0 (addE s0 1).2 := ⟨rfl, by decide⟩
theorem sig_ev {c : Int} {s : LK} (h : evS c s) (hc : c < 255) : (sigS s 1).1 = 0 ∧ evS (c + 1) (sigS s 1).2 := by
  obtain ⟨h1, h2⟩ := h
  unfold sigS
  rw [h1]
  simp only [Bool.false_eq_true, if_false, if_neg (show ¬ (255 : Int) ≤ c by omega)]
  exact ⟨trivial, LK.at_o _ _ _, h2⟩
theorem sig_full {s : LK} (h : evS 255 s) : (sigS s 1).1 = 11 ∧ evS 255 (sigS s 1).2 := by
  have h0 := h
  obtain ⟨h1, h2⟩ := h
  unfold sigS
  rw [h1]
  simp only [Bool.false_eq_true, if_false, if_pos (Int.le_refl 255)]
  exact ⟨trivial, h0⟩
theorem rst_ev {c : Int} {s : LK} (h : evS c s) : (rstS s 1).1 = 0 ∧ evS 0 (rstS s 1).2 := by
  obtain ⟨h1, h2⟩ := h
  unfold rstS
  rw [h1]
  simp only [Bool.false_eq_true, if_false]
  exact ⟨trivial, LK.at_o _ _ _, h2⟩
theorem wt_yes {c : Int} {s : LK} (h : evS c s) (hc : 0 < c) : (wtS s 7 1 0 0).1 = 1 ∧ (wtS s 7 1 0 0).2.1 = 0 ∧ evS (c - 1) (wtS s 7 1 0 0).2.2 := by
  obtain ⟨h1, h2⟩ := h
  unfold wtS
  rw [h1]
  simp only [Bool.false_eq_true, if_false, if_neg h2, if_pos hc]
  refine ⟨trivial, trivial, LK.at_o s 1 _, ?_⟩
  simp [stat, LK.upT, LK.setT]
theorem wt_no {s : LK} (h : evS 0 s) : (wtS s 7 1 0 0).1 = 3 ∧ (wtS s 7 1 0 0).2.1 = 0 ∧ evS 0 (wtS s 7 1 0 0).2.2 := by
  obtain ⟨h1, h2⟩ := h
  unfold wtS
  rw [h1]
  simp only [Bool.false_eq_true, if_false, if_neg h2, if_neg (Int.lt_irrefl 0), waitS, if_true]
  refine ⟨trivial, trivial, h1, ?_⟩
  simp [stat, LK.upT, LK.setT]
/-- The state between two calls. -/
def EV (w0 w : World) (N L k : Nat) (c : Int) : Prop := (∃ s y, OK w N L k s y ∧ evS c s) ∧ Below N w0 w
theorem EV.sig {w0 w : World} {N L k : Nat} {c : Int} (h : EV w0 w N L k c) (h0 : 0 ≤ c) (hc : c < 255) : Calls Try.prog 19 #[ptr L, .int .i64 1] w fun e w' => e = .returned (.int .i64 0) ∧ EV w0 w' N L (k + 1) (c + 1) := by
  obtain ⟨⟨s, y, h1, h2⟩, hb⟩ := h
  have := signal_any (id := 1) h1 (in_small (by omega)) (fun x hx => by rw [h2.1] at hx; injection hx with hx; subst hx; exact ⟨by simp, h0, by show c ≤ 255; omega, fun a ha => by cases ha⟩)
  rw [(sig_ev h2 hc).1] at this
  exact this.mono fun e w' ⟨he, ⟨y', h3⟩, hb3⟩ => ⟨he, ⟨_, _, h3, (sig_ev h2 hc).2⟩, hb.trans hb3⟩
theorem EV.full {w0 w : World} {N L k : Nat} (h : EV w0 w N L k 255) : Calls Try.prog 19 #[ptr L, .int .i64 1] w fun e w' => e = .returned (.int .i64 11) ∧ EV w0 w' N L (k + 1) 255 := by
  obtain ⟨⟨s, y, h1, h2⟩, hb⟩ := h
  have := signal_any (id := 1) h1 (in_small (by omega)) (fun x hx => by rw [h2.1] at hx; injection hx with hx; subst hx; exact ⟨by simp, by decide, by decide, fun a ha => by cases ha⟩)
  rw [(sig_full h2).1] at this
  exact this.mono fun e w' ⟨he, ⟨y', h3⟩, hb3⟩ => ⟨he, ⟨_, _, h3, (sig_full h2).2⟩, hb.trans hb3⟩
theorem EV.rst {w0 w : World} {N L k : Nat} {c : Int} (h : EV w0 w N L k c) : Calls Try.prog 20 #[ptr L, .int .i64 1] w fun e w' => e = .returned (.int .i64 0) ∧ EV w0 w' N L (k + 1) 0 := by
  obtain ⟨⟨s, y, h1, h2⟩, hb⟩ := h
  have := reset_any (id := 1) h1 (in_small (by omega))
  rw [(rst_ev h2).1] at this
  exact this.mono fun e w' ⟨he, ⟨y', h3⟩, hb3⟩ => ⟨he, ⟨_, _, h3, (rst_ev h2).2⟩, hb.trans hb3⟩
theorem EV.yes {w0 w : World} {N L k : Nat} {c : Int} (h : EV w0 w N L k c) (h0 : 0 < c) (hc : c ≤ 255) (hk : k < 1000000) : Calls Try.prog 21 #[ptr L, .int .i64 7, .int .i64 1, .int .u64 0, .int .u64 0] w fun e w' => e = .returned (.tuple #[.int .i64 1, .int .i64 0]) ∧ EV w0 w' N L (k + 1) (c - 1) := by
  obtain ⟨⟨s, y, h1, h2⟩, hb⟩ := h
  have := waitE_any (i := 7) (id := 1) (now := 0) (to := 0) h1 (in_small (by omega)) (in_small (by omega)) hk (fun x hx => by rw [h2.1] at hx; injection hx with hx; subst hx; exact ⟨by simp, by show 0 ≤ c; omega, hc⟩)
  rw [(wt_yes h2 h0).1, (wt_yes h2 h0).2.1] at this
  exact this.mono fun e w' ⟨he, ⟨y', h3⟩, hb3⟩ => ⟨he, ⟨_, _, h3, (wt_yes h2 h0).2.2⟩, hb.trans hb3⟩
theorem EV.no {w0 w : World} {N L k : Nat} (h : EV w0 w N L k 0) (hk : k < 1000000) : Calls Try.prog 21 #[ptr L, .int .i64 7, .int .i64 1, .int .u64 0, .int .u64 0] w fun e w' => e = .returned (.tuple #[.int .i64 3, .int .i64 0]) ∧ EV w0 w' N L (k + 1) 0 := by
  obtain ⟨⟨s, y, h1, h2⟩, hb⟩ := h
  have := waitE_any (i := 7) (id := 1) (now := 0) (to := 0) h1 (in_small (by omega)) (in_small (by omega)) hk (fun x hx => by rw [h2.1] at hx; injection hx with hx; subst hx; exact ⟨by simp, by decide, by decide⟩)
  rw [(wt_no h2).1, (wt_no h2).2.1] at this
  exact this.mono fun e w' ⟨he, ⟨y', h3⟩, hb3⟩ => ⟨he, ⟨_, _, h3, (wt_no h2).2.2⟩, hb.trans hb3⟩
set_option maxRecDepth 100000 in
set_option maxHeartbeats 2000000 in
theorem signals_walk (a b : Int) (rs : Bool) (w : World) : Calls Try.prog 5 #[.int .i64 a, .int .i64 b, .bool rs] w fun e w' => e = .returned (.bool true) ∧ Below w.heap.size w w' := by
  go_enter Try.func5, Try.ntmps5
  go_wp2_with fail
  refine (new_any w).mono ?_
  rintro e w1 ⟨rfl, ⟨y1, h1⟩, hb1⟩
  obtain ⟨N, hN⟩ : ∃ N, w.heap.size = N := ⟨_, rfl⟩
  rw [hN] at h1 hb1 ⊢
  have H1 := Lib.hid h1
  have B1 := Lib.hid hb1
  clear h1 hb1
  go_wp2_with fail
  refine (awake_any w1).mono ?_
  rintro e w2 ⟨rfl, hb2⟩
  have H2 := Lib.hid (H1.out.below hb2)
  have B2 : Hid (Below N w w2) := B1.out.trans (hb2.mono (Nat.le_of_lt H1.out.pos))
  have HC := Lib.hid (addEvent_any (id := 1) H2.out (in_small (by omega)) (by omega))
  rw [show (addE s0 1).1 = 0 from rfl] at HC
  clear hb2 H1 B1
  go_wp2_with fail
  refine HC.out.mono ?_
  rintro e w3 ⟨rfl, ⟨y3, h3⟩, hb3⟩
  have E0 : Hid (EV w w3 N (N + 2) 1 0) := ⟨⟨_, _, h3, ev_start⟩, B2.out.trans hb3⟩
  clear HC h3 hb3 H2 B2
  go_wp2_with fail
  refine (mod_any a 300 _ (by omega) (by omega)).mono ?_
  rintro e w4 ⟨rfl, rfl⟩
  go_wp2_with fail
  refine (mod_any b 300 _ (by omega) (by omega)).mono ?_
  rintro e w4 ⟨rfl, rfl⟩
  have hma := mo_lt a 300 (by omega)
  have hmb := mo_lt b 300 (by omega)
  generalize mo a 300 = ma at hma ⊢
  generalize mo b 300 = mb at hmb ⊢
  go_wp2_with fail
  go_loopw [8, 9, 10] (fun x z _ wr => ∃ i c : Nat, i ≤ ma ∧ Hid (c = min i 255) ∧ x = .int .i64 c ∧ z = .int .i64 i ∧ Hid (EV w wr N (N + 2) (i + 1) c)) (fun _ z _ _ => ma - (intOf z).toNat)
  case atStart => exact ⟨0, 0, by omega, (by omega : (0 : Nat) = min 0 255), rfl, rfl, E0⟩
  case round =>
    clear E0
    obtain ⟨i, c, hi, hc, rfl, rfl, E⟩ := hrel
    have hc9 : c ≤ 255 := by have := hc.out; omega
    by_cases hlt : i < ma
    · have z0 : (i : Int) < ma := by omega
      by_cases hf : c < 255
      · have HS := Lib.hid (E.out.sig (by omega) (by omega))
        have z1 : (c : Int) < 255 := by omega
        go_wp2_with fail
        refine HS.out.mono ?_
        rintro e w5 ⟨rfl, hE⟩
        have E1 : Hid (EV w w5 N (N + 2) (i + 1 + 1) ((c + 1 : Nat) : Int)) := hE
        clear hE HS E
        go_wp2_with fail
        exact ⟨⟨i + 1, c + 1, by omega, (by have := hc.out; omega : c + 1 = min (i + 1) 255), by go_num, by go_num, E1⟩, by simp [intOf]; omega⟩
      · have hc2 : c = 255 := by omega
        have e255 : (c : Int) = 255 := by omega
        have z1 : ¬ (c : Int) < 255 := by omega
        have HS : Hid (Calls Try.prog 19 #[ptr (N + 2), .int .i64 1] wr fun e w' => e = .returned (.int .i64 11) ∧ EV w w' N (N + 2) (i + 1 + 1) c) := by
          rw [e255] at E ⊢
          exact E.out.full
        clear e255 hc2 hf
        go_wp2_with fail
        refine HS.out.mono ?_
        rintro e w5 ⟨rfl, hE⟩
        have E1 := Lib.hid hE
        clear hE HS E
        go_wp2_with fail
        exact ⟨⟨i + 1, c, by omega, (by have := hc.out; omega : c = min (i + 1) 255), rfl, by go_num, E1⟩, by simp [intOf]; omega⟩
    · have z0 : ¬ (i : Int) < ma := by omega
      have hi2 : i = ma := by omega
      subst hi2
      cases rs
      · go_wp2_with fail
        obtain ⟨wo, rfl⟩ : ∃ wo : World, wo = wr := ⟨_, rfl⟩
        go_loopw [11, 12, 13] (fun z _ _ wr => ∃ j : Nat, j ≤ mb ∧ z = .int .i64 j ∧ Hid (EV w wr N (N + 2) (i + 1 + j) ((c - j : Nat) : Int))) (fun z _ _ _ => mb - (intOf z).toNat)
        case atStart => exact ⟨0, by omega, rfl, E⟩
        case round =>
          clear E
          obtain ⟨j, hj, rfl, E⟩ := hrel
          by_cases hlt2 : j < mb
          · have y0 : (j : Int) < mb := by omega
            by_cases hjc : j < c
            · have HS := Lib.hid (E.out.yes (by omega) (by omega) (by omega))
              have y1 : (j : Int) < c := by omega
              go_wp2_with fail
              refine HS.out.mono ?_
              rintro e w5 ⟨rfl, hE⟩
              have E1 : Hid (EV w w5 N (N + 2) (i + 1 + (j + 1)) ((c - (j + 1) : Nat) : Int)) := by
                rw [show ((c - (j + 1) : Nat) : Int) = ((c - j : Nat) : Int) - 1 by omega]; exact hE
              clear hE HS E
              go_wp2_with fail
              exact ⟨⟨j + 1, by omega, by go_num, E1⟩, by simp [intOf]; omega⟩
            · have e0 : ((c - j : Nat) : Int) = 0 := by omega
              rw [e0] at E
              have HS := Lib.hid (E.out.no (by omega))
              have y1 : ¬ (j : Int) < c := by omega
              go_wp2_with fail
              refine HS.out.mono ?_
              rintro e w5 ⟨rfl, hE⟩
              have E1 : Hid (EV w w5 N (N + 2) (i + 1 + (j + 1)) ((c - (j + 1) : Nat) : Int)) := by
                rw [show ((c - (j + 1) : Nat) : Int) = 0 by omega]; exact hE
              clear hE HS E
              go_wp2_with fail
              exact ⟨⟨j + 1, by omega, by go_num, E1⟩, by simp [intOf]; omega⟩
          · have y0 : ¬ (j : Int) < mb := by omega
            have HB := Lib.hid E.out.2
            clear E
            go_wp2_with fail
            go_ret
            exact ⟨rfl, HB.out⟩
      · have HR := Lib.hid E.out.rst
        go_wp2_with fail
        refine HR.out.mono ?_
        rintro e w5 ⟨rfl, hE⟩
        have E1 := Lib.hid hE
        clear hE HR E
        go_wp2_with fail
        obtain ⟨wo, rfl⟩ : ∃ wo : World, wo = w5 := ⟨_, rfl⟩
        go_loopw [11, 12, 13] (fun z _ _ wr => ∃ j : Nat, j ≤ mb ∧ z = .int .i64 j ∧ Hid (EV w wr N (N + 2) (i + 1 + 1 + j) 0)) (fun z _ _ _ => mb - (intOf z).toNat)
        case atStart => exact ⟨0, by omega, rfl, E1⟩
        case round =>
          clear E1
          obtain ⟨j, hj, rfl, E⟩ := hrel
          by_cases hlt2 : j < mb
          · have y0 : (j : Int) < mb := by omega
            have HS := Lib.hid (E.out.no (by omega))
            have y1 : ¬ (j : Int) < 0 := by omega
            go_wp2_with fail
            refine HS.out.mono ?_
            rintro e w5 ⟨rfl, hE⟩
            have E1 : Hid (EV w w5 N (N + 2) (i + 1 + 1 + (j + 1)) 0) := hE
            clear hE HS E
            go_wp2_with fail
            exact ⟨⟨j + 1, by omega, by go_num, E1⟩, by simp [intOf]; omega⟩
          · have y0 : ¬ (j : Int) < mb := by omega
            have HB := Lib.hid E.out.2
            clear E
            go_wp2_with fail
            go_ret
            exact ⟨rfl, HB.out⟩
end Go.Proofs.Ytefgfmnnaglfmaa
