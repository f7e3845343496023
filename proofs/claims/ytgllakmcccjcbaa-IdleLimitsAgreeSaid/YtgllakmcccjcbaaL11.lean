/- The walk of IdleLimitsAgree: it returns true and writes nothing that was there. No condition. -/
import Derived.Test.YtgllakmcccjcbaaN
import Derived.Test.YtgllakmcccjcbaaE
import Derived.Deep.RegionWith
namespace Go.Proofs.Ytgllakmcccjcbaa
open Go.RowKit K

theorem K.Ch.lb {C : Nat → Prop} {w w' : World} {B t : Nat} {has : Nat → Bool} {val : Nat → Int} (k : Ch C w w') (h : LB w B t has val) (hB : ¬ C B) : LB w' B t has val := Row.ch h k hB
theorem K.Ch.onto {C : Nat → Prop} {a b c : World} {B : Nat} (k : Ch C b c) (h : Below B a b) (hB : B ≤ a.heap.size) (hC : ∀ i, C i → B ≤ i) : Below B a c := Below.thenCh h k (Nat.le_trans hB h.size) hC

set_option maxRecDepth 100000 in
set_option maxHeartbeats 2000000 in
theorem limitsagree_walk (A : Option Addr) (len c : Nat) (w : World) (f : Nat → Rq) (hn : len ≤ 9223372036854775807) (hsl : Rs w w.heap.size A len f) :
    Calls Try.prog 11 #[.slice A len c] w fun e w' => e = .returned (.bool true) ∧ Below w.heap.size w w' := by
  have HS := Lib.hid hsl
  clear hsl
  by_cases h60 : 60 < len
  · have d1 : decide ((60 : Int) < (len : Int)) = true := by simp; omega
    go_enter Try.func11, Try.ntmps11
    go_wp2_with (go_at_call 13; refine (awake_any _).mono ?_; rintro e w1 ⟨rfl, hb1⟩)
    go_ret
    exact ⟨rfl, hb1⟩
  have d1 : decide ((60 : Int) < (len : Int)) = false := by simp; omega
  go_enter Try.func11, Try.ntmps11
  go_wp2_with fail
  refine (newlimits_any _).mono ?_
  rintro e w1 ⟨rfl, hl1, hb1⟩
  have L1 := Lib.hid hl1
  clear hl1
  go_wp2_with fail
  refine (refnew_any _).mono ?_
  rintro e w2 ⟨rfl, hl2, hb2⟩
  have L2 := Lib.hid (L1.out.below hb2 L1.out.lt)
  have M2 := Lib.hid hl2
  have hlt : w.heap.size < w1.heap.size := L1.out.lt
  have hb12 := bthen hb1 hb2
  clear hl2 L1 hb1 hb2
  go_wp2_with fail
  go_loopw [5] (fun i wr => ∃ (k : Nat) (has : Nat → Bool) (va vb : Nat → Int), k ≤ len ∧ i = .int .i64 k ∧ Hid (Agree has va vb) ∧ Hid (LB wr w.heap.size 70 has va) ∧ Hid (LB wr w1.heap.size 73 has vb) ∧ Below w.heap.size w wr) (fun i _ => len - (intOf i).toNat)
  case atStart => exact ⟨0, _, _, _, by omega, rfl, (fun i hi hh => Bool.noConfusion hh), L2, M2, hb12⟩
  case round =>
    clear L2 M2 hb12
    obtain ⟨k, has, va, vb, hk, rfl, hag, LA, LBB, hbel⟩ := hrel
    have hsz := hbel.size
    by_cases hlk : k < len
    case neg =>
      go_wp2_with (go_at_call 13; refine (awake_any _).mono ?_; rintro e w3 ⟨rfl, hb3⟩)
      go_ret
      exact ⟨rfl, bthen hbel hb3⟩
    obtain ⟨b, off, rfl, hb, c0, c1, c2, c3⟩ := HS.out.at_ hbel hlk
    have hbw : b < wr.heap.size := by omega
    have hw1 : w1.heap.size < wr.heap.size := LBB.out.lt
    generalize hq : f k = q at c0 c1 c2 c3
    obtain ⟨qc, ql, qrm, qraw⟩ := q
    clear hq
    simp only at c0 c1 c2 c3
    have hb3 : Below w.heap.size w (wr.alloc (.cells #[.int .i64 qc, .int .u64 ql, .bool qrm, .bool qraw] 57)) := hbel.alloc hsz _
    have LA3 := Lib.hid (Row.alloc LA.out (.cells #[.int .i64 qc, .int .u64 ql, .bool qrm, .bool qraw] 57))
    have LB3 := Lib.hid (Row.alloc LBB.out (.cells #[.int .i64 qc, .int .u64 ql, .bool qrm, .bool qraw] 57))
    rcases qraw with _ | _ <;> rcases qrm with _ | _
    · obtain ⟨r, has', va', vb', hag', p1, p2⟩ := set_both (md qc 5) ql has va vb hag.out
      have P1 := Lib.hid p1
      have P2 := Lib.hid p2
      have HL := Lib.hid (limit_agree hag')
      clear p1 p2
      go_wp2_with fail
      refine (mod_any qc 5 _ (by omega) (by omega)).mono ?_
      rintro e w3 ⟨rfl, rfl⟩
      go_wp2_with fail
      go_region_with (first | (go_at_call 29; refine (P1.out _ _ (by exact LA3.out)).mono ?_; rintro e w3 ⟨rfl, ha4, hc4⟩; have LA4 := Lib.hid ha4; have LB4 := Lib.hid (hc4.lb LB3.out (by omega)); have bx := (hc4.cell ⟨wr.heap.size, 1, none⟩ (by simp) (by simp; omega)).trans (show _ = some (Value.int .u64 ql) by simp [go_sem]); clear ha4) | (go_at_call 34; refine (P2.out _ _ (by exact LB4.out)).mono ?_; rintro e w4 ⟨rfl, hb5, hc5⟩; have LA5 := Lib.hid (hc5.lb LA4.out (by omega)); have LB5 := Lib.hid hb5; clear hb5))
      all_goals
        have hw3 : Below w.heap.size w w3 := by
          refine K.Ch.onto hc4 ?_ (Nat.le_refl _) (by intro i hi; omega)
          repeat (first | exact hb3 | apply Below.drew)
        have hb6 : Below w.heap.size w w4 := by
          refine K.Ch.onto hc5 ?_ (Nat.le_refl _) (by intro i hi; omega)
          repeat (first | exact hw3 | apply Below.drew)
        clear hw3 hc4 hc5 bx
        have eL : (limit has' va' != limit has' vb') = false := by rw [HL.out]; simp
        go_wp2_with fail
        refine (limit_any _ _ _ _ (by exact LA5.out)).mono ?_
        rintro e w5 ⟨rfl, rfl⟩
        go_wp2_with fail
        refine (reflimit_any _ _ _ _ (by exact LB5.out)).mono ?_
        rintro e w5 ⟨rfl, rfl⟩
        go_wp2_with fail
        go_roundw
        case rel => exact ⟨k + 1, has', va', vb', by omega, by go_num, hag', LA5, LB5, by repeat (first | exact hb6 | apply Below.drew)⟩
        case measure => simp [intOf]; omega
    · obtain ⟨r, has', va', vb', hag', p1, p2⟩ := remove_both (md qc 5) has va vb hag.out
      have P1 := Lib.hid p1
      have P2 := Lib.hid p2
      have HL := Lib.hid (limit_agree hag')
      clear p1 p2
      go_wp2_with fail
      refine (mod_any qc 5 _ (by omega) (by omega)).mono ?_
      rintro e w3 ⟨rfl, rfl⟩
      go_wp2_with fail
      refine (P1.out _ _ LA3.out).mono ?_
      rintro e w3 ⟨rfl, ha4, hc4⟩
      have LA4 := Lib.hid ha4
      have LB4 := Lib.hid (hc4.lb LB3.out (by omega))
      clear ha4
      go_wp2_with fail
      refine (P2.out _ _ LB4.out).mono ?_
      rintro e w4 ⟨rfl, hb5, hc5⟩
      have LA5 := Lib.hid (hc5.lb LA4.out (by omega))
      have LB5 := Lib.hid hb5
      have hb6 : Below w.heap.size w w4 := hc5.onto (hc4.onto hb3 (Nat.le_refl _) (by intro i hi; omega)) (Nat.le_refl _) (by intro i hi; omega)
      clear hb5 hc4 hc5
      have eL : (limit has' va' != limit has' vb') = false := by rw [HL.out]; simp
      go_wp2_with fail
      refine (limit_any _ _ _ _ LA5.out).mono ?_
      rintro e w5 ⟨rfl, rfl⟩
      go_wp2_with fail
      refine (reflimit_any _ _ _ _ LB5.out).mono ?_
      rintro e w5 ⟨rfl, rfl⟩
      go_wp2_with fail
      go_roundw
      case rel => exact ⟨k + 1, has', va', vb', by omega, by go_num, hag', LA5, LB5, hb6⟩
      case measure => simp [intOf]; omega
    · obtain ⟨r, has', va', vb', hag', p1, p2⟩ := set_both qc ql has va vb hag.out
      have P1 := Lib.hid p1
      have P2 := Lib.hid p2
      have HL := Lib.hid (limit_agree hag')
      clear p1 p2
      go_wp2_with fail
      refine (mod_any qc 5 _ (by omega) (by omega)).mono ?_
      rintro e w3 ⟨rfl, rfl⟩
      go_wp2_with fail
      go_region_with (first | (go_at_call 29; refine (P1.out _ _ (by exact LA3.out)).mono ?_; rintro e w3 ⟨rfl, ha4, hc4⟩; have LA4 := Lib.hid ha4; have LB4 := Lib.hid (hc4.lb LB3.out (by omega)); have bx := (hc4.cell ⟨wr.heap.size, 1, none⟩ (by simp) (by simp; omega)).trans (show _ = some (Value.int .u64 ql) by simp [go_sem]); clear ha4) | (go_at_call 34; refine (P2.out _ _ (by exact LB4.out)).mono ?_; rintro e w4 ⟨rfl, hb5, hc5⟩; have LA5 := Lib.hid (hc5.lb LA4.out (by omega)); have LB5 := Lib.hid hb5; clear hb5))
      all_goals
        have hw3 : Below w.heap.size w w3 := by
          refine K.Ch.onto hc4 ?_ (Nat.le_refl _) (by intro i hi; omega)
          repeat (first | exact hb3 | apply Below.drew)
        have hb6 : Below w.heap.size w w4 := by
          refine K.Ch.onto hc5 ?_ (Nat.le_refl _) (by intro i hi; omega)
          repeat (first | exact hw3 | apply Below.drew)
        clear hw3 hc4 hc5 bx
        have eL : (limit has' va' != limit has' vb') = false := by rw [HL.out]; simp
        go_wp2_with fail
        refine (limit_any _ _ _ _ (by exact LA5.out)).mono ?_
        rintro e w5 ⟨rfl, rfl⟩
        go_wp2_with fail
        refine (reflimit_any _ _ _ _ (by exact LB5.out)).mono ?_
        rintro e w5 ⟨rfl, rfl⟩
        go_wp2_with fail
        go_roundw
        case rel => exact ⟨k + 1, has', va', vb', by omega, by go_num, hag', LA5, LB5, by repeat (first | exact hb6 | apply Below.drew)⟩
        case measure => simp [intOf]; omega
    · obtain ⟨r, has', va', vb', hag', p1, p2⟩ := remove_both qc has va vb hag.out
      have P1 := Lib.hid p1
      have P2 := Lib.hid p2
      have HL := Lib.hid (limit_agree hag')
      clear p1 p2
      go_wp2_with fail
      refine (mod_any qc 5 _ (by omega) (by omega)).mono ?_
      rintro e w3 ⟨rfl, rfl⟩
      go_wp2_with fail
      refine (P1.out _ _ LA3.out).mono ?_
      rintro e w3 ⟨rfl, ha4, hc4⟩
      have LA4 := Lib.hid ha4
      have LB4 := Lib.hid (hc4.lb LB3.out (by omega))
      clear ha4
      go_wp2_with fail
      refine (P2.out _ _ LB4.out).mono ?_
      rintro e w4 ⟨rfl, hb5, hc5⟩
      have LA5 := Lib.hid (hc5.lb LA4.out (by omega))
      have LB5 := Lib.hid hb5
      have hb6 : Below w.heap.size w w4 := hc5.onto (hc4.onto hb3 (Nat.le_refl _) (by intro i hi; omega)) (Nat.le_refl _) (by intro i hi; omega)
      clear hb5 hc4 hc5
      have eL : (limit has' va' != limit has' vb') = false := by rw [HL.out]; simp
      go_wp2_with fail
      refine (limit_any _ _ _ _ LA5.out).mono ?_
      rintro e w5 ⟨rfl, rfl⟩
      go_wp2_with fail
      refine (reflimit_any _ _ _ _ LB5.out).mono ?_
      rintro e w5 ⟨rfl, rfl⟩
      go_wp2_with fail
      go_roundw
      case rel => exact ⟨k + 1, has', va', vb', by omega, by go_num, hag', LA5, LB5, hb6⟩
      case measure => simp [intOf]; omega
end Go.Proofs.Ytgllakmcccjcbaa
