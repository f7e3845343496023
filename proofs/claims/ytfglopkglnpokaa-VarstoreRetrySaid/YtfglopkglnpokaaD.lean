/- Small operations of a flash. No condition but that it lies in memory. -/
import Derived.Test.YtfglopkglnpokaaC
namespace Go.Proofs.Ytfglopkglnpokaa
open Go.RowKit
section
variable {w : World} {D : Nat → Prop} {X : Nat} {y : FLay} {fl : FL}
abbrev fptr (X : Nat) : Value := .pointer (some ⟨X, 0, none⟩)
theorem shape_any (h : FW w D X y fl) : Calls Try.prog 36 #[fptr X] w fun e w' => e = .returned (.agg #[.int .i64 fl.B, .int .i64 fl.P, .int .i64 fl.E]) ∧ Below w.heap.size w w' := by
  have hb : Below w.heap.size w (w.alloc (.cells #[.int .i64 0, .int .i64 0, .int .i64 0] 23)) := (Below.refl _ _).alloc (Nat.le_refl _) _
  have h1 := h.below hb
  have c0 := h1.c0
  have c1 := h1.c1
  have c2 := h1.c2
  clear h h1 hb
  go_enter Try.func36, Try.ntmps36
  go_wp2_with fail
  exact bodyPost_ret (v := .agg #[.int .i64 fl.B, .int .i64 fl.P, .int .i64 fl.E]) (results_cell_row rfl _ _ w.heap.size 23 #[.int .i64 fl.B, .int .i64 fl.P, .int .i64 fl.E] (0, 0) _ rfl (heap_alloc_new w _) Try.underlying23 rfl (by kernel_rfl)) rfl ⟨rfl, (Below.refl _ _).alloc (Nat.le_refl _) _⟩
theorem isBlock_any (h : FW w D X y fl) {b : Nat} (hb : b < fl.B) : Calls Try.prog 32 #[fptr X, .int .i64 b] w fun e w' => e = .returned (.bool true) ∧ w = w' := by
  have c0 := h.c0
  have hbI : (b : Int) < fl.B := by omega
  have hB := h.hB
  clear h
  go_enter Try.func32, Try.ntmps32
  go_wp2_with fail
  go_ret
  exact ⟨by simp, rfl⟩
theorem isPage_any (h : FW w D X y fl) {b p : Nat} (hb : b < fl.B) (hp : p < fl.P) : Calls Try.prog 51 #[fptr X, .int .i64 b, .int .i64 p] w fun e w' => e = .returned (.bool true) ∧ w = w' := by
  have c1 := h.c1
  have hpI : (p : Int) < fl.P := by omega
  have HB := Lib.hid (isBlock_any h hb)
  have hP := h.hP
  clear h
  go_enter Try.func51, Try.ntmps51
  go_wp2_with fail
  refine HB.out.mono ?_
  rintro e w' ⟨rfl, rfl⟩
  go_wp2_with fail
  go_ret
  exact ⟨by simp, rfl⟩
theorem erases_any (h : FW w D X y fl) {b : Nat} (hb : b < fl.B) : Calls Try.prog 14 #[fptr X, .int .i64 b] w fun e w' => e = .returned (.int .i64 (fl.er b)) ∧ w = w' := by
  have c3 := h.c3
  have ce := h.ce hb
  have hcb := h.cb
  have hB := h.hB
  have hbI : (b : Int) < fl.B := by omega
  have HB := Lib.hid (isBlock_any h hb)
  clear h
  go_enter Try.func14, Try.ntmps14
  go_wp2_with fail
  refine HB.out.mono ?_
  rintro e w' ⟨rfl, rfl⟩
  go_wp2_with fail
  go_ret
  exact ⟨rfl, rfl⟩
def readF (fl : FL) (b p : Nat) : Str × Int := if fl.off = true then ([], 16) else (fl.pg b p, 0)
theorem read_any (h : FW w D X y fl) {b p : Nat} (hb : b < fl.B) (hp : p < fl.P) : Calls Try.prog 30 #[fptr X, .int .i64 b, .int .i64 p] w fun e w' => e = .returned (.tuple #[str (readF fl b p).1, .int .i64 (readF fl b p).2]) ∧ w = w' := by
  have c3 := h.c3
  have c4 := h.c4
  have cs := h.cs hb
  have cg := h.cg hb hp
  have hcb := h.cb
  have hB := h.hB
  have hP := h.hP
  have hcp := h.cp b hb
  have hbI : (b : Int) < fl.B := by omega
  have hpI : (p : Int) < fl.P := by omega
  have HB := Lib.hid (isPage_any h hb hp)
  unfold readF
  clear h
  cases ho : fl.off
  · rw [ho] at c4
    go_enter Try.func30, Try.ntmps30
    go_wp2_with fail
    refine HB.out.mono ?_
    rintro e w' ⟨rfl, rfl⟩
    go_wp2_with fail
    go_ret2
    exact ⟨rfl, rfl⟩
  · rw [ho] at c4
    go_enter Try.func30, Try.ntmps30
    go_wp2_with fail
    refine HB.out.mono ?_
    rintro e w' ⟨rfl, rfl⟩
    go_wp2_with fail
    go_ret2
    exact ⟨rfl, rfl⟩
def loseF (fl : FL) : FL := { fl with off := true, cut := false }
theorem lose_any (h : FW w D X y fl) : Calls Try.prog 79 #[fptr X] w fun e w' => e = .returned (.tuple #[]) ∧ FW w' D X y (loseF fl) ∧ Ch D w w' := by
  have c4 := h.c4
  have c5 := h.c5
  have f4 := h.top.frozen 4
  have f5 := h.top.frozen 5
  have H := Lib.hid ((h.setOff true).setCut false)
  have HC : Hid (Ch D w ((w.setCell ⟨X, 4, none⟩ (.bool true)).setCell ⟨X, 5, none⟩ (.bool false))) := (((Ch.refl D w).setCell (p := ⟨X, 4, none⟩) (fun _ => h.dX) _).setCell (p := ⟨X, 5, none⟩) (fun _ => h.dX) _)
  clear h
  go_enter Try.func79, Try.ntmps79
  go_wp2_with fail
  go_end0
  exact ⟨rfl, H.out, HC.out⟩
def intF (fl : FL) : Bool × FL := if fl.cut = false then (false, fl) else if 0 < fl.left then (false, { fl with left := fl.left - 1 }) else (true, loseF fl)
set_option maxHeartbeats 1000000 in
theorem interrupted_any (h : FW w D X y fl) : Calls Try.prog 65 #[fptr X] w fun e w' => e = .returned (.bool (intF fl).1) ∧ FW w' D X y (intF fl).2 ∧ Ch D w w' := by
  have c5 := h.c5
  have c6 := h.c6
  have f6 := h.top.frozen 6
  cases hc : fl.cut
  · rw [hc] at c5
    have e : intF fl = (false, fl) := by unfold intF; rw [hc]; rfl
    rw [e]
    have H := Lib.hid h
    clear h hc
    go_enter Try.func65, Try.ntmps65
    go_wp2_with fail
    go_ret
    exact ⟨rfl, H.out, Ch.refl _ _⟩
  · rw [hc] at c5
    have hll := h.hl
    by_cases hl : 0 < fl.left
    · have e : intF fl = (false, { fl with left := fl.left - 1 }) := by unfold intF; rw [hc, if_neg (by simp), if_pos hl]
      rw [e]
      have H2 := Lib.hid (h.setLeft (fl.left - 1) (by omega))
      have HC : Hid (Ch D w (w.setCell ⟨X, 6, none⟩ (.int .i64 (fl.left - 1)))) := (Ch.refl D w).setCell (p := ⟨X, 6, none⟩) (fun _ => h.dX) _
      have hd : decide (fl.left > 0) = true := by simpa using hl
      clear h hc e
      generalize fl.left = lf at *
      go_enter Try.func65, Try.ntmps65
      go_wp2_with fail
      go_ret
      exact ⟨rfl, H2.out, HC.out⟩
    · have hd : decide (fl.left > 0) = false := by simpa using hl
      have e : intF fl = (true, loseF fl) := by unfold intF; rw [hc, if_neg (by simp), if_neg hl]
      rw [e]
      have HL := Lib.hid (lose_any h)
      clear h hc e
      generalize fl.left = lf at *
      go_enter Try.func65, Try.ntmps65
      go_wp2_with fail
      refine HL.out.mono ?_
      rintro e w1 ⟨rfl, h1, h2⟩
      have H1 := Lib.hid h1
      have H2 := Lib.hid h2
      clear h1 h2
      go_wp2_with fail
      go_ret
      exact ⟨rfl, H1.out, H2.out⟩
def cutF (fl : FL) (n : Int) (t : Nat) : FL := { fl with cut := decide (0 ≤ n), left := n, torn := t }
theorem cutAfter_any (h : FW w D X y fl) (n : Int) (t : Nat) (hn : -9223372036854775808 ≤ n ∧ n ≤ 9223372036854775807) (ht : t ≤ 18446744073709551615) : Calls Try.prog 22 #[fptr X, .int .i64 n, .int .u64 t] w fun e w' => e = .returned (.tuple #[]) ∧ FW w' D X y (cutF fl n t) ∧ Ch D w w' := by
  have c5 := h.c5
  have c6 := h.c6
  have c7 := h.c7
  have f5 := h.top.frozen 5
  have f6 := h.top.frozen 6
  have f7 := h.top.frozen 7
  have H := Lib.hid (((h.setCut (decide (0 ≤ n))).setLeft n hn).setTorn t ht)
  have HC : Hid (Ch D w (((w.setCell ⟨X, 5, none⟩ (.bool (decide (0 ≤ n)))).setCell ⟨X, 6, none⟩ (.int .i64 n)).setCell ⟨X, 7, none⟩ (.int .u64 t))) := ((((Ch.refl D w).setCell (p := ⟨X, 5, none⟩) (fun _ => h.dX) _).setCell (p := ⟨X, 6, none⟩) (fun _ => h.dX) _).setCell (p := ⟨X, 7, none⟩) (fun _ => h.dX) _)
  clear h
  go_enter Try.func22, Try.ntmps22
  go_wp2_with fail
  go_end0
  exact ⟨rfl, H.out, HC.out⟩
def onF (fl : FL) : Int × FL := if fl.off = true then (0, { fl with off := false }) else (9, fl)
theorem powerOn_any (h : FW w D X y fl) : Calls Try.prog 25 #[fptr X] w fun e w' => e = .returned (.int .i64 (onF fl).1) ∧ FW w' D X y (onF fl).2 ∧ Ch D w w' := by
  have c4 := h.c4
  have f4 := h.top.frozen 4
  have H := Lib.hid h
  have H2 := Lib.hid (h.setOff false)
  have HC : Hid (Ch D w (w.setCell ⟨X, 4, none⟩ (.bool false))) := (Ch.refl D w).setCell (p := ⟨X, 4, none⟩) (fun _ => h.dX) _
  unfold onF
  clear h
  cases ho : fl.off
  · rw [ho] at c4
    go_enter Try.func25, Try.ntmps25
    go_wp2_with fail
    go_ret
    exact ⟨rfl, H.out, Ch.refl _ _⟩
  · rw [ho] at c4
    go_enter Try.func25, Try.ntmps25
    go_wp2_with fail
    go_ret
    exact ⟨rfl, H2.out, HC.out⟩
theorem selected_any (t i : Nat) (w : World) (hi : i < 64) : Calls Try.prog 66 #[.int .u64 t, .int .i64 i] w fun e w' => e = .returned (.int .u8 ((t / 2 ^ (8 * (i % 8)) % 256 : Nat) : Int)) ∧ w = w' := by
  go_enter Try.func66, Try.ntmps66
  go_wp2_with fail
  go_ret
  exact ⟨rfl, rfl⟩
end
end Go.Proofs.Ytfglopkglnpokaa
