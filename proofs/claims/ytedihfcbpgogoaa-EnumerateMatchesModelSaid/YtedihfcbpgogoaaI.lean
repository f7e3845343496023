/- Base address registers: pciconf.validBar, registers; ref.Registers. No condition but that the index lies in the row. -/
import Derived.Test.YtedihfcbpgogoaaA
import Derived.Deep.QuietTactic
import Derived.BigQuiet
namespace Go.Proofs.Ytedihfcbpgogoaa
open Go.RowKit
def bAt (l : List (Int × Int)) (i : Nat) : Int × Int := l.getD i (0, 0)
/-- Base address register i is valid. -/
def vBar (l : List (Int × Int)) (i : Nat) : Prop :=
  ((bAt l i).1 = 0 ∧ (bAt l i).2 = 0) ∨ ((bAt l i).1 = 1 ∧ 2 ≤ (bAt l i).2 ∧ (bAt l i).2 ≤ 8) ∨ ((bAt l i).1 = 2 ∧ 4 ≤ (bAt l i).2 ∧ (bAt l i).2 ≤ 31) ∨
  (((bAt l i).1 = 3 ∨ (bAt l i).1 = 4) ∧ 4 ≤ (bAt l i).2 ∧ (bAt l i).2 ≤ 40 ∧ i + 1 < l.length ∧ (bAt l (i + 1)).1 = 0)
def TPost (p : Prop) (w : World) (e : Ending) (w' : World) : Prop := ∃ b : Bool, e = .returned (.bool b) ∧ (b = true ↔ p) ∧ w = w'
theorem BarS.at {w : World} {a : Option Addr} {len cap i : Nat} {l : List (Int × Int)} (h : BarS w a len cap l) (hi : i < len) : ∃ b o : Nat, a = some ⟨b, o, none⟩ ∧ b < w.heap.size ∧ w.cell? ⟨b, o + i * 2, none⟩ = some (.int .i64 (bAt l i).1) ∧ w.cell? ⟨b, o + i * 2 + 1, none⟩ = some (.int .i64 (bAt l i).2) := by
  obtain ⟨h1, h2, h3, h4, h5⟩ := h
  have hi' : i < l.length := by omega
  obtain ⟨b, o, e, hl, hr⟩ := h5 (by intro e; subst e; simp at h1; omega)
  have ef : bAt l i = l[i] := by simp [bAt, hi']
  have h6 := hr i _ (List.getElem?_eq_getElem hi')
  rw [ef]
  exact ⟨b, o, e, hl, rangeAt.cell h6 (j := 0) rfl, rangeAt.cell h6 (j := 1) rfl⟩
theorem tyes {p : Prop} {w : World} (h : p) : TPost p w (.returned (.bool true)) w := ⟨true, rfl, by simp [h], rfl⟩
theorem tno {p : Prop} {w : World} (h : ¬ p) : TPost p w (.returned (.bool false)) w := ⟨false, rfl, by simp [h], rfl⟩
set_option maxHeartbeats 1000000 in
theorem validBar_any {w : World} {a : Option Addr} {len cap i : Nat} {l : List (Int × Int)} (h : BarS w a len cap l) (hi : i < len) :
    Calls Try.prog 49 #[.slice a len cap, .int .i64 (i : Int)] w (TPost (vBar l i) w) := by
  obtain ⟨b, o, rfl, hb, c0, c1⟩ := h.at hi
  have hll : l.length = len := h.1
  have hcc : len ≤ cap := h.2.1
  have hml : len ≤ 9223372036854775807 := by have := h.2.2.1; unfold maxLen at this; omega
  have hiI : (i : Int) < len := by omega
  have c2 : i + 1 < len → w.cell? ⟨b, o + (i + 1) * 2, none⟩ = some (.int .i64 (bAt l (i + 1)).1) := fun h2 => by
    obtain ⟨b', o', e, _, d, _⟩ := h.at h2
    injection e with e
    injection e with e1 e2 _
    subst e1 e2
    exact d
  have HV : Hid (vBar l i ↔ ((bAt l i).1 = 0 ∧ (bAt l i).2 = 0) ∨ ((bAt l i).1 = 1 ∧ 2 ≤ (bAt l i).2 ∧ (bAt l i).2 ≤ 8) ∨ ((bAt l i).1 = 2 ∧ 4 ≤ (bAt l i).2 ∧ (bAt l i).2 ≤ 31) ∨
    (((bAt l i).1 = 3 ∨ (bAt l i).1 = 4) ∧ 4 ≤ (bAt l i).2 ∧ (bAt l i).2 ≤ 40 ∧ i + 1 < len ∧ (bAt l (i + 1)).1 = 0)) := by
    show vBar l i ↔ _
    unfold vBar
    rw [hll]
  clear h hll
  generalize vBar l i = V at *
  generalize (bAt l i).1 = k at *
  generalize (bAt l i).2 = s at *
  generalize (bAt l (i + 1)).1 = k' at *
  have hsum : IntKind.i64.wrap ((i : Int) + 1) = (i : Int) + 1 := IntWalk.i64_in _ (by omega)
  by_cases h2 : i + 1 < len
  · have c3 := c2 h2
    have h2I : (i : Int) + 1 < len := by omega
    clear c2
    go_enter Try.func49, Try.ntmps49
    go_wp2_with fail
    all_goals
      go_ret
      refine ⟨_, rfl, ?_, rfl⟩
      rw [HV.out]
      clear hsum HV
      (try simp only [beq_iff_eq, beq_eq_false_iff_ne, ne_eq] at *)
      exact ⟨fun q => (by first | (cases q; done) | (simp at q; omega) | omega), fun q => (by first | (simp; omega) | (exfalso; omega) | omega)⟩
  · have h2I : ¬ (i : Int) + 1 < len := by omega
    clear c2
    go_enter Try.func49, Try.ntmps49
    go_wp2_with fail
    all_goals
      go_ret
      refine ⟨_, rfl, ?_, rfl⟩
      rw [HV.out]
      clear hsum HV
      (try simp only [beq_iff_eq, beq_eq_false_iff_ne, ne_eq] at *)
      exact ⟨fun q => (by first | (cases q; done) | (simp at q; omega) | omega), fun q => (by first | (simp; omega) | (exfalso; omega) | omega)⟩
def rgs (br : Bool) : Int := if br = true then 2 else 6
theorem registers_any (br : Bool) (w : World) : Calls Try.prog 48 #[.bool br] w fun e w' => e = .returned (.int .i64 (rgs br)) ∧ w = w' := by
  cases br
  all_goals
    go_enter Try.func48, Try.ntmps48
    go_wp2
    go_ret
    exact ⟨rfl, rfl⟩
theorem Registers_any {f : Fn} {v : Value} (w : World) : Calls Try.prog 50 #[.agg #[.int .i64 f.pa, .int .i64 f.sl, .int .i64 f.ve, .int .i64 f.de, .bool f.br, .bool f.pf, .bool f.hp, .int .i64 f.sp, .int .i64 f.pn, .int .i64 f.vc, v]] w fun e w' => e = .returned (.int .i64 (rgs f.br)) ∧ Below w.heap.size w w' := by
  obtain ⟨br, hbr⟩ : ∃ br, f.br = br := ⟨_, rfl⟩
  rw [hbr]
  clear hbr
  cases br
  all_goals
    go_enter Try.func50, Try.ntmps50
    go_wp2
    go_ret
    exact ⟨rfl, (Below.refl _ _).alloc (Nat.le_refl _) _⟩
/-- A function is valid on its own. -/
structure vH (f : Fn) : Prop where
  ve : 1 ≤ f.ve ∧ f.ve ≤ 65534
  de : 0 ≤ f.de ∧ f.de ≤ 65535
  sl : 0 ≤ f.sl ∧ f.sl ≤ 31
  pn : 0 ≤ f.pn ∧ f.pn ≤ 4
  sp : 0 ≤ f.sp ∧ f.sp ≤ 32
  vc : 0 ≤ f.vc ∧ f.vc ≤ 32
  bt : (bits BinOp.and IntKind.i64 f.vc (f.vc - 1) != 0) = false
  hs : 0 < f.sp → f.br = true ∧ f.hp = true
  nb : f.br = false → f.pf = false ∧ f.hp = false
structure vF (f : Fn) : Prop where
  head : vH f
  reg : (f.ba.length : Int) ≤ rgs f.br
  bar : ∀ i, i < f.ba.length → vBar f.ba i
def VPost (p : Prop) (w : World) (e : Ending) (w' : World) : Prop := ∃ b : Bool, e = .returned (.bool b) ∧ (b = true ↔ p) ∧ Below w.heap.size w w'
end Go.Proofs.Ytedihfcbpgogoaa
