/- Expire. Condition: sizes; each thread that waits waits for an object that is there. -/
import Derived.Test.YtefgfmnnaglfmaaX1
import Derived.Lib.SlKeysI
import Derived.Maps.RangeWalk
import Derived.Lib.OwnBridge
namespace Go.Proofs.Ytefgfmnnaglfmaa
open Go.RowKit
abbrev noG : Nat → Prop := fun _ => False
theorem sort_call {w : World} {v : Value} {E : List Int} (hq : QR w noG v E) (hl : E.length ≤ 1000) : Calls Try.prog 37 #[v] w fun e w' => e = .returned (.tuple #[]) ∧ ∃ E' : List Int, E'.Perm E ∧ E'.Pairwise (· ≤ ·) ∧ QR w' noG v E' ∧ Ch (fun k => v.ownBlock = some k) w w' := by
  have hp : (E.mergeSort fun x y => decide (x ≤ y)).Perm E := List.mergeSort_perm _ _
  have hs : (E.mergeSort fun x y => decide (x ≤ y)).Pairwise (· ≤ ·) := by
    have := List.pairwise_mergeSort (le := fun x y : Int => decide (x ≤ y)) (fun a b c h1 h2 => by simp at *; omega) (fun a b => by simp; omega) E
    exact this.imp (by simp)
  obtain ⟨h1, h2 | ⟨g, cap, cur, rfl, hb, hg, hn, hm, hsz, ht⟩⟩ := hq.1
  · obtain ⟨rfl, h3⟩ := h2
    have hE : E = [] := List.eq_nil_of_length_eq_zero h3
    subst hE
    exact (Try.slices_Sort_int_none none 0 w).mono fun e w' ⟨he, hw⟩ => by subst hw; exact ⟨he, [], List.Perm.refl _, List.Pairwise.nil, QR.nil _ _, Ch.refl _ _⟩
  · have hH : Sort.Holds (Value.int .i64) w g 0 E.toArray := by
      obtain ⟨g', cap', e, _, _, _, _, _, hH⟩ := Lib.holds_of_ownsRow hq.1 (by intro h; cases h)
      injection e with e1
      injection e1 with e1
      have : g = g' := congrArg Addr.block e1
      subst this
      exact hH
    refine (Try.slices_Sort_int g 0 cap E w hH (heap_lt hg) (by omega)).mono ?_
    rintro e w' ⟨he, n, os, rfl⟩
    refine ⟨he, _, hp, hs, ⟨?_, fun _ _ h => h⟩, ?_⟩
    · have := ownsRow_sorted_i (w := w) (base := 0) (os := os) (n := n) (ss := E) (ts := E.mergeSort fun x y => decide (x ≤ y)) hp.length_eq (Nat.zero_le _) hg hn hm hsz
      rw [hp.length_eq]
      exact this
    · exact Ch.of_grown (grownBy_sorted_i (w := w) (g := g) (n := n) (os := os) _) (fun k hk _ => by injection hk with hk; rw [← hk]; rfl)

def exB (s : LK) (now i : Int) : Bool := match s.t i with
  | some t => decide (t.st = 2) && (!t.en && decide (t.dl ≤ now))
  | none => false
def expS (s : LK) (E : List Int) : LK := E.foldl (fun s i => stopS s i 3) s
theorem law3 : Maps.Keyed Try.prog 3 := Maps.int_keyed Try.underlying3
theorem invK (key : Value) (kl : Lit) (h : keyOf Try.prog 3 key = some kl) : ∃ x, key = Value.int .i64 x := by
  obtain ⟨x, rfl, _⟩ := Maps.keyOf_int_inv Try.underlying3 h
  exact ⟨x, rfl⟩
theorem QR.push {w : World} {v : Value} {E : List Int} (h : QR w noG v E) (a : Int) :
    (∀ j u, [Value.int .i64 a][j]? = some u → (w.alloc (.cells #[.int .i64 a] 3)).cell? ((⟨w.heap.size, 0, none⟩ : Addr).add j) = some u) ∧
    (w.alloc (.cells #[.int .i64 a] 3)).ownsRow 0 3 1 v E.length (E.map (Value.int .i64)) :=
  ⟨World.news_of_block (heap_alloc_new w _), World.ownsRow.alloc h.1 _⟩
/-- The loop over the threads under way. -/
structure RX (w wr : World) (y : Lay) (s : LK) (now : Int) (r n : Nat) (D : DataW Value) (E : List Int) (v : Value) (left : Lit → Bool) (cnt : Nat) : Prop where
  rg : wr.ranges Try.prog 3 RV y.mt r n D left cnt
  row : QR wr noG v E
  new : ∀ g, v.ownBlock = some g → w.heap.size ≤ g
  bel : Below w.heap.size w wr
  nd : E.Nodup
  mem : ∀ i, i ∈ E ↔ (exB s now i = true ∧ left (.int .i64 i) = false)
  len : E.length + cnt ≤ n
theorem RX.it {w wr : World} {y : Lay} {s : LK} {now : Int} {r n : Nat} {D : DataW Value} {E : List Int} {v : Value} {left : Lit → Bool} {cnt : Nat} (h : RX w wr y s now r n D E v left cnt) : v.ownBlock ≠ some r := by
  intro e
  obtain ⟨_, ⟨h2, _⟩ | ⟨g, cap, cur, rfl, _, hg, _⟩⟩ := h.row.1
  · rw [h2] at e; cases e
  · have : g = r := by simpa [Value.ownBlock] using e
    subst this
    obtain ⟨es, clock, since, seen, c0, _, _, _, _, hr, _⟩ := h.rg
    rw [hg] at hr; cases hr
end Go.Proofs.Ytefgfmnnaglfmaa
