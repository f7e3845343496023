/- Maps from int to one-cell values, as functions. No condition. -/
import Derived.Test.YtefgfmnnaglfmaaK
import Derived.Maps.OwnSet
namespace Go.Proofs.Ytefgfmnnaglfmaa
open Go.RowKit

def RV (v : Value) : Option (DataW Value × List MemPlace) := some (.held v, [])
/-- Block b is a map of at most n entries; at key i it reads f i (z where nothing is). -/
def MP (P : Program) (w : World) (k : TypeId) (b n : Nat) (z : Value) (f : Int → Value) : Prop :=
  ∃ D : DataW Value, w.ownsMap P k RV b n D ∧ (∀ i, D.atKey (.int .i64 i) (.held z) = .held (f i)) ∧ ∀ i, Maps.has D (.int .i64 i) = true → f i ≠ z
section
variable {P : Program} {w w' : World} {k t e b n : Nat} {z : Value} {f : Int → Value}
theorem MP.lt (h : MP P w k b n z f) : b < w.heap.size := by obtain ⟨D, h, _⟩ := h; exact h.lt
theorem MP.mono (h : MP P w k b n z f) {n' : Nat} (hn : n ≤ n') : MP P w k b n' z f := by
  obtain ⟨D, h, g⟩ := h
  exact ⟨D, h.mono hn, g⟩
theorem MP.ch {C : Nat → Prop} (h : MP P w k b n z f) (c : Ch C w w') (hb : ¬ C b) : MP P w' k b n z f := by
  have hlt := h.lt
  obtain ⟨D, ⟨es, clock, h1, r⟩, g⟩ := h
  exact ⟨D, ⟨es, clock, (c.block b hlt hb).trans h1, r⟩, g⟩
theorem MP.congr {f' : Int → Value} (h : MP P w k b n z f) (hf : ∀ i, f i = f' i) : MP P w k b n z f' := by
  obtain ⟨D, h, g, q⟩ := h
  exact ⟨D, h, fun i => by rw [g i, hf i], fun i hi => by rw [← hf i]; exact q i hi⟩
theorem MP.made (P : Program) (w : World) (k : TypeId) (z : Value) : MP P (w.alloc (.map #[] 0)) k w.heap.size 0 z (fun _ => z) :=
  ⟨_, World.ownsMap_made w P k RV, fun _ => rfl, fun _ h => by cases h⟩
def InI (i : Int) : Prop := -9223372036854775808 ≤ i ∧ i ≤ 9223372036854775807
theorem wf_in {i : Int} (h : InI i) : (Lit.int .i64 i).wf = true := by
  have e : RowKit.wrap64 i = i := IntWalk.wrap64_in _ h
  have := RowKit.wrap64_wf i
  rwa [e] at this
theorem MP.look (h : MP P w k b n z f) (hk : P.underlying k = some (.int .i64)) (ht : P.underlying t = some (.map k e)) (hz : (zeroValue e).run P w = .ok z w) {i : Int} (hi : InI i) :
    (Instr.lookup t (.map (some b)) (.int .i64 i) false).run P w = .ok (f i) w := by
  obtain ⟨D, h, g, _⟩ := h
  obtain ⟨v, ps, hr, hv⟩ := h.lookup (Maps.int_keyed hk) ht hz (zd := .held z) (zp := []) rfl (Maps.keyOf_int_mk hk (wf_in hi))
  rw [g i] at hv
  simp only [RV, Option.some.injEq, Prod.mk.injEq, DataW.held.injEq] at hv
  rw [hr, hv.1]
theorem MP.store (h : MP P w k b n z f) (hk : P.underlying k = some (.int .i64)) (ht : P.underlying t = some (.map k e)) (hn : n < 1000000) {i : Int} (hi : InI i) (v : Value) (hvz : v ≠ z) :
    ∃ w', (Instr.mapUpdate t (.map (some b)) (.int .i64 i) v).run P w = .ok () w' ∧ MP P w' k b (n + 1) z (fun j => if j = i then v else f j) ∧ Ch (fun x => x = b) w w' := by
  obtain ⟨D, h, g, q⟩ := h
  have hm := h.isMap
  obtain ⟨w', hr, h', hg⟩ := h.update (Maps.int_keyed hk) ht (show n < maxLen by unfold maxLen; omega) (Maps.keyOf_int_mk hk (wf_in hi)) (val := v) (d := .held v) (ps := []) rfl
  refine ⟨w', hr, ⟨_, h', fun j => ?_, fun j hj => ?_⟩, Ch.of_grown hg (fun x hx _ => by injection hx with hx; exact hx.symm)⟩
  · by_cases e : j = i
    · subst e
      simp only [if_true]
      rw [Maps.atKey_put_same hm (show WideAt.IsKeyLit (Lit.int .i64 j) from trivial)]
    · simp only [if_neg e]
      rw [Maps.atKey_put_other (by intro h; injection h with _ h; exact e h), g j]
  · by_cases e : j = i
    · simp only [if_pos e]; exact hvz
    · simp only [if_neg e]
      rw [Maps.has_put_other (by intro h; injection h with _ h; exact e h)] at hj
      exact q j hj
theorem MP.drop (h : MP P w k b n z f) (hk : P.underlying k = some (.int .i64)) (ht : P.underlying t = some (.map k e)) {i : Int} (hi : InI i) (ty : TypeId) :
    ∃ w', (Builtin.delete_ #[t, k] ty #[.map (some b), .int .i64 i]).run P w = .ok (.tuple #[]) w' ∧ MP P w' k b n z (fun j => if j = i then z else f j) ∧ Ch (fun x => x = b) w w' := by
  obtain ⟨D, h, g, q⟩ := h
  obtain ⟨w', hr, h', es, clock, es', clock', hb, rfl⟩ := h.drop (Maps.int_keyed hk) ht (Maps.keyOf_int_mk hk (wf_in hi)) ty
  refine ⟨_, hr, ⟨_, h', fun j => ?_, fun j hj => ?_⟩, ⟨rfl, rfl, rfl, by simp [ChangeMaps.setBlock], fun x _ hx => ChangeMaps.heap_setBlock_other hb _ (fun e => hx e)⟩⟩
  · by_cases e : j = i
    · subst e
      simp only [if_true]
      rw [Maps.atKey_del_same]
    · simp only [if_neg e]
      rw [Maps.atKey_del_other (by intro h; injection h with _ h; exact e h), g j]
  · by_cases e : j = i
    · subst e; rw [Maps.has_del_same] at hj; cases hj
    · simp only [if_neg e]
      rw [Maps.has_del_other (by intro h; injection h with _ h; exact e h)] at hj
      exact q j hj
end
end Go.Proofs.Ytefgfmnnaglfmaa
