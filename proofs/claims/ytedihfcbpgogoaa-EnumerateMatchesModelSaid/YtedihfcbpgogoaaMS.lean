/- Sets of pairs of ints kept as maps to bool. No condition. -/
import Derived.Test.YtedihfcbpgogoaaA
import Derived.Maps.OwnSet
import Derived.DeepKeys4
namespace Go.Proofs.Ytedihfcbpgogoaa
open Go.RowKit
def RV (v : Value) : Option (DataW Value × List MemPlace) := some (.held v, [])
def kv (x y : Int) : Value := .agg #[.int .i64 x, .int .i64 y]
/-- Keys of this type are pairs of ints. -/
structure PK (P : Program) (k : TypeId) : Prop where
  keyed : Maps.Keyed P k
  key : ∀ x y, InI x → InI y → ∃ l, keyOf P k (kv x y) = some l
theorem kv_inj {x y x' y' : Int} (h : kv x y = kv x' y') : x = x' ∧ y = y' := by
  unfold kv at h
  injection h with h
  have h0 := congrArg (fun a => a[0]?) h
  have h1 := congrArg (fun a => a[1]?) h
  simp at h0 h1
  exact ⟨h0, h1⟩
/-- Block b is a map of at most n entries that holds true at the pairs of S and nothing elsewhere. -/
def MSet (P : Program) (w : World) (k : TypeId) (b n : Nat) (S : Int → Int → Bool) : Prop :=
  ∃ D : DataW Value, w.ownsMap P k RV b n D ∧ ∀ x y l, keyOf P k (kv x y) = some l → D.atKey l (.held (.bool false)) = .held (.bool (S x y))
section
variable {P : Program} {w w' : World} {k t e b n : Nat} {S : Int → Int → Bool}
theorem MSet.lt (h : MSet P w k b n S) : b < w.heap.size := by obtain ⟨D, h, _⟩ := h; exact h.lt
theorem MSet.ch {C : Nat → Prop} (h : MSet P w k b n S) (c : Ch C w w') (hb : ¬ C b) : MSet P w' k b n S := by
  have hlt := h.lt
  obtain ⟨D, ⟨es, clock, h1, r⟩, g⟩ := h
  exact ⟨D, ⟨es, clock, (c.block b hlt hb).trans h1, r⟩, g⟩
theorem MSet.made (P : Program) (w : World) (k : TypeId) : MSet P (w.alloc (.map #[] 0)) k w.heap.size 0 (fun _ _ => false) :=
  ⟨_, World.ownsMap_made w P k RV, fun _ _ _ _ => rfl⟩
theorem MSet.look (h : MSet P w k b n S) (K : PK P k) (ht : P.underlying t = some (.map k e)) (hz : (zeroValue e).run P w = .ok (.bool false) w) {x y : Int} (hx : InI x) (hy : InI y) :
    (Instr.lookup t (.map (some b)) (.agg #[.int .i64 x, .int .i64 y]) false).run P w = .ok (.bool (S x y)) w := by
  obtain ⟨D, h, g⟩ := h
  obtain ⟨l, hl⟩ := K.key x y hx hy
  obtain ⟨v, ps, hr, hv⟩ := h.lookup K.keyed ht hz (zd := .held (.bool false)) (zp := []) rfl hl
  rw [g x y l hl] at hv
  simp only [RV, Option.some.injEq, Prod.mk.injEq, DataW.held.injEq] at hv
  show (Instr.lookup t (.map (some b)) (kv x y) false).run P w = _
  rw [hr, hv.1]
theorem MSet.store (h : MSet P w k b n S) (K : PK P k) (ht : P.underlying t = some (.map k e)) (hn : n < 1000000) {x y : Int} (hx : InI x) (hy : InI y) :
    ∃ w', (Instr.mapUpdate t (.map (some b)) (.agg #[.int .i64 x, .int .i64 y]) (.bool true)).run P w = .ok () w' ∧ MSet P w' k b (n + 1) (fun x' y' => decide (x' = x ∧ y' = y) || S x' y') ∧ Ch (fun i => i = b) w w' := by
  obtain ⟨D, h, g⟩ := h
  obtain ⟨l, hl⟩ := K.key x y hx hy
  have hm := h.isMap
  obtain ⟨w', hr, h', hg⟩ := h.update K.keyed ht (show n < maxLen by unfold maxLen; omega) hl (val := .bool true) (d := .held (.bool true)) (ps := []) rfl
  refine ⟨w', hr, ⟨_, h', fun x' y' l' hl' => ?_⟩, Ch.of_grown hg (fun i hi _ => by injection hi with hi; exact hi.symm)⟩
  by_cases e : l' = l
  · subst e
    obtain ⟨rfl, rfl⟩ := kv_inj (K.keyed.inj hl' hl)
    rw [Maps.atKey_put_same hm (K.keyed.key hl)]
    simp
  · rw [Maps.atKey_put_other (by intro h; exact e h), g x' y' l' hl']
    have : ¬ (x' = x ∧ y' = y) := by
      rintro ⟨rfl, rfl⟩
      rw [hl] at hl'
      injection hl' with hl'
      exact e hl'.symm
    simp [this]
end
theorem wf_in {i : Int} (h : InI i) : (Lit.int .i64 i).wf = true := by
  have e : RowKit.wrap64 i = i := IntWalk.wrap64_in _ h
  have := RowKit.wrap64_wf i
  rwa [e] at this
theorem Try.laidOut : laidOutB Try.prog = true := by kernel_rfl
theorem Try.row71 : (71 : TypeId) < Try.prog.types.size := of_decide_eq_true (by kernel_rfl)
theorem Try.row50 : (50 : TypeId) < Try.prog.types.size := of_decide_eq_true (by kernel_rfl)
theorem Try.cells71 : Try.prog.cellsOf 71 = 2 := by kernel_rfl
theorem Try.cells50 : Try.prog.cellsOf 50 = 2 := by kernel_rfl
theorem Try.cells3 : Try.prog.cellsOf 3 = 1 := by kernel_rfl
theorem Try.kt71 : Try.prog.keyType 71 = true := by kernel_rfl
theorem Try.kt50 : Try.prog.keyType 50 = true := by kernel_rfl
theorem Try.tsize : ∃ m, Try.prog.types.size = m + 1 := ⟨Try.prog.types.size - 1, (Nat.succ_pred_eq_of_pos (Nat.lt_of_le_of_lt (Nat.zero_le _) Try.row71)).symm⟩
theorem Try.fields71 : ∃ fs, Try.prog.underlying 71 = some (.struct fs) ∧ fs.all (·.name != "_") = true ∧ fs.toList.map (fun f => (f.type, f.offset)) = [(3, 0), (3, 1)] := ⟨_, Try.underlying71, by kernel_rfl, by kernel_rfl⟩
theorem Try.law71 : WideMaps.KeyLaw Try.prog 71 := deep_law_laid Try.laidOut (m := 2) (by omega) Try.row71 (by kernel_rfl) (by rw [Try.underlying71])
theorem Try.law50 : WideMaps.KeyLaw Try.prog 50 := deep_law_laid Try.laidOut (m := 2) (by omega) Try.row50 (by kernel_rfl) (by rw [Try.underlying50])
theorem pk71 : PK Try.prog 71 := ⟨Maps.Keyed.of_law Try.law71, fun x y hx hy => by
  obtain ⟨m, hm⟩ := Try.tsize
  obtain ⟨fs, hfs, hn, hmap⟩ := Try.fields71
  have h1 := wf_in hx
  have h2 := wf_in hy
  have hl : Try.prog.keyLits (m + 2) 71 [.int .i64 x, .int .i64 y] = some [.int .i64 x, .int .i64 y] := by
    have hl2 : fs.toList.mapM (fun f => Try.prog.keyLits (m + 1) f.type (([Value.int .i64 x, .int .i64 y].drop f.offset).take (Try.prog.cellsOf f.type))) = some [[.int .i64 x], [.int .i64 y]] := by
      generalize fs.toList = l at hmap
      rcases l with _ | ⟨f0, _ | ⟨f1, _ | ⟨f2, l⟩⟩⟩
      · cases hmap
      · simp at hmap
      · simp only [List.map_cons, List.map_nil, List.cons.injEq, Prod.mk.injEq, and_true] at hmap
        obtain ⟨⟨a1, a2⟩, a3, a4⟩ := hmap
        simp [a1, a2, a3, a4, Try.cells3, Program.keyLits, Try.underlying3, h1, h2]
      · simp at hmap
    unfold Program.keyLits
    rw [hfs]
    simp only [hn, List.length_cons, List.length_nil, Try.cells71, and_true, if_true]
    rw [hl2]
    rfl
  have hf : (kv x y).formed Try.prog 71 = true := by
    unfold kv Value.formed
    rw [hfs]
    simp [Try.cells71]
  refine ⟨.string (keyBytes [.int .i64 x, .int .i64 y]), ?_⟩
  unfold keyOf
  rw [hfs]
  simp only [Try.kt71, hf, Bool.and_self, if_true, hm]
  show (Try.prog.keyLits (m + 2) 71 [.int .i64 x, .int .i64 y]).map _ = _
  rw [hl]
  rfl⟩
theorem pk50 : PK Try.prog 50 := ⟨Maps.Keyed.of_law Try.law50, fun x y hx hy => by
  obtain ⟨m, hm⟩ := Try.tsize
  refine ⟨.string (keyBytes [.int .i64 x, .int .i64 y]), ?_⟩
  · have h1 := wf_in hx
    have h2 := wf_in hy
    unfold keyOf
    rw [Try.underlying50]
    simp [hm, Try.kt50, kv, Value.formed, Value.cells, Try.underlying50, Try.underlying3, Try.cells50, Try.cells3, Program.keyLits, h1, h2, List.range, List.range.loop]⟩
theorem zero4 (w : World) : (zeroValue 4).run Try.prog w = .ok (.bool false) w := by kernel_rfl
end Go.Proofs.Ytedihfcbpgogoaa
