/- How topologies lie in memory; rows of ints; ref.Below. No condition. -/
import Derived.Test.YtedihfcbpgogoaaEp
import Derived.Test.YtedihfcbpgogoaaPl
import Derived.Deep.AppendLies
import Derived.OwnWalk
namespace Go.Proofs.Ytedihfcbpgogoaa
open Go.RowKit
/-- The slice reads as this list; each element is n cells. -/
def SLs {α : Type} (cf : α → List Value) (n : Nat) (wf : α → Prop) (w : World) (a : Option Addr) (len cap : Nat) (l : List α) : Prop :=
  l.length = len ∧ len ≤ cap ∧ cap ≤ maxLen ∧ (∀ c ∈ l, wf c) ∧ (l ≠ [] → ∃ b o, a = some ⟨b, o, none⟩ ∧ b < w.heap.size ∧ ∀ i c, l[i]? = some c → w.rangeAt b (o + i * n) (cf c))
def InI (i : Int) : Prop := -9223372036854775808 ≤ i ∧ i ≤ 9223372036854775807
def cb (x : Int × Int) : List Value := [.int .i64 x.1, .int .i64 x.2]
def cF (f : Fn) : List Value := [.int .i64 f.pa, .int .i64 f.sl, .int .i64 f.ve, .int .i64 f.de, .bool f.br, .bool f.pf, .bool f.hp, .int .i64 f.sp, .int .i64 f.pn, .int .i64 f.vc, f.bv]
def wfB (x : Int × Int) : Prop := InI x.1 ∧ InI x.2
def wfF (f : Fn) : Prop := InI f.pa ∧ InI f.sl ∧ InI f.ve ∧ InI f.de ∧ InI f.sp ∧ InI f.pn ∧ InI f.vc
abbrev BarS := SLs cb 2 wfB
/-- The bars of f lie where its value says. -/
def BV (w : World) (f : Fn) : Prop := ∃ a cap, f.bv = .slice a f.ba.length cap ∧ BarS w a f.ba.length cap f.ba
def FnS (w : World) (a : Option Addr) (len cap : Nat) (T : List Fn) : Prop := SLs cF 11 wfF w a len cap T ∧ ∀ f ∈ T, BV w f
theorem SLs.below {α : Type} {cf : α → List Value} {n : Nat} {wf : α → Prop} {w w' : World} {a : Option Addr} {len cap B0 : Nat} {l : List α} (h : SLs cf n wf w a len cap l) (hb : Below B0 w w') (hB : w.heap.size ≤ B0) : SLs cf n wf w' a len cap l := by
  obtain ⟨h1, h2, h3, h4, h5⟩ := h
  refine ⟨h1, h2, h3, h4, fun hne => ?_⟩
  obtain ⟨b, o, e, hl, hr⟩ := h5 hne
  exact ⟨b, o, e, Nat.lt_of_lt_of_le hl hb.size, fun i c hc j u hu => (hb.cell (p := ⟨b, o + i * n + j, none⟩) (show b < B0 by omega)).trans (hr i c hc j u hu)⟩
theorem FnS.below {w w' : World} {a : Option Addr} {len cap : Nat} {T : List Fn} (h : FnS w a len cap T) (hb : Below w.heap.size w w') : FnS w' a len cap T :=
  ⟨h.1.below hb (Nat.le_refl _), fun f hf => by obtain ⟨a, c, e, hs⟩ := h.2 f hf; exact ⟨a, c, e, hs.below hb (Nat.le_refl _)⟩⟩
/-- Function i, cell by cell. -/
theorem FnS.at {w : World} {a : Option Addr} {len cap i : Nat} {T : List Fn} (h : FnS w a len cap T) (hi : i < len) : ∃ b o : Nat, a = some ⟨b, o, none⟩ ∧ b < w.heap.size ∧ wfF (fAt T i) ∧ BV w (fAt T i) ∧ w.rangeAt b (o + i * 11) (cF (fAt T i)) := by
  obtain ⟨⟨h1, h2, h3, h4, h5⟩, h6⟩ := h
  have hi' : i < T.length := by omega
  obtain ⟨b, o, e, hl, hr⟩ := h5 (by intro e; subst e; simp at h1; omega)
  have hm : T[i] ∈ T := List.getElem_mem hi'
  have ef : fAt T i = T[i] := by simp [fAt, hi']
  rw [ef]
  exact ⟨b, o, e, hl, h4 _ hm, h6 _ hm, hr i _ (List.getElem?_eq_getElem hi')⟩
theorem FnS.len {w : World} {a : Option Addr} {len cap : Nat} {T : List Fn} (h : FnS w a len cap T) : T.length = len ∧ len ≤ cap ∧ len ≤ 9223372036854775807 := by
  obtain ⟨⟨h1, h2, h3, _⟩, _⟩ := h
  unfold maxLen at h3
  exact ⟨h1, h2, by omega⟩
theorem rangeAt.cell {w : World} {b o : Nat} {l : List Value} (h : w.rangeAt b o l) {j : Nat} {u : Value} (hu : l[j]? = some u) : w.cell? ⟨b, o + j, none⟩ = some u := h j u hu
/-- A row of ints that the code owns. -/
def IR (w : World) (v : Value) (l : List Int) : Prop := w.ownsRow 0 3 1 v l.length (l.map (Value.int .i64))
theorem IR.nil (w : World) : IR w (.slice none 0 0) [] := ⟨rfl, .inl ⟨rfl, rfl⟩⟩
theorem Try.info3 : (Try.prog.info? 3).map (fun i => (i.zero, i.size, i.bytes)) = some (some (.int .i64 0), 1, 8) := by kernel_rfl
theorem IR.push {w : World} {v : Value} {E : List Int} (h : IR w v E) (a : Int) :
    (∀ j u, [Value.int .i64 a][j]? = some u → (w.alloc (.cells #[.int .i64 a] 3)).cell? ((⟨w.heap.size, 0, none⟩ : Addr).add j) = some u) ∧
    (w.alloc (.cells #[.int .i64 a] 3)).ownsRow 0 3 1 v E.length (E.map (Value.int .i64)) :=
  ⟨World.news_of_block (heap_alloc_new w _), World.ownsRow.alloc h _⟩
end Go.Proofs.Ytedihfcbpgogoaa
