/- How the arguments are read: slices of ints, of uint64s, of operations. No condition. -/
import Derived.Test.YtefgfmnnaglfmaaM
import Derived.ProofKit
import Derived.OpenShut
import Derived.ShutString
import Derived.ChangeOld
import Derived.Below
import Derived.Deep.Slices
import Derived.Deep.Fields
import Derived.Deep.MidRow
namespace Go.Proofs.Ytefgfmnnaglfmaa
open Go.ChangeShapes Go.WideShapes Go.ChangeAt Go.RowKit Go.Deep

theorem own : ownKnob Try.prog.godebug = none := by kernel_rfl
theorem laidOut : laidOutB Try.prog = true := by kernel_rfl
theorem cells3 : Try.prog.cellsOf 3 = 1 := by kernel_rfl
theorem cells31 : Try.prog.cellsOf 31 = 1 := by kernel_rfl
theorem cells37 : Try.prog.cellsOf 37 = 6 := by kernel_rfl
/-- The slice reads as this list; each element is n cells. -/
def SLs {α : Type} (cf : α → List Value) (n : Nat) (wf : α → Prop) (w : World) (a : Option Addr) (len cap : Nat) (l : List α) : Prop :=
  l.length = len ∧ len ≤ cap ∧ cap ≤ maxLen ∧ (∀ c ∈ l, wf c) ∧ (l ≠ [] → ∃ b o, a = some ⟨b, o, none⟩ ∧ b < w.heap.size ∧ ∀ i c, l[i]? = some c → w.rangeAt b (o + i * n) (cf c))
def ci (x : Int) : List Value := [.int .i64 x]
def cu (x : Int) : List Value := [.int .u64 x]
def InU (x : Int) : Prop := 0 ≤ x ∧ x ≤ 18446744073709551615
structure OpR where
  k : Int
  t : Int
  id : Int
  lv : Int
  to : Int
  ps : Int
def co (x : OpR) : List Value := [.int .i64 x.k, .int .i64 x.t, .int .i64 x.id, .int .i64 x.lv, .int .u64 x.to, .int .u64 x.ps]
def OpR.wf (x : OpR) : Prop := InI x.k ∧ InI x.t ∧ InI x.id ∧ InI x.lv ∧ InU x.to ∧ InU x.ps
abbrev IntS := SLs ci 1 InI
abbrev UintS := SLs cu 1 InU
abbrev OpS := SLs co 6 OpR.wf
theorem SLs.below {α : Type} {cf : α → List Value} {n : Nat} {wf : α → Prop} {w w' : World} {a : Option Addr} {len cap B0 : Nat} {l : List α} (h : SLs cf n wf w a len cap l) (hb : Below B0 w w') (hB : w.heap.size ≤ B0) : SLs cf n wf w' a len cap l := by
  obtain ⟨h1, h2, h3, h4, h5⟩ := h
  refine ⟨h1, h2, h3, h4, fun hne => ?_⟩
  obtain ⟨b, o, e, hl, hr⟩ := h5 hne
  exact ⟨b, o, e, Nat.lt_of_lt_of_le hl hb.size, fun i c hc j u hu => (hb.cell (p := ⟨b, o + i * n + j, none⟩) (show b < B0 by omega)).trans (hr i c hc j u hu)⟩
theorem SLs.at {α : Type} {cf : α → List Value} {n : Nat} {wf : α → Prop} {w : World} {a : Option Addr} {len cap i : Nat} {l : List α} (h : SLs cf n wf w a len cap l) (hi : i < len) : ∃ (b o : Nat) (c : α), a = some ⟨b, o, none⟩ ∧ b < w.heap.size ∧ l[i]? = some c ∧ c ∈ l ∧ wf c ∧ w.rangeAt b (o + i * n) (cf c) := by
  obtain ⟨h1, h2, h3, h4, h5⟩ := h
  obtain ⟨b, o, e, hl, hr⟩ := h5 (by intro e; subst e; simp at h1; omega)
  have hi' : i < l.length := by omega
  have hm : l[i] ∈ l := List.getElem_mem hi'
  exact ⟨b, o, l[i], e, hl, List.getElem?_eq_getElem hi', hm, h4 _ hm, hr i _ (List.getElem?_eq_getElem hi')⟩
section
variable {H : Type} {enc : TypeId × Value → H} {w : World} {base : Nat} {spare : Nat → Bool} {held : Bool}
set_option maxRecDepth 10000 in
theorem open_op {fuel : Nat} {cs : List Value} {x : DataW H × List MemPlace} (h : DataW.trod enc Try.prog w base spare held fuel 37 cs = some x) : ∃ c : OpR, c.wf ∧ cs = co c := by
  obtain ⟨ys, n, hn, hy, hlen, hyl, hf⟩ := DataW.trod_struct Try.underlying37 h
  rw [cells37] at hlen
  match cs, hlen with
  | [c0, c1, c2, c3, c4, c5], _ =>
    match ys, hyl with
    | [y0, y1, y2, y3, y4, y5], _ =>
      obtain ⟨a, ea, _, wa⟩ := DataW.trod_int (k := .i64) Try.underlying3 (hf 0 _ rfl)
      obtain ⟨b, eb, _, wb⟩ := DataW.trod_int (k := .i64) Try.underlying3 (hf 1 _ rfl)
      obtain ⟨c, ec, _, wc⟩ := DataW.trod_int (k := .i64) Try.underlying3 (hf 2 _ rfl)
      obtain ⟨d, ed, _, wd⟩ := DataW.trod_int (k := .i64) Try.underlying3 (hf 3 _ rfl)
      obtain ⟨e, ee, _, we⟩ := DataW.trod_int (k := .u64) Try.underlying31 (hf 4 _ rfl)
      obtain ⟨f, ef, _, wf⟩ := DataW.trod_int (k := .u64) Try.underlying31 (hf 5 _ rfl)
      simp [cells3, cells31] at ea eb ec ed ee ef
      subst ea eb ec ed ee ef
      exact ⟨⟨a, b, c, d, e, f⟩, ⟨bounds_i64 wa, bounds_i64 wb, bounds_i64 wc, bounds_i64 wd, bounds_u64 we, bounds_u64 wf⟩, rfl⟩
/-- A slice whose elements each read. -/
theorem open_list {α : Type} {t e n0 : Nat} (hu : Try.prog.underlying t = some (.slice e)) (hc : Try.prog.cellsOf e = n0) (hn0 : 0 < n0) (cf : α → List Value) (wf : α → Prop) (hcf : ∀ x, (cf x).length = n0)
    (hop : ∀ {fuel : Nat} {cs : List Value} {x : DataW H × List MemPlace}, DataW.trod enc Try.prog w base spare held fuel e cs = some x → ∃ c : α, wf c ∧ cs = cf c)
    {fuel : Nat} {cs : List Value} {x : DataW H × List MemPlace} (h : DataW.trod enc Try.prog w base spare held fuel t cs = some x) :
    ∃ (A : Option Addr) (len cap : Nat) (l : List α), cs = [.slice A len cap] ∧ l.length = len ∧ len ≤ cap ∧ cap ≤ maxLen ∧ (∀ c ∈ l, wf c) ∧ (l ≠ [] → ∃ b o, A = some ⟨b, o, none⟩ ∧ b < w.heap.size ∧ ∀ i c, l[i]? = some c → w.rangeAt b (o + i * n0) (cf c)) := by
  rcases open_slice hu h with ⟨rfl, _⟩ | ⟨a, len, cap, m, n, D, Pl, hcs, hb, hl, hm, hmm, hx, hi⟩
  · exact ⟨none, 0, 0, [], rfl, rfl, Nat.le_refl _, Nat.zero_le _, (fun c h => by cases h), fun h => absurd rfl h⟩
  · rw [hc] at hi
    have hlm : len ≤ m := by rw [hmm]; split <;> omega
    have hex : ∀ i : Nat, i < len → ∃ c : α, wf c ∧ ∀ j, j < n0 → w.cell? (a.add (i * n0 + j)) = (cf c)[j]? := by
      intro i hlt
      obtain ⟨cs', hc', ht⟩ := hi i (by omega)
      obtain ⟨c, hwf, rfl⟩ := hop ht
      obtain ⟨_, _, hat⟩ := World.cells?_some hc'
      exact ⟨c, hwf, fun j hj => by have := hat j hj; rw [add_add] at this; exact this⟩
    have hl' : ∃ l : List α, l.length = len ∧ ∀ i c, l[i]? = some c → wf c ∧ ∀ j, j < n0 → w.cell? (a.add (i * n0 + j)) = (cf c)[j]? := by
      clear hx hmm hcs h hi
      revert hex
      generalize len = k at hlm hl ⊢
      intro hex
      have : ∀ q, q ≤ k → ∃ l : List α, l.length = q ∧ ∀ i c, l[i]? = some c → wf c ∧ ∀ j, j < n0 → w.cell? (a.add (i * n0 + j)) = (cf c)[j]? := by
        intro q
        induction q with
        | zero => intro _; exact ⟨[], rfl, fun i c h => by simp at h⟩
        | succ q ih =>
          intro hq
          obtain ⟨l, hl, hp⟩ := ih (by omega)
          obtain ⟨c, hc⟩ := hex q (by omega)
          refine ⟨l ++ [c], by simp [hl], fun i x hx => ?_⟩
          by_cases hiq : i < q
          · rw [List.getElem?_append_left (by omega)] at hx
            exact hp i x hx
          · have hlt := (List.getElem?_eq_some_iff.1 hx).1
            have hi : i = q := by simp [hl] at hlt; omega
            subst hi
            rw [List.getElem?_append_right (by omega), hl] at hx
            simp at hx
            subst hx
            exact hc
      exact this k (Nat.le_refl _)
    obtain ⟨l, hll, hlp⟩ := hl'
    refine ⟨some a, len, cap, l, hcs, hll, hl, hm, fun c hc => ?_, fun hne => ?_⟩
    · obtain ⟨i, hi⟩ := List.getElem?_of_mem hc
      exact (hlp i c hi).1
    · obtain ⟨b, off, spot⟩ := a
      have hpos : 0 < l.length := List.length_pos_iff.2 hne
      have h0 := (hlp 0 l[0] (List.getElem?_eq_getElem hpos)).2 0 hn0
      have h1 : (cf l[0])[0]? = some ((cf l[0])[0]'(by rw [hcf]; exact hn0)) := List.getElem?_eq_getElem _
      rw [h1] at h0
      have hspot : spot = none := by simpa [Addr.add] using World.cell?_spot h0
      subst hspot
      refine ⟨b, off, rfl, by simpa [Addr.add] using World.block_lt_of_cell? w _ h0, fun i c hc j u hu => ?_⟩
      have hj : j < n0 := by have := (List.getElem?_eq_some_iff.1 hu).1; rw [hcf] at this; exact this
      have := (hlp i c hc).2 j hj
      rw [hu, Addr.add_mid] at this
      rw [show off + i * n0 + j = off + (i * n0 + j) by omega]
      exact this
theorem open_ints {fuel : Nat} {cs : List Value} {x : DataW H × List MemPlace} (h : DataW.trod enc Try.prog w base spare held fuel 22 cs = some x) : ∃ (A : Option Addr) (len cap : Nat) (l : List Int), cs = [.slice A len cap] ∧ IntS w A len cap l := by
  obtain ⟨A, len, cap, l, h1, h2, h3, h4, h5, h6⟩ := open_list Try.underlying22 cells3 (by omega) ci InI (fun _ => rfl) (fun h => by obtain ⟨n, rfl, _, hw⟩ := DataW.trod_int Try.underlying3 h; exact ⟨n, bounds_i64 hw, rfl⟩) h
  exact ⟨A, len, cap, l, h1, h2, h3, h4, h5, h6⟩
theorem open_uints {fuel : Nat} {cs : List Value} {x : DataW H × List MemPlace} (h : DataW.trod enc Try.prog w base spare held fuel 43 cs = some x) : ∃ (A : Option Addr) (len cap : Nat) (l : List Int), cs = [.slice A len cap] ∧ UintS w A len cap l := by
  obtain ⟨A, len, cap, l, h1, h2, h3, h4, h5, h6⟩ := open_list Try.underlying43 cells31 (by omega) cu InU (fun _ => rfl) (fun h => by obtain ⟨n, rfl, _, hw⟩ := DataW.trod_int Try.underlying31 h; exact ⟨n, bounds_u64 hw, rfl⟩) h
  exact ⟨A, len, cap, l, h1, h2, h3, h4, h5, h6⟩
theorem open_ops {fuel : Nat} {cs : List Value} {x : DataW H × List MemPlace} (h : DataW.trod enc Try.prog w base spare held fuel 35 cs = some x) : ∃ (A : Option Addr) (len cap : Nat) (l : List OpR), cs = [.slice A len cap] ∧ OpS w A len cap l := by
  obtain ⟨A, len, cap, l, h1, h2, h3, h4, h5, h6⟩ := open_list Try.underlying35 cells37 (by omega) co OpR.wf (fun _ => rfl) (fun h => open_op h) h
  exact ⟨A, len, cap, l, h1, h2, h3, h4, h5, h6⟩
end
end Go.Proofs.Ytefgfmnnaglfmaa
