/- How the arguments are read: slices of functions with their bars; bus numbers. No condition. -/
import Derived.Test.YtedihfcbpgogoaaA
import Derived.ProofKit
import Derived.OpenShut
import Derived.ShutString
import Derived.ChangeOld
import Derived.Below
import Derived.Deep.Slices
import Derived.Deep.Fields
import Derived.Deep.MidRow
namespace Go.Proofs.Ytedihfcbpgogoaa
open Go.ChangeShapes Go.WideShapes Go.ChangeAt Go.RowKit Go.Deep

theorem own : ownKnob Try.prog.godebug = none := by kernel_rfl
theorem laidOut : laidOutB Try.prog = true := by kernel_rfl
theorem cl3 : Try.prog.cellsOf 3 = 1 := by kernel_rfl
theorem cl4 : Try.prog.cellsOf 4 = 1 := by kernel_rfl
theorem cl23 : Try.prog.cellsOf 23 = 1 := by kernel_rfl
theorem cl25 : Try.prog.cellsOf 25 = 11 := by kernel_rfl
theorem cl67 : Try.prog.cellsOf 67 = 2 := by kernel_rfl
section
variable {H : Type} {enc : TypeId × Value → H} {w : World} {base : Nat} {spare : Nat → Bool} {held : Bool}
/-- A slice whose elements each read. -/
theorem open_list {α : Type} {t e n0 : Nat} (hu : Try.prog.underlying t = some (.slice e)) (hc : Try.prog.cellsOf e = n0) (hn0 : 0 < n0) (cf : α → List Value) (wf : α → Prop) (hcf : ∀ x, (cf x).length = n0)
    (hop : ∀ {fuel : Nat} {cs : List Value} {x : DataW H × List MemPlace}, DataW.trod enc Try.prog w base spare held fuel e cs = some x → ∃ c : α, wf c ∧ cs = cf c)
    {fuel : Nat} {cs : List Value} {x : DataW H × List MemPlace} (h : DataW.trod enc Try.prog w base spare held fuel t cs = some x) :
    ∃ (A : Option Addr) (len cap : Nat) (l : List α), cs = [.slice A len cap] ∧ l.length = len ∧ len ≤ cap ∧ cap ≤ maxLen ∧ (∀ c ∈ l, wf c) ∧ (l ≠ [] → ∃ b o, A = some ⟨b, o, none⟩ ∧ b < w.heap.size ∧ ∀ i c, l[i]? = some c → w.rangeAt b (o + i * n0) (cf c)) := by
  rcases open_slice hu h with ⟨rfl, _⟩ | ⟨a, len, cap, m, n, D, Pl, hcs, hb, hl, hm, hmm, hx, hi⟩
  · exact ⟨none, 0, 0, [], rfl, rfl, Nat.le_refl _, Nat.zero_le _, (fun c h => by cases h), fun h => absurd rfl h⟩
  · rw [hc] at hi
    have hlm : len ≤ m := by rw [hmm]; split <;> omega
    have hex : ∀ i : Nat, i < len → ∃ c : α, wf c ∧ ∀ j, j < n0 → w.cell? (a.add (i * n0 + j)) = (cf c)[j]? := by
      intro i hlt
      obtain ⟨cs', hc', ht⟩ := hi i (by omega)
      obtain ⟨c, hwf, rfl⟩ := hop ht
      obtain ⟨_, _, hat⟩ := World.cells?_some hc'
      exact ⟨c, hwf, fun j hj => by have := hat j hj; rw [add_add] at this; exact this⟩
    have hl' : ∃ l : List α, l.length = len ∧ ∀ i c, l[i]? = some c → wf c ∧ ∀ j, j < n0 → w.cell? (a.add (i * n0 + j)) = (cf c)[j]? := by
      clear hx hmm hcs h hi
      revert hex
      generalize len = k at hlm hl ⊢
      intro hex
      have : ∀ q, q ≤ k → ∃ l : List α, l.length = q ∧ ∀ i c, l[i]? = some c → wf c ∧ ∀ j, j < n0 → w.cell? (a.add (i * n0 + j)) = (cf c)[j]? := by
        intro q
        induction q with
        | zero => intro _; exact ⟨[], rfl, fun i c h => by simp at h⟩
        | succ q ih =>
          intro hq
          obtain ⟨l, hl, hp⟩ := ih (by omega)
          obtain ⟨c, hc⟩ := hex q (by omega)
          refine ⟨l ++ [c], by simp [hl], fun i x hx => ?_⟩
          by_cases hiq : i < q
          · rw [List.getElem?_append_left (by omega)] at hx
            exact hp i x hx
          · have hlt := (List.getElem?_eq_some_iff.1 hx).1
            have hi : i = q := by simp [hl] at hlt; omega
            subst hi
            rw [List.getElem?_append_right (by omega), hl] at hx
            simp at hx
            subst hx
            exact hc
      exact this k (Nat.le_refl _)
    obtain ⟨l, hll, hlp⟩ := hl'
    refine ⟨some a, len, cap, l, hcs, hll, hl, hm, fun c hc => ?_, fun hne => ?_⟩
    · obtain ⟨i, hi⟩ := List.getElem?_of_mem hc
      exact (hlp i c hi).1
    · obtain ⟨b, off, spot⟩ := a
      have hpos : 0 < l.length := List.length_pos_iff.2 hne
      have h0 := (hlp 0 l[0] (List.getElem?_eq_getElem hpos)).2 0 hn0
      have h1 : (cf l[0])[0]? = some ((cf l[0])[0]'(by rw [hcf]; exact hn0)) := List.getElem?_eq_getElem _
      rw [h1] at h0
      have hspot : spot = none := by simpa [Addr.add] using World.cell?_spot h0
      subst hspot
      refine ⟨b, off, rfl, by simpa [Addr.add] using World.block_lt_of_cell? w _ h0, fun i c hc j u hu => ?_⟩
      have hj : j < n0 := by have := (List.getElem?_eq_some_iff.1 hu).1; rw [hcf] at this; exact this
      have := (hlp i c hc).2 j hj
      rw [hu, Addr.add_mid] at this
      rw [show off + i * n0 + j = off + (i * n0 + j) by omega]
      exact this
theorem open_bar {fuel : Nat} {cs : List Value} {x : DataW H × List MemPlace} (h : DataW.trod enc Try.prog w base spare held fuel 67 cs = some x) : ∃ c : Int × Int, wfB c ∧ cs = cb c := by
  obtain ⟨ys, n, hn, hy, hlen, hyl, hf⟩ := DataW.trod_struct Try.underlying67 h
  rw [cl67] at hlen
  match cs, hlen with
  | [c0, c1], _ =>
    match ys, hyl with
    | [y0, y1], _ =>
      obtain ⟨a, ea, _, wa⟩ := DataW.trod_int (k := .i64) Try.underlying3 (hf 0 _ rfl)
      obtain ⟨b, eb, _, wb⟩ := DataW.trod_int (k := .i64) Try.underlying3 (hf 1 _ rfl)
      simp [cl3] at ea eb
      subst ea eb
      exact ⟨⟨a, b⟩, ⟨bounds_i64 wa, bounds_i64 wb⟩, rfl⟩
theorem open_bars {fuel : Nat} {cs : List Value} {x : DataW H × List MemPlace} (h : DataW.trod enc Try.prog w base spare held fuel 23 cs = some x) : ∃ (A : Option Addr) (len cap : Nat) (l : List (Int × Int)), cs = [.slice A len cap] ∧ BarS w A len cap l := by
  obtain ⟨A, len, cap, l, h1, h2, h3, h4, h5, h6⟩ := open_list Try.underlying23 cl67 (by omega) cb wfB (fun _ => rfl) (fun h => open_bar h) h
  exact ⟨A, len, cap, l, h1, h2, h3, h4, h5, h6⟩
set_option maxRecDepth 10000 in
theorem open_fn {fuel : Nat} {cs : List Value} {x : DataW H × List MemPlace} (h : DataW.trod enc Try.prog w base spare held fuel 25 cs = some x) : ∃ c : Fn, (wfF c ∧ BV w c) ∧ cs = cF c := by
  obtain ⟨ys, n, hn, hy, hlen, hyl, hf⟩ := DataW.trod_struct Try.underlying25 h
  rw [cl25] at hlen
  match cs, hlen with
  | [c0, c1, c2, c3, c4, c5, c6, c7, c8, c9, c10], _ =>
    match ys, hyl with
    | [y0, y1, y2, y3, y4, y5, y6, y7, y8, y9, y10], _ =>
      obtain ⟨x0, e0, _, w0⟩ := DataW.trod_int (k := .i64) Try.underlying3 (hf 0 _ rfl)
      obtain ⟨x1, e1, _, w1⟩ := DataW.trod_int (k := .i64) Try.underlying3 (hf 1 _ rfl)
      obtain ⟨x2, e2, _, w2⟩ := DataW.trod_int (k := .i64) Try.underlying3 (hf 2 _ rfl)
      obtain ⟨x3, e3, _, w3⟩ := DataW.trod_int (k := .i64) Try.underlying3 (hf 3 _ rfl)
      obtain ⟨x4, e4, _⟩ := DataW.trod_bool Try.underlying4 (hf 4 _ rfl)
      obtain ⟨x5, e5, _⟩ := DataW.trod_bool Try.underlying4 (hf 5 _ rfl)
      obtain ⟨x6, e6, _⟩ := DataW.trod_bool Try.underlying4 (hf 6 _ rfl)
      obtain ⟨x7, e7, _, w7⟩ := DataW.trod_int (k := .i64) Try.underlying3 (hf 7 _ rfl)
      obtain ⟨x8, e8, _, w8⟩ := DataW.trod_int (k := .i64) Try.underlying3 (hf 8 _ rfl)
      obtain ⟨x9, e9, _, w9⟩ := DataW.trod_int (k := .i64) Try.underlying3 (hf 9 _ rfl)
      obtain ⟨A, len, cap, l, e10, hs⟩ := open_bars (hf 10 _ rfl)
      simp [cl3, cl4, cl23] at e0 e1 e2 e3 e4 e5 e6 e7 e8 e9 e10
      subst e0 e1 e2 e3 e4 e5 e6 e7 e8 e9 e10
      refine ⟨⟨x0, x1, x2, x3, x4, x5, x6, x7, x8, x9, .slice A len cap, l⟩, ⟨⟨bounds_i64 w0, bounds_i64 w1, bounds_i64 w2, bounds_i64 w3, bounds_i64 w7, bounds_i64 w8, bounds_i64 w9⟩, A, cap, ?_, ?_⟩, rfl⟩
      · show Value.slice A len cap = .slice A l.length cap
        rw [hs.1]
      · show BarS w A l.length cap l
        have e : l.length = len := hs.1
        rw [e]; exact hs
theorem open_fns {fuel : Nat} {cs : List Value} {x : DataW H × List MemPlace} (h : DataW.trod enc Try.prog w base spare held fuel 22 cs = some x) : ∃ (A : Option Addr) (len cap : Nat) (l : List Fn), cs = [.slice A len cap] ∧ FnS w A len cap l := by
  obtain ⟨A, len, cap, l, h1, h2, h3, h4, h5, h6⟩ := open_list Try.underlying22 cl25 (by omega) cF (fun c => wfF c ∧ BV w c) (fun _ => rfl) (fun h => open_fn h) h
  exact ⟨A, len, cap, l, h1, ⟨h2, h3, h4, fun c hc => (h5 c hc).1, h6⟩, fun f hf => (h5 f hf).2⟩
end
end Go.Proofs.Ytedihfcbpgogoaa
