/- How the arguments are read. No condition. -/
import Derived.Test.YtfglopkglnpokaaCS
import Derived.ProofKit
import Derived.OpenShut
import Derived.ShutString
import Derived.ChangeOld
import Derived.Below
import Derived.Deep.Slices
import Derived.Deep.Fields
import Derived.Deep.MidRow
namespace Go.Proofs.Ytfglopkglnpokaa
open Go.ChangeShapes Go.WideShapes Go.ChangeAt Go.RowKit Go.Deep
theorem own : ownKnob Try.prog.godebug = none := by kernel_rfl
theorem laidOut : laidOutB Try.prog = true := by kernel_rfl
theorem clI : Try.prog.cellsOf 3 = 1 := by kernel_rfl
theorem clB : Try.prog.cellsOf 5 = 1 := by kernel_rfl
theorem clC : Try.prog.cellsOf 36 = 4 := by kernel_rfl
theorem clH : Try.prog.cellsOf 23 = 3 := by kernel_rfl
section
variable {H : Type} {enc : TypeId × Value → H} {w : World} {base : Nat} {spare : Nat → Bool} {held : Bool}
set_option maxRecDepth 100000 in
theorem open_call {fuel : Nat} {cs : List Value} {x : DataW H × List MemPlace} (h : DataW.trod enc Try.prog w base spare held fuel 36 cs = some x) : ∃ c : CV, True ∧ cs = cvc c := by
  obtain ⟨ys, n, hn, hy, hlen, hyl, hf⟩ := DataW.trod_struct Try.underlying36 h
  rw [clC] at hlen
  match cs, hlen with
  | [c0, c1, c2, c3], _ =>
    match ys, hyl with
    | [y0, y1, y2, y3], _ =>
      obtain ⟨a, ea, _, wa⟩ := DataW.trod_int (k := .i64) Try.underlying3 (hf 0 _ rfl)
      obtain ⟨b, eb, _, wb⟩ := DataW.trod_int (k := .i64) Try.underlying3 (hf 1 _ rfl)
      obtain ⟨c, ec, _, wc⟩ := DataW.trod_int (k := .i64) Try.underlying3 (hf 2 _ rfl)
      obtain ⟨d, ed, _, wd⟩ := DataW.trod_int (k := .u8) Try.underlying5 (hf 3 _ rfl)
      simp [clI, clB] at ea eb ec ed
      subst ea eb ec ed
      have bd := bounds_u8 wd
      refine ⟨⟨a, b, c, UInt8.ofNat d.toNat⟩, trivial, ?_⟩
      unfold cvc
      rw [u8_of (by omega), Int.toNat_of_nonneg bd.1]
set_option maxRecDepth 100000 in
theorem open_shape {fuel : Nat} {cs : List Value} {x : DataW H × List MemPlace} (h : DataW.trod enc Try.prog w base spare held fuel 23 cs = some x) : ∃ a b c : Int, cs = [.int .i64 a, .int .i64 b, .int .i64 c] := by
  obtain ⟨ys, n, hn, hy, hlen, hyl, hf⟩ := DataW.trod_struct Try.underlying23 h
  rw [clH] at hlen
  match cs, hlen with
  | [c0, c1, c2], _ =>
    match ys, hyl with
    | [y0, y1, y2], _ =>
      obtain ⟨a, ea, _, _⟩ := DataW.trod_int (k := .i64) Try.underlying3 (hf 0 _ rfl)
      obtain ⟨b, eb, _, _⟩ := DataW.trod_int (k := .i64) Try.underlying3 (hf 1 _ rfl)
      obtain ⟨c, ec, _, _⟩ := DataW.trod_int (k := .i64) Try.underlying3 (hf 2 _ rfl)
      simp [clI] at ea eb ec
      subst ea eb ec
      exact ⟨a, b, c, rfl⟩
/-- A slice whose elements each read. -/
theorem open_list {α : Type} {t e n0 : Nat} (hu : Try.prog.underlying t = some (.slice e)) (hc : Try.prog.cellsOf e = n0) (hn0 : 0 < n0) (cf : α → List Value) (wf : α → Prop) (hcf : ∀ x, (cf x).length = n0)
    (hop : ∀ {fuel : Nat} {cs : List Value} {x : DataW H × List MemPlace}, DataW.trod enc Try.prog w base spare held fuel e cs = some x → ∃ c : α, wf c ∧ cs = cf c)
    {fuel : Nat} {cs : List Value} {x : DataW H × List MemPlace} (h : DataW.trod enc Try.prog w base spare held fuel t cs = some x) :
    ∃ (A : Option Addr) (len cap : Nat) (l : List α), cs = [.slice A len cap] ∧ l.length = len ∧ len ≤ cap ∧ cap ≤ maxLen ∧ (∀ c ∈ l, wf c) ∧ (l ≠ [] → ∃ b o, A = some ⟨b, o, none⟩ ∧ b < w.heap.size ∧ ∀ i c, l[i]? = some c → w.rangeAt b (o + i * n0) (cf c)) := by
  rcases open_slice hu h with ⟨rfl, _⟩ | ⟨a, len, cap, m, n, D, Pl, hcs, hb, hl, hm, hmm, hx, hi⟩
  · exact ⟨none, 0, 0, [], rfl, rfl, Nat.le_refl _, Nat.zero_le _, (fun c h => by cases h), fun h => absurd rfl h⟩
  · rw [hc] at hi
    have hlm : len ≤ m := by rw [hmm]; split <;> omega
    have hex : ∀ i : Nat, i < len → ∃ c : α, wf c ∧ ∀ j, j < n0 → w.cell? (a.add (i * n0 + j)) = (cf c)[j]? := by
      intro i hlt
      obtain ⟨cs', hc', ht⟩ := hi i (by omega)
      obtain ⟨c, hwf, rfl⟩ := hop ht
      obtain ⟨_, _, hat⟩ := World.cells?_some hc'
      exact ⟨c, hwf, fun j hj => by have := hat j hj; rw [add_add] at this; exact this⟩
    have hl' : ∃ l : List α, l.length = len ∧ ∀ i c, l[i]? = some c → wf c ∧ ∀ j, j < n0 → w.cell? (a.add (i * n0 + j)) = (cf c)[j]? := by
      clear hx hmm hcs h hi
      revert hex
      generalize len = k at hlm hl ⊢
      intro hex
      have : ∀ q, q ≤ k → ∃ l : List α, l.length = q ∧ ∀ i c, l[i]? = some c → wf c ∧ ∀ j, j < n0 → w.cell? (a.add (i * n0 + j)) = (cf c)[j]? := by
        intro q
        induction q with
        | zero => intro _; exact ⟨[], rfl, fun i c h => by simp at h⟩
        | succ q ih =>
          intro hq
          obtain ⟨l, hl, hp⟩ := ih (by omega)
          obtain ⟨c, hc⟩ := hex q (by omega)
          refine ⟨l ++ [c], by simp [hl], fun i x hx => ?_⟩
          by_cases hiq : i < q
          · rw [List.getElem?_append_left (by omega)] at hx
            exact hp i x hx
          · have hlt := (List.getElem?_eq_some_iff.1 hx).1
            have hi : i = q := by simp [hl] at hlt; omega
            subst hi
            rw [List.getElem?_append_right (by omega), hl] at hx
            simp at hx
            subst hx
            exact hc
      exact this k (Nat.le_refl _)
    obtain ⟨l, hll, hlp⟩ := hl'
    refine ⟨some a, len, cap, l, hcs, hll, hl, hm, fun c hc => ?_, fun hne => ?_⟩
    · obtain ⟨i, hi⟩ := List.getElem?_of_mem hc
      exact (hlp i c hi).1
    · obtain ⟨b, off, spot⟩ := a
      have hpos : 0 < l.length := List.length_pos_iff.2 hne
      have h0 := (hlp 0 l[0] (List.getElem?_eq_getElem hpos)).2 0 hn0
      have h1 : (cf l[0])[0]? = some ((cf l[0])[0]'(by rw [hcf]; exact hn0)) := List.getElem?_eq_getElem _
      rw [h1] at h0
      have hspot : spot = none := by simpa [Addr.add] using World.cell?_spot h0
      subst hspot
      refine ⟨b, off, rfl, by simpa [Addr.add] using World.block_lt_of_cell? w _ h0, fun i c hc j u hu => ?_⟩
      have hj : j < n0 := by have := (List.getElem?_eq_some_iff.1 hu).1; rw [hcf] at this; exact this
      have := (hlp i c hc).2 j hj
      rw [hu, Addr.add_mid] at this
      rw [show off + i * n0 + j = off + (i * n0 + j) by omega]
      exact this
theorem open_calls {fuel : Nat} {cs : List Value} {x : DataW H × List MemPlace} (h : DataW.trod enc Try.prog w base spare held fuel 24 cs = some x) :
    ∃ (A : Option Addr) (len cap : Nat) (l : List CV), cs = [.slice A len cap] ∧ CallS w A len cap l := by
  obtain ⟨A, len, cap, l, h1, h2, h3, h4, h5, h6⟩ := open_list Try.underlying24 clC (by omega) cvc (fun _ => True) (fun _ => rfl) (fun h => open_call h) h
  exact ⟨A, len, cap, l, h1, h2, h3, h4, h6⟩
end
end Go.Proofs.Ytfglopkglnpokaa
