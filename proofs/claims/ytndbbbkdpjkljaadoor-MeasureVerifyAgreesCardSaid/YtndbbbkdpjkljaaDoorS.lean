/- Slices of events: read, cloned. Condition: at most 1000 events. -/
import Derived.Test.YtndbbbkdpjkljaaDoorQ
import Derived.Deep.AppendLies
namespace Go.Proofs.YtndbbbkdpjkljaaDoor
open Go.RowKit
attribute [local go_sem ↓] alloc26 load26n store26n
attribute [local go_sem] stN_uc stN_b8 set_new fold_drew ldN_drew ldN_drewN stN_drew stN_drewN

theorem rangeAt_below {w w' : World} {b o B0 : Nat} {cs : List Value} (h : w.rangeAt b o cs) (hb : Below B0 w w') (hB : b < B0) : w'.rangeAt b o cs := fun j u hu => (hb.cell (p := ⟨b, o + j, none⟩) hB).trans (h j u hu)
theorem rangeAt_ch {C : Nat → Prop} {w w' : World} {b o : Nat} {cs : List Value} (h : w.rangeAt b o cs) (hb : Ch C w w') (hl : b < w.heap.size) (hB : ¬ C b) : w'.rangeAt b o cs := fun j u hu => (hb.cell ⟨b, o + j, none⟩ hl hB).trans (h j u hu)
/-- v reads as these events. -/
def RdE (w : World) (v : Value) (es : List Ev) : Prop := ∃ a c, v = .slice a es.length c ∧ (es ≠ [] → ∃ b o, a = some ⟨b, o, none⟩ ∧ b < w.heap.size ∧ ∀ i e, es[i]? = some e → w.rangeAt b (o + i * 34) (evc e))
theorem RdE.below {w w' : World} {v : Value} {es : List Ev} {B0 : Nat} (h : RdE w v es) (hb : Below B0 w w') (hB : w.heap.size ≤ B0) : RdE w' v es := by
  obtain ⟨a, c, rfl, h⟩ := h
  refine ⟨a, c, rfl, fun hne => ?_⟩
  obtain ⟨b, o, rfl, hl, hr⟩ := h hne
  exact ⟨b, o, rfl, by have := hb.size; omega, fun i e he => rangeAt_below (hr i e he) hb (by omega)⟩
theorem RdE.ch {C : Nat → Prop} {w w' : World} {v : Value} {es : List Ev} (h : RdE w v es) (hb : Ch C w w') (hC : ∀ i, C i → w.heap.size ≤ i) : RdE w' v es := by
  obtain ⟨a, c, rfl, h⟩ := h
  refine ⟨a, c, rfl, fun hne => ?_⟩
  obtain ⟨b, o, rfl, hl, hr⟩ := h hne
  exact ⟨b, o, rfl, by have := hb.size; omega, fun i e he => rangeAt_ch (hr i e he) hb hl (fun h => by have := hC b h; omega)⟩
/-- v is a slice of the call's own that holds these events. -/
def OE (w : World) (base : Nat) (v : Value) (es : List Ev) : Prop := w.ownsRow base 45 34 v es.length (evs es)
theorem evs_at (es : List Ev) : ∀ (i : Nat) (e : Ev), es[i]? = some e → ∀ j u, (evc e)[j]? = some u → (evs es)[i * 34 + j]? = some u := by
  induction es with
  | nil => intro i e h; simp at h
  | cons x r ih =>
    intro i e h j u hu
    have hj : j < 34 := by have := (List.getElem?_eq_some_iff.1 hu).1; rw [evc_len] at this; exact this
    show (evc x ++ evs r)[i * 34 + j]? = some u
    cases i with
    | zero =>
      have : x = e := by simpa using h
      subst this
      rw [List.getElem?_append_left (by rw [evc_len]; omega)]
      simpa using hu
    | succ i =>
      rw [List.getElem?_append_right (by rw [evc_len]; omega), evc_len, show (i + 1) * 34 + j - 34 = i * 34 + j by omega]
      exact ih i e (by simpa using h) j u hu
theorem OE.rd {w : World} {base : Nat} {v : Value} {es : List Ev} (h : OE w base v es) : RdE w v es := by
  obtain ⟨hl, ⟨rfl, h0⟩ | ⟨g, cap, cur, rfl, hb, hh, h1, h2, h3, h4⟩⟩ := h
  · have : es = [] := List.eq_nil_of_length_eq_zero h0
    subst this
    exact ⟨none, 0, rfl, fun h => absurd rfl h⟩
  · refine ⟨_, _, rfl, fun _ => ⟨g, 0, rfl, heap_lt hh, fun i e he j u hu => ?_⟩⟩
    have := evs_at es i e he j u hu
    have hlt := (List.getElem?_eq_some_iff.1 this).1
    rw [← h4, List.getElem?_take] at this
    split at this
    · rw [cell_of_row w g _ cur 45 (0, 0) hh, ← Array.getElem?_toList, show 0 + i * 34 + j = i * 34 + j by omega]
      exact this
    · cases this
theorem OE.below {w w' : World} {base B0 : Nat} {v : Value} {es : List Ev} (h : OE w base v es) (hb : Below B0 w w') (hB : w.heap.size ≤ B0) : OE w' base v es := own_below h hb hB
theorem LOG.cells {w : World} {base B : Nat} {es : List Ev} (h : LOG w base B es) : ∃ v, w.cell? ⟨B, 256, none⟩ = some v ∧ OE w base v es ∧ B < w.heap.size := by
  obtain ⟨_, v, hL, hO⟩ := h
  exact ⟨v, by rw [Row.cell hL (i := 256) (by omega), lgv_ev], hO, hL.lt⟩

theorem app0 (W : World) (h c : Nat) (a : Option Addr) : (Builtin.append_ #[46, 46] 46 #[.slice (some ⟨h, 0, none⟩) 0 0, .slice a 0 c]).run Tryd.prog W = .ok (.slice (some ⟨h, 0, none⟩) 0 0) W := by
  obtain ⟨i0, hi0, hz0, hz1, hz2⟩ := info_parts Tryd.info45
  cases a <;> simp [Builtin.append_, run_underlying Tryd.underlying46, sizeOf, typeInfo, hi0, Builtin.lenOf, Builtin.firstCells, storeCells, loadCells, loadCellsFrom]
/-- A slice of these events, in new memory. -/
def NewE (w : World) (es : List Ev) (e : Ending) (w' : World) : Prop := ∃ v, e = .returned v ∧ OE w' w.heap.size v es ∧ Below w.heap.size w w'
set_option maxHeartbeats 1000000 in
theorem clone_any (v : Value) (es : List Ev) (w : World) (h : RdE w v es) (hl : es.length ≤ 1000) : Calls Tryd.prog 41 #[v] w (NewE w es) := by
  obtain ⟨a, c, rfl, hr⟩ := h
  have hnil := fun W => Lib.run_eql_slice_nil (P := Tryd.prog) W 46 45 a es.length c 0 0 Tryd.underlying46
  cases a with
  | none =>
    have he : es = [] := by
      rcases es with _ | ⟨x, r⟩
      · rfl
      · obtain ⟨b, o, hx, _⟩ := hr (by simp); cases hx
    subst he
    have hnil0 : ∀ W, (binOp .eql 46 (.slice none 0 c) (.slice none 0 0)).run Tryd.prog W = .ok (.bool true) W := hnil
    clear hnil
    go_enter Tryd.func41, Tryd.ntmps41
    go_wp2_with fail
    go_ret
    exact ⟨_, rfl, ⟨rfl, .inl ⟨rfl, rfl⟩⟩, Below.refl _ _⟩
  | some ad =>
    simp only [Option.isNone_some] at hnil
    have hmk : ∀ W, (Instr.buildSlice 46 0 #[]).run Tryd.prog W = .ok (.slice (some ⟨W.heap.size, 0, none⟩) 0 0) (W.alloc (.cells #[] 45)) := fun _ => by kernel_rfl
    have ho : Hid ((w.alloc (.cells #[] 45)).ownsRow w.heap.size 45 34 (.slice (some ⟨w.heap.size, 0, none⟩) 0 0) 0 []) := ⟨rfl, .inr ⟨w.heap.size, 0, #[], rfl, Nat.le_refl _, heap_alloc_new w _, Nat.le_refl _, by simp [maxLen], rfl, rfl⟩⟩
    by_cases he : es = []
    · subst he
      have hnil0 : ∀ W, (binOp .eql 46 (.slice (some ad) 0 c) (.slice none 0 0)).run Tryd.prog W = .ok (.bool false) W := hnil
      clear hnil
      have ha := app0 (w.alloc (.cells #[] 45)) w.heap.size c (some ad)
      go_enter Tryd.func41, Tryd.ntmps41
      go_wp2_with fail
      go_ret
      exact ⟨_, rfl, ho.out, (Below.refl _ _).alloc (Nat.le_refl _) _⟩
    · obtain ⟨b, o, hx, hbl, hrg⟩ := hr he
      injection hx with hx
      subst hx
      have hpos : 0 < es.length := List.length_pos_iff.2 he
      obtain ⟨i0, hi0, hz0, hz1, hz2⟩ := info_parts Tryd.info45
      have hnews : Hid (∀ j u, (evs es)[j]? = some u → (w.alloc (.cells #[] 45)).cell? ((⟨b, o, none⟩ : Addr).add j) = some u) := fun j u hu => by
        have hj : j < es.length * 34 := by have := (List.getElem?_eq_some_iff.1 hu).1; rw [evs_len] at this; exact this
        have hi : j / 34 < es.length := by omega
        have hee : es[j / 34]? = some es[j / 34] := List.getElem?_eq_getElem hi
        have hjj : (evc es[j / 34])[j % 34]? = some ((evc es[j / 34])[j % 34]'(by rw [evc_len]; omega)) := List.getElem?_eq_getElem _
        have h1 := evs_at es _ _ hee _ _ hjj
        rw [show j / 34 * 34 + j % 34 = j by omega, hu] at h1
        injection h1 with h1
        have h2 := hrg _ _ hee _ _ hjj
        rw [Addr.add_mid, show o + j = o + j / 34 * 34 + j % 34 by omega, h1]
        rw [World.cell?_of_block (w := w) (Below.heap_alloc w _ b hbl)]
        exact h2
      have hone : Hid (∀ u ∈ evs es, u.oneCell' = true) := fun u hu => by
        obtain ⟨x, _, hx⟩ := List.mem_flatMap.1 hu
        rcases List.mem_cons.1 hx with rfl | hx
        · rfl
        rcases List.mem_append.1 hx with hx | hx
        · simp only [arr, List.mem_map] at hx; obtain ⟨i, _, rfl⟩ := hx; rfl
        · rw [List.mem_singleton.1 hx]; rfl
      have HE := Lib.hid he
      clear he hr
      go_enter Tryd.func41, Tryd.ntmps41
      go_wp2_with (at_builtin; refine wpList_append_lies _ rfl _ _ 46 rfl w.heap.size 45 i0 _ 34 56 Tryd.underlying46 hi0 hz0 hz1 hz2 (by kernel_rfl) (by omega) _ 0 [] rfl (by exact ho.out) ⟨b, o, none⟩ es.length c (evs es) rfl (evs_len es) (by exact hnews.out) hone.out hpos (by simp only [maxLen]; omega) (by omega) (by simp) (w.heap.size + 1) (by simp) ?_)
      intro g cap w' hown hgrow hat hlt
      have hb : Below w.heap.size w w' := Below.grown ((Below.refl _ _).alloc (Nat.le_refl _) _) hgrow (by simp) (fun k hk => by
        have : w.heap.size = k := by simpa [Value.ownBlock] using hk
        omega)
      have HO := Lib.hid hown
      clear hown hgrow hat
      go_wp2_with fail
      go_ret
      exact ⟨_, rfl, HO.out, hb⟩
set_option maxHeartbeats 1000000 in
theorem events_any (base B : Nat) (es : List Ev) (w : World) (h : LOG w base B es) (hl : es.length ≤ 1000) : Calls Tryd.prog 27 #[.pointer (some ⟨B, 0, none⟩)] w (NewE w es) := by
  obtain ⟨v, hv, hO, hB⟩ := h.cells
  have HO := Lib.hid hO.rd
  clear hO h
  go_enter Tryd.func27, Tryd.ntmps27
  go_wp2_with fail
  refine (clone_any v es _ HO.out hl).mono ?_
  rintro e w' ⟨v', rfl, hO', hb⟩
  have HO' := Lib.hid hO'
  clear hO'
  go_wp2_with fail
  go_ret
  exact ⟨_, rfl, HO'.out, hb⟩
end Go.Proofs.YtndbbbkdpjkljaaDoor
