/- A digest stored into a row of events; the append of a run already known. Condition: none. -/
import Derived.Test.YtndbbbkdpjkljaaDoorAH
import Derived.Test.YtndbbbkdpjkljaaDoorR3
namespace Go.Proofs.YtndbbbkdpjkljaaDoor
open Go.RowKit
theorem EV.there {w : World} {N g : Nat} {es : List Ev} (h : EV w N g es) {i : Nat} (hi : i < es.length) : w.there g (i * 34 + 1) 32 := fun j hj => by
  refine ⟨?_, h.2.2.1 _⟩
  have := h.dig (List.getElem?_eq_getElem hi) j (b8 es[i].d j) (by simp [arr, hj])
  rw [this]; rfl
theorem evc_at (e : Ev) (k : Nat) : (evc e)[k]? = if k = 0 then some (.int .i64 e.r) else if k < 33 then some (b8 e.d (k - 1)) else if k = 33 then some (.string e.t) else none := by
  by_cases h0 : k = 0
  · subst h0; rfl
  rw [if_neg h0]
  obtain ⟨k', rfl⟩ : ∃ k', k = k' + 1 := ⟨k - 1, by omega⟩
  unfold evc
  rw [List.getElem?_cons_succ]
  by_cases h1 : k' < 32
  · rw [if_pos (by omega), List.getElem?_append_left (by simpa [arr] using h1)]
    simp [arr, h1]
  · rw [if_neg (by omega), List.getElem?_append_right (by simp [arr]; omega)]
    by_cases h2 : k' = 32
    · subst h2; rw [if_pos rfl]; simp [arr]
    · rw [if_neg (by omega)]; apply List.getElem?_eq_none; simp [arr]; omega
theorem EV.setDig {w : World} {N g : Nat} {es : List Ev} (h : EV w N g es) {i : Nat} (hi : i < es.length) (D : Nat → Int) : EV (w.setCells g (i * 34 + 1) (arr 32 (b8 D)).toList) N g (setD es i D) := by
  have ht := h.there hi
  obtain ⟨h1, h2, h3, h4⟩ := h
  have hl : (arr 32 (b8 D)).toList.length = 32 := by simp [arr]
  refine ⟨h1, Nat.lt_of_lt_of_le h2 (Below.setAll (Nat.le_refl g) _ _ _ (Below.refl g w)).size, fun j => by rw [World.frozen?_setCells]; exact h3 j, fun j e he k u hu => ?_⟩
  unfold Go.Proofs.YtndbbbkdpjkljaaDoor.setD at he
  rw [List.getElem?_modify] at he
  rcases hx : es[j]? with _ | x
  · rw [hx] at he; simp at he
  rw [hx] at he
  have hk : k < 34 := by have := (List.getElem?_eq_some_iff.1 hu).1; rw [evc_len] at this; exact this
  have hold := h4 j x hx
  by_cases hij : i = j
  · subst hij
    simp at he
    subst he
    by_cases hk0 : 1 ≤ k ∧ k < 33
    · have := World.cell?_setCells_in g (arr 32 (b8 D)).toList (i * 34 + 1) w (fun m hm => (ht m (by omega)).1) (k - 1) (by omega)
      rw [show i * 34 + 1 + (k - 1) = i * 34 + k by omega] at this
      rw [this]
      rw [evc_at, if_neg (by omega), if_pos hk0.2] at hu
      rw [← hu]
      simp [arr]
    · rw [World.cell?_setCells_out _ _ _ _ _ (fun _ _ => by rw [hl]; show i * 34 + k < _ ∨ _ ≤ i * 34 + k; omega)]
      refine hold k u ?_
      rw [← hu, evc_at, evc_at]
      by_cases hk1 : k = 0
      · rw [if_pos hk1, if_pos hk1]
      · have hk3 : ¬ k < 33 := by omega
        simp [hk1, hk3]
  · simp [hij] at he
    subst he
    rw [World.cell?_setCells_out _ _ _ _ _ (fun _ _ => by rw [hl]; show j * 34 + k < _ ∨ _ ≤ j * 34 + k; omega)]
    exact hold k u hu
theorem wp_append_run {P : Program} {w : World} {o : Oper} {a : Act} {K : Act → World → Prop} {Q : Exit → Act → World → Prop} (s x : Operand) (t : TypeId)
    (ho : o.op = .call { callee := .builtin .append, args := #[s, x], argTypes := #[t, t] }) (hty : o.type = t) (v1 v2 R : Value) (W' : World) (hs : a.eval s = v1) (hx : a.eval x = v2)
    (hr : (Builtin.append_ #[t, t] t #[v1, v2]).run P w = .ok R W') (h : K (a.put o.dst R) W') : o.wp P a w K Q := by
  unfold Oper.wp execOp
  simp only [ho, hty, resolve, invoke, builtin, Sem.run_bind, Sem.run_pure, Result.andThen_ok, List.map_toArray, List.map_cons, List.map_nil, hs, hx, hr]
  exact h
section
open Go.ChangeShapes Go.WideShapes Go.ChangeAt Go.Deep
theorem open_dg {H : Type} {enc : TypeId × Value → H} {w : World} {base : Nat} {spare : Nat → Bool} {held : Bool} {r : Reach} {b0 : Nat} {v : Value} {d : DataW H} {ps : List MemPlace} (hval : Value.okWide Tryd.prog w r b0 26 v) (hd : DataW.Trod enc Tryd.prog w base spare held 26 v d ps) : ∃ D : Nat → Int, Byt D ∧ v = .agg (arr 32 (b8 D)) := by
  obtain ⟨fuel, hf⟩ := hd
  obtain ⟨D, hB, hcs⟩ := dig_of hf
  simp only [Value.okWide, Tryd.underlying26] at hval
  obtain ⟨cs, rfl, _⟩ := hval
  refine ⟨D, hB, ?_⟩
  congr 1
  simpa [Value.cells] using hcs
end
end Go.Proofs.YtndbbbkdpjkljaaDoor
