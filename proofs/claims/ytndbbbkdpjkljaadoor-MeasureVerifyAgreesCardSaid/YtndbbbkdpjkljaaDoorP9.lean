/- The walk of MeasureExtendsPrefix: the plain part. -/
import Derived.Test.YtndbbbkdpjkljaaDoorY
namespace Go.Proofs.YtndbbbkdpjkljaaDoor
open Go.RowKit

/-- The events lie in block g, none frozen. -/
def EV (w : World) (N g : Nat) (es : List Ev) : Prop := N ≤ g ∧ g < w.heap.size ∧ (∀ j, w.frozen? ⟨g, j, none⟩ = false) ∧ ∀ j e, es[j]? = some e → w.rangeAt g (j * 34) (evc e)
theorem EV.of {w : World} {N g c : Nat} {es : List Ev} (h : OE w N (.slice (some ⟨g, 0, none⟩) es.length c) es) : EV w N g es := by
  have hgl := (h.lt g rfl)
  obtain ⟨a', c', e1, hr⟩ := h.rd
  obtain ⟨_, ⟨h1, _⟩ | ⟨g', cap', cur, e2, hg, hh, _⟩⟩ := h
  · cases h1
  injection e2 with e2
  injection e2 with e2
  have hgg : g = g' := congrArg Addr.block e2
  subst hgg
  refine ⟨hg, hgl.2, fun j => cells_mark hh (by omega), fun j e he => ?_⟩
  obtain ⟨b, o, e3, _, hrg⟩ := hr (by intro h; subst h; simp at he)
  injection e1 with e1
  subst e1
  injection e3 with e3
  have hb : g = b := congrArg Addr.block e3
  have ho : 0 = o := congrArg Addr.off e3
  subst hb ho
  have := hrg j e he
  rwa [Nat.zero_add] at this
theorem EV.rd {w : World} {N g : Nat} {es : List Ev} (h : EV w N g es) (c : Nat) : RdE w (.slice (some ⟨g, 0, none⟩) es.length c) es :=
  ⟨_, _, rfl, fun _ => ⟨g, 0, rfl, h.2.1, fun j e he => by rw [Nat.zero_add]; exact h.2.2.2 j e he⟩⟩
theorem EV.below {w w' : World} {N g B0 : Nat} {es : List Ev} (h : EV w N g es) (hb : Below B0 w w') (hB : g < B0) : EV w' N g es := by
  obtain ⟨h1, h2, h3, h4⟩ := h
  exact ⟨h1, Nat.lt_of_lt_of_le h2 hb.size, fun j => (hb.frozen (p := ⟨g, j, none⟩) hB).trans (h3 j), fun j e he => rangeAt_below (h4 j e he) hb hB⟩
theorem EV.cell {w : World} {N g : Nat} {es : List Ev} (h : EV w N g es) {j : Nat} {e : Ev} (he : es[j]? = some e) : w.cell? ⟨g, j * 34, none⟩ = some (.int .i64 e.r) := by
  have := h.2.2.2 j e he 0 _ rfl
  rwa [Nat.add_zero] at this
theorem EV.dig {w : World} {N g : Nat} {es : List Ev} (h : EV w N g es) {j : Nat} {e : Ev} (he : es[j]? = some e) : w.rangeAt g (j * 34 + 1) (arr 32 (b8 e.d)).toList := fun k u hu => by
  have hk : k < 32 := by have := (List.getElem?_eq_some_iff.1 hu).1; simpa [arr] using this
  have := h.2.2.2 j e he (k + 1) u (by
    unfold evc
    rw [List.getElem?_cons_succ, List.getElem?_append_left (by simpa [arr] using hk)]
    exact hu)
  rwa [show j * 34 + (k + 1) = j * 34 + 1 + k by omega] at this
theorem EV.set {w : World} {N g : Nat} {es : List Ev} (h : EV w N g es) (i : Nat) (r : Int) : EV (w.setCell ⟨g, i * 34, none⟩ (.int .i64 r)) N g (setR es i r) := by
  obtain ⟨h1, h2, h3, h4⟩ := h
  refine ⟨h1, by simpa [World.setCell] using h2, fun j => by rw [World.frozen?_setCell]; exact h3 j, fun j e he k u hu => ?_⟩
  unfold Go.Proofs.YtndbbbkdpjkljaaDoor.setR at he
  rw [List.getElem?_modify] at he
  rcases hx : es[j]? with _ | x
  · rw [hx] at he; simp at he
  rw [hx] at he
  have hk : k < 34 := by have := (List.getElem?_eq_some_iff.1 hu).1; rw [evc_len] at this; exact this
  have hold := h4 j x hx
  by_cases hij : i = j
  · subst hij
    simp at he
    subst he
    by_cases hk0 : k = 0
    · subst hk0
      have : u = .int .i64 r := by simpa [evc] using hu.symm
      subst this
      have hc := hold 0 _ rfl
      rw [Nat.add_zero] at hc ⊢
      exact World.cell?_setCell_same _ _ _ hc
    · have hu2 : (evc x)[k]? = some u := by
        rw [← hu]
        unfold evc
        obtain ⟨k', rfl⟩ : ∃ k', k = k' + 1 := ⟨k - 1, by omega⟩
        rfl
      rw [World.cell?_setCell_other _ _ _ _ (by intro h; have := congrArg Addr.off h; simp at this; omega)]
      exact hold k u hu2
  · simp [hij] at he
    subst he
    rw [World.cell?_setCell_other _ _ _ _ (by intro h; have := congrArg Addr.off h; simp at this; omega)]
    exact hold k u hu
/-- The first i registers brought into 0 .. 7. -/
def nrm (e : Ev) : Ev := { e with r := ((mo e.r 8 : Nat) : Int) }
def modE (es : List Ev) (i : Nat) : List Ev := (es.take i).map nrm ++ es.drop i
theorem modE_len (es : List Ev) (i : Nat) : (modE es i).length = es.length := by simp [modE]; omega
theorem modE_get (es : List Ev) (i j : Nat) : (modE es i)[j]? = if j < i then es[j]?.map nrm else es[j]? := by
  unfold modE
  by_cases h : j < i
  · rw [if_pos h]
    by_cases hl : j < es.length
    · rw [List.getElem?_append_left (by simp; omega), List.getElem?_map, List.getElem?_take_of_lt h]
    · rw [List.getElem?_eq_none (by simp; omega), List.getElem?_eq_none (l := es) (by omega)]; rfl
  · rw [if_neg h]
    by_cases hl : i ≤ es.length
    · rw [List.getElem?_append_right (by simp; omega), List.getElem?_drop]
      congr 1
      simp
      omega
    · rw [List.getElem?_eq_none (by simp; omega), List.getElem?_eq_none (by omega)]
theorem modE_succ (es : List Ev) (i : Nat) (e : Ev) (h : es[i]? = some e) : setR (modE es i) i ((mo e.r 8 : Nat) : Int) = modE es (i + 1) := by
  apply List.ext_getElem?
  intro j
  unfold setR
  rw [List.getElem?_modify, modE_get, modE_get]
  by_cases hij : i = j
  · subst hij
    rw [if_neg (Nat.lt_irrefl i), if_pos (Nat.lt_succ_self i), h]
    simp [nrm]
  · by_cases hj : j < i
    · rw [if_pos hj, if_pos (by omega)]; simp [hij]
    · rw [if_neg hj, if_neg (by omega)]; simp [hij]
theorem modE_at (es : List Ev) (i : Nat) (e : Ev) (h : es[i]? = some e) : (modE es i)[i]? = some e := by rw [modE_get, if_neg (Nat.lt_irrefl i), h]
theorem modE_all (es : List Ev) : modE es es.length = es.map nrm := by simp [modE]
theorem nrm_ok (es : List Ev) : (es.map nrm).all okE = true := by
  rw [List.all_eq_true]
  intro e he
  obtain ⟨x, _, rfl⟩ := List.mem_map.1 he
  have := mo_lt x.r 8 (by omega)
  show (decide (0 ≤ ((mo x.r 8 : Nat) : Int)) && decide (((mo x.r 8 : Nat) : Int) < 8)) = true
  rw [decide_eq_true (by omega), decide_eq_true (by omega)]
  rfl
theorem copy_run (a : Option Addr) (c : Nat) (es : List Ev) (w : World) (h : RdE w (.slice a es.length c) es) (hl : es.length ≤ 1000) :
    ∃ g cap W', (Builtin.append_ #[46, 46] 46 #[.slice (some ⟨w.heap.size, 0, none⟩) 0 0, .slice a es.length c]).run Tryd.prog (w.alloc (.cells #[] 45)) = .ok (.slice (some ⟨g, 0, none⟩) es.length cap) W' ∧ es.length ≤ cap ∧ EV W' w.heap.size g es ∧ Below w.heap.size w W' := by
  have ho : (w.alloc (.cells #[] 45)).ownsRow w.heap.size 45 34 (.slice (some ⟨w.heap.size, 0, none⟩) 0 0) 0 [] := ⟨rfl, .inr ⟨w.heap.size, 0, #[], rfl, Nat.le_refl _, heap_alloc_new w _, Nat.le_refl _, by simp [maxLen], rfl, rfl⟩⟩
  by_cases he : es = []
  · subst he
    exact ⟨w.heap.size, 0, _, app0 (w.alloc (.cells #[] 45)) w.heap.size c a, Nat.le_refl _, EV.of (es := []) ho, (Below.refl _ _).alloc (Nat.le_refl _) _⟩
  · obtain ⟨a', c', e1, hr⟩ := h
    injection e1 with e1
    subst e1
    obtain ⟨b, o, hx, hbl, hrg⟩ := hr he
    subst hx
    have hpos : 0 < es.length := List.length_pos_iff.2 he
    obtain ⟨i0, hi0, hz0, hz1, hz2⟩ := info_parts Tryd.info45
    have hnews : ∀ j u, (evs es)[j]? = some u → (w.alloc (.cells #[] 45)).cell? ((⟨b, o, none⟩ : Addr).add j) = some u := fun j u hu => by
      have hj : j < es.length * 34 := by have := (List.getElem?_eq_some_iff.1 hu).1; rw [evs_len] at this; exact this
      have hi : j / 34 < es.length := by omega
      have hee : es[j / 34]? = some es[j / 34] := List.getElem?_eq_getElem hi
      have hjj : (evc es[j / 34])[j % 34]? = some ((evc es[j / 34])[j % 34]'(by rw [evc_len]; omega)) := List.getElem?_eq_getElem _
      have h1 := evs_at es _ _ hee _ _ hjj
      rw [show j / 34 * 34 + j % 34 = j by omega, hu] at h1
      injection h1 with h1
      have h2 := hrg _ _ hee _ _ hjj
      rw [Addr.add_mid, show o + j = o + j / 34 * 34 + j % 34 by omega, h1]
      rw [World.cell?_of_block (w := w) (Below.heap_alloc w _ b hbl)]
      exact h2
    have hone : ∀ u ∈ evs es, u.oneCell' = true := fun u hu => by
      obtain ⟨x, _, hx⟩ := List.mem_flatMap.1 hu
      rcases List.mem_cons.1 hx with rfl | hx
      · rfl
      rcases List.mem_append.1 hx with hx | hx
      · simp only [arr, List.mem_map] at hx; obtain ⟨i, _, rfl⟩ := hx; rfl
      · rw [List.mem_singleton.1 hx]; rfl
    obtain ⟨g, cap, w', hrun, hown, hgrow, hat, hlt⟩ := Go.run_append_lies (P := Tryd.prog) (w.alloc (.cells #[] 45)) 46 46 w.heap.size 45 i0 _ 34 56 Tryd.underlying46 hi0 hz0 hz1 hz2 (by kernel_rfl) (by omega) _ 0 [] ho ⟨b, o, none⟩ es.length c (evs es) (evs_len es) hnews hone hpos (by simp only [maxLen]; omega) (by omega) (by simp) (w.heap.size + 1) (by simp)
    rw [Nat.zero_add] at hrun hown
    rw [List.nil_append] at hown
    refine ⟨g, cap, w', hrun, ?_, EV.of hown, Below.grown ((Below.refl _ _).alloc (Nat.le_refl _) _) hgrow (by simp) (fun k hk => by
        have : w.heap.size = k := by simpa [Value.ownBlock] using hk
        omega)⟩
    obtain ⟨a2, c2, e2, h2⟩ := own_cap hown
    injection e2 with _ _ e3
    rw [e3]; exact h2
theorem wpList_append_run {P : Program} {w : World} {ops : Array Oper} {rest : List Oper} {o : Oper} {a : Act} {Q : Exit → Act → World → Prop} (hgd : o.guard = none) (s x : Operand) (t : TypeId)
    (ho : o.op = .call { callee := .builtin .append, args := #[s, x], argTypes := #[t, t] }) (hty : o.type = t) (v1 v2 R : Value) (W' : World) (hs : a.eval s = v1) (hx : a.eval x = v2)
    (hr : (Builtin.append_ #[t, t] t #[v1, v2]).run P w = .ok R W') (h : wpList P ops Q rest (a.put o.dst R) W') : wpList P ops Q (o :: rest) a w :=
  wpList_plain hgd fun _ hK => by
    unfold Oper.wp execOp
    simp only [ho, hty, resolve, invoke, builtin, Sem.run_bind, Sem.run_pure, Result.andThen_ok, List.map_toArray, List.map_cons, List.map_nil, hs, hx, hr]
    exact hK _ _ h

end Go.Proofs.YtndbbbkdpjkljaaDoor
