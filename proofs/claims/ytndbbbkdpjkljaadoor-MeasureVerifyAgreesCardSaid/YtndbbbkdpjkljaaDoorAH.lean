/- Events appended to a row that the code owns; one event left out; a digest replaced. Condition: sizes. -/
import Derived.Test.YtndbbbkdpjkljaaDoorP9
namespace Go.Proofs.YtndbbbkdpjkljaaDoor
open Go.RowKit
theorem appN (W : World) (h n k c : Nat) (a : Option Addr) (hk : n ≤ k) : (Builtin.append_ #[46, 46] 46 #[.slice (some ⟨h, 0, none⟩) n k, .slice a 0 c]).run Tryd.prog W = .ok (.slice (some ⟨h, 0, none⟩) n k) W := by
  obtain ⟨i0, hi0, hz0, hz1, hz2⟩ := info_parts Tryd.info45
  cases a <;> simp [Builtin.append_, run_underlying Tryd.underlying46, sizeOf, typeInfo, hi0, Builtin.lenOf, Builtin.firstCells, storeCells, loadCells, loadCellsFrom, hk]
/-- The events lie behind this address. -/
def AT (w : World) (a : Option Addr) (es : List Ev) : Prop := es ≠ [] → ∃ b o, a = some ⟨b, o, none⟩ ∧ b < w.heap.size ∧ ∀ i e, es[i]? = some e → w.rangeAt b (o + i * 34) (evc e)
theorem app_oe (base : Nat) (g n cap : Nat) (es xs : List Ev) (a : Option Addr) (m c : Nat) (w : World) (hown : OE w base (.slice (some ⟨g, 0, none⟩) n cap) es) (hm : xs.length = m) (hx : AT w a xs) (hl : es.length + m ≤ 1000) (hbase : base ≤ w.heap.size) :
    ∃ g' cap' W', (Builtin.append_ #[46, 46] 46 #[.slice (some ⟨g, 0, none⟩) n cap, .slice a m c]).run Tryd.prog w = .ok (.slice (some ⟨g', 0, none⟩) (n + m) cap') W' ∧ OE W' base (.slice (some ⟨g', 0, none⟩) (n + m) cap') (es ++ xs) ∧ w.grownBy W' (some g) ∧ (g = g' ∨ g' = w.heap.size) := by
  have hn : n = es.length := by
    obtain ⟨a', c', e⟩ := own_len hown
    injection e
  subst hn
  by_cases he : xs = []
  · subst he
    subst hm
    have hk : es.length ≤ cap := by
      obtain ⟨a2, c2, e2, h2⟩ := own_cap hown
      injection e2 with _ _ e3
      rw [e3]; exact h2
    refine ⟨g, cap, w, appN w g es.length cap c a hk, ?_, ⟨rfl, rfl, rfl, Nat.le_refl _, fun _ _ _ => rfl⟩, .inl rfl⟩
    rw [List.append_nil]
    exact hown
  · obtain ⟨b, o, rfl, hbl, hrg⟩ := hx he
    have hpos : 0 < xs.length := List.length_pos_iff.2 he
    obtain ⟨i0, hi0, hz0, hz1, hz2⟩ := info_parts Tryd.info45
    have hnews : ∀ j u, (evs xs)[j]? = some u → w.cell? ((⟨b, o, none⟩ : Addr).add j) = some u := fun j u hu => by
      have hj : j < xs.length * 34 := by have := (List.getElem?_eq_some_iff.1 hu).1; rw [evs_len] at this; exact this
      have hi : j / 34 < xs.length := by omega
      have hee : xs[j / 34]? = some xs[j / 34] := List.getElem?_eq_getElem hi
      have hjj : (evc xs[j / 34])[j % 34]? = some ((evc xs[j / 34])[j % 34]'(by rw [evc_len]; omega)) := List.getElem?_eq_getElem _
      have h1 := evs_at xs _ _ hee _ _ hjj
      rw [show j / 34 * 34 + j % 34 = j by omega, hu] at h1
      injection h1 with h1
      have h2 := hrg _ _ hee _ _ hjj
      rw [Addr.add_mid, show o + j = o + j / 34 * 34 + j % 34 by omega, h1]
      exact h2
    have hone : ∀ u ∈ evs xs, u.oneCell' = true := fun u hu => by
      obtain ⟨x, _, hx⟩ := List.mem_flatMap.1 hu
      rcases List.mem_cons.1 hx with rfl | hx
      · rfl
      rcases List.mem_append.1 hx with hx | hx
      · simp only [arr, List.mem_map] at hx; obtain ⟨i, _, rfl⟩ := hx; rfl
      · rw [List.mem_singleton.1 hx]; rfl
    obtain ⟨g', cap', w', hrun, hown', hgrow, hat, hlt⟩ := Go.run_append_lies (P := Tryd.prog) w 46 46 base 45 i0 _ 34 56 Tryd.underlying46 hi0 hz0 hz1 hz2 (by kernel_rfl) (by omega) _ es.length (evs es) hown ⟨b, o, none⟩ m c (evs xs) (by rw [evs_len, hm]) hnews hone (by omega) (by simp only [maxLen]; omega) (by omega) hbase w.heap.size rfl
    refine ⟨g', cap', w', hrun, ?_, hgrow, ?_⟩
    · show w'.ownsRow base 45 34 _ (es ++ xs).length (evs (es ++ xs))
      rw [List.length_append, hm, show evs (es ++ xs) = evs es ++ evs xs by simp [evs]]
      exact hown'
    · rcases hat with h | h
      · exact .inl (by simpa [Value.ownBlock] using h)
      · exact .inr h
theorem EV.at {w : World} {N g : Nat} {es : List Ev} (h : EV w N g es) (i n : Nat) : AT w (some ⟨g, i * 34, none⟩) ((es.drop i).take n) := fun _ => by
  refine ⟨g, i * 34, rfl, h.2.1, fun j e he => ?_⟩
  have : es[i + j]? = some e := by
    rw [List.getElem?_take] at he
    split at he
    · rw [List.getElem?_drop] at he; exact he
    · cases he
  have := h.2.2.2 (i + j) e this
  rwa [show (i + j) * 34 = i * 34 + j * 34 by omega] at this
/-- Event i left out: the two appends. -/
theorem drop_run (N g c c2 i : Nat) (es : List Ev) (w : World) (h : EV w N g es) (hi : i < es.length) (hl : es.length ≤ 900) (ad : Option Addr) (hA : es.length = i + 1 ∨ ad = some ⟨g, (i + 1) * 34, none⟩) :
    ∃ g1 cap1 W1, (Builtin.append_ #[46, 46] 46 #[.slice (some ⟨w.heap.size, 0, none⟩) 0 0, .slice (some ⟨g, 0, none⟩) i c]).run Tryd.prog (w.alloc (.cells #[] 45)) = .ok (.slice (some ⟨g1, 0, none⟩) i cap1) W1 ∧
      ∃ R2 W2, (Builtin.append_ #[46, 46] 46 #[.slice (some ⟨g1, 0, none⟩) i cap1, .slice ad (es.length - (i + 1)) c2]).run Tryd.prog W1 = .ok R2 W2 ∧ RdE W2 R2 (es.take i ++ es.drop (i + 1)) ∧ Below w.heap.size w W2 := by
  have ho : OE (w.alloc (.cells #[] 45)) w.heap.size (.slice (some ⟨w.heap.size, 0, none⟩) 0 0) [] := ⟨rfl, .inr ⟨w.heap.size, 0, #[], rfl, Nat.le_refl _, heap_alloc_new w _, Nat.le_refl _, by simp [maxLen], rfl, rfl⟩⟩
  have hb0 : Below w.heap.size w (w.alloc (.cells #[] 45)) := (Below.refl _ _).alloc (Nat.le_refl _) _
  have hE1 := h.below hb0 h.2.1
  have a1 := hE1.at 0 i
  rw [Nat.zero_mul, List.drop_zero] at a1
  obtain ⟨g1, cap1, W1, r1, o1, k1, n1⟩ := app_oe w.heap.size w.heap.size 0 0 [] (es.take i) (some ⟨g, 0, none⟩) i c _ ho (by rw [List.length_take]; omega) a1 (by simp; omega) (by simp)
  rw [Nat.zero_add] at r1 o1
  rw [List.nil_append] at o1
  have b1 : Below w.heap.size w W1 := Below.grown hb0 k1 (by simp) (fun k hk => by injection hk with hk; omega)
  refine ⟨g1, cap1, W1, r1, ?_⟩
  have hE2 := h.below b1 h.2.1
  have a2 : AT W1 ad (es.drop (i + 1)) := by
    rcases hA with h | rfl
    · intro hne
      exact absurd (List.eq_nil_of_length_eq_zero (by rw [List.length_drop]; omega)) hne
    · have a2 := hE2.at (i + 1) es.length
      rw [List.take_of_length_le (by rw [List.length_drop]; omega)] at a2
      exact a2
  obtain ⟨g2, cap2, W2, r2, o2, k2, n2⟩ := app_oe w.heap.size g1 i cap1 (es.take i) (es.drop (i + 1)) ad (es.length - (i + 1)) c2 W1 o1 (by rw [List.length_drop]) a2 (by rw [List.length_take]; omega) b1.size
  refine ⟨_, W2, r2, o2.rd, Below.grown b1 k2 b1.size (fun k hk => ?_)⟩
  injection hk with hk
  have := (o1.lt g1 (by simp [Value.ownBlock])).1
  omega
/-- The digest of event i replaced. -/
def setD (es : List Ev) (i : Nat) (D : Nat → Int) : List Ev := es.modify i fun e => { e with d := D }
theorem setD_len (es : List Ev) (i : Nat) (D : Nat → Int) : (setD es i D).length = es.length := by simp [setD]
theorem setD_byt {es : List Ev} (i : Nat) {D : Nat → Int} (hD : Byt D) (h : ∀ e ∈ es, Byt e.d) : ∀ e ∈ setD es i D, Byt e.d := by
  intro e he
  obtain ⟨j, hj⟩ := List.mem_iff_getElem?.1 he
  unfold setD at hj
  rw [List.getElem?_modify] at hj
  rcases hx : es[j]? with _ | x
  · rw [hx] at hj; simp at hj
  rw [hx] at hj
  by_cases hij : i = j
  · simp [hij] at hj; subst hj; exact hD
  · simp [hij] at hj; subst hj; exact h _ (List.mem_of_getElem? hx)
end Go.Proofs.YtndbbbkdpjkljaaDoor
