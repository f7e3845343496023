/- VarstoreCapacity walked. No condition. -/
import Derived.Test.YtfglopkglnpokaaLC
import Derived.Test.YtfglopkglnpokaaPJ
import Derived.Deep.AppendLies
namespace Go.Proofs.Ytfglopkglnpokaa
open Go.RowKit
def vcf (p : Str × Str) : List Value := [str p.1, str p.2]
/-- Since w: a row v of variables E of the call's own. -/
structure OV (w wr : World) (v : Value) (E : Vars) : Prop where
  row : wr.ownsRow 0 51 2 v E.length (E.flatMap vcf)
  new : ∀ g, v.ownBlock = some g → w.heap.size ≤ g
  bel : Below w.heap.size w wr
theorem vcf_len : ∀ E : Vars, (E.flatMap vcf).length = E.length * 2
  | [] => rfl
  | p :: r => by rw [List.flatMap_cons, List.length_append, vcf_len r, List.length_cons]; show 2 + _ = _; omega
theorem vcf_get : ∀ (E : Vars) (j : Nat), j < E.length → (E.flatMap vcf)[j * 2]? = some (str (E.getD j ([], [])).1) ∧ (E.flatMap vcf)[j * 2 + 1]? = some (str (E.getD j ([], [])).2)
  | [], j, h => by cases h
  | p :: r, 0, _ => ⟨rfl, rfl⟩
  | p :: r, j + 1, h => by
    have ih := vcf_get r j (by simpa using h)
    have e : ((p :: r).flatMap vcf) = str p.1 :: str p.2 :: r.flatMap vcf := rfl
    rw [e, show (j + 1) * 2 = j * 2 + 1 + 1 by omega, show j * 2 + 1 + 1 + 1 = (j * 2 + 1) + 1 + 1 by omega]
    simpa using ih
theorem OV.vs {w wr : World} {v : Value} {E : Vars} (h : OV w wr v E) (hne : E ≠ []) : ∃ g cap, v = .slice (some ⟨g, 0, none⟩) E.length cap ∧ VS wr (some ⟨g, 0, none⟩) cap E ∧ w.heap.size ≤ g := by
  obtain ⟨hrow, hnew, _⟩ := h
  obtain ⟨hl, h1 | ⟨g, cap, cur, rfl, hbg, hh, hn1, hm1, hsz1, ht⟩⟩ := hrow
  · exact absurd (List.eq_nil_of_length_eq_zero h1.2) hne
  · refine ⟨g, cap, rfl, ⟨hn1, hm1, fun _ => ⟨g, rfl, heap_lt hh, fun j hj => ?_⟩⟩, hnew g rfl⟩
    have hk := vcf_get E j hj
    have hget : ∀ q, q < E.length * 2 → wr.cell? ⟨g, q, none⟩ = (E.flatMap vcf)[q]? := fun q hq => by
      rw [cell_of_row wr g q cur _ (0, 0) hh, ← ht, List.getElem?_take_of_lt hq, Array.getElem?_toList]
    rw [hget _ (by omega), hget _ (by omega)]
    exact hk
theorem OV.one {w wr : World} (hb : Below w.heap.size w wr) (ne ve : ByteArray) : OV w (wr.alloc (.cells #[.string ne, .string ve] 51)) (.slice (some ⟨wr.heap.size, 0, none⟩) 1 1) [(ne.data.toList, ve.data.toList)] :=
  ⟨⟨rfl, .inr ⟨wr.heap.size, 1, #[.string ne, .string ve], rfl, Nat.zero_le _, heap_alloc_new wr _, Nat.le_refl _, by decide, rfl, rfl⟩⟩, fun g hg => by
    have : wr.heap.size = g := by simpa [Value.ownBlock] using hg
    have := hb.size; omega, hb.alloc hb.size _⟩
theorem OV.take {w wr w3 : World} {v : Value} {E : Vars} {p : Str × Str} {g cap : Nat} (h : OV w wr v E) {o : Obj}
    (ho : w3.ownsRow 0 51 2 (.slice (some ⟨g, 0, none⟩) (E.length + 1) cap) (E.length + 1) (E.flatMap vcf ++ vcf p)) (hg3 : (wr.alloc o).grownBy w3 v.ownBlock) (hat : v.ownBlock = some g ∨ g = wr.heap.size + 1) :
    OV w w3 (.slice (some ⟨g, 0, none⟩) (E.length + 1) cap) (E ++ [p]) := by
  have a := h.bel
  refine ⟨?_, fun k hk => ?_, Below.grown (a.alloc a.size _) hg3 (by have := a.size; simp; omega) (fun k hk => h.new k hk)⟩
  · rw [List.length_append, List.flatMap_append]; exact ho
  · have e : g = k := by simpa [Value.ownBlock] using hk
    subst e
    rcases hat with h1 | h1
    · exact h.new g h1
    · have := a.size; omega
theorem OV.below {w wr w' : World} {v : Value} {E : Vars} (h : OV w wr v E) (b : Below wr.heap.size wr w') : OV w w' v E := by
  obtain ⟨⟨hl, hrow⟩, hn, hb⟩ := h
  refine ⟨⟨hl, ?_⟩, hn, hb.trans (b.mono hb.size)⟩
  rcases hrow with h1 | ⟨g, cap, cur, rfl, hbg, hh, r⟩
  · exact .inl h1
  · exact .inr ⟨g, cap, cur, rfl, hbg, (b.block g (heap_lt hh)).trans hh, r⟩
theorem delV_take {V : Vars} {k : Nat} (n : Str) (h : k < V.length) : delV (V.take (k + 1)) n = if (V.getD k ([], [])).1 = n then delV (V.take k) n else delV (V.take k) n ++ [V.getD k ([], [])] := by
  have e : V.getD k ([], []) = V[k] := by rw [List.getD_eq_getElem?_getD, List.getElem?_eq_getElem h]; rfl
  unfold delV
  rw [List.take_succ_eq_append_getElem h, List.filter_append, e]
  by_cases hc : V[k].1 = n
  · have hb : (V[k].1 == n) = true := by simpa using hc
    rw [if_pos hc, List.filter_cons, hb]; simp
  · have hb : (V[k].1 == n) = false := by simpa using hc
    rw [if_neg hc, List.filter_cons, hb]; simp
theorem vcf_one (p : Str × Str) : ∀ u ∈ vcf p, u.oneCell' = true := fun u hu => by
  rcases List.mem_cons.1 hu with e | hu
  · rw [e]; rfl
  · rw [List.mem_singleton.1 hu]; rfl
theorem OV.ch {w5 w6 : World} {gv n cv : Nat} {o : Obj} (hg : (w5.alloc o).grownBy w6 (Value.slice (some ⟨gv, 0, none⟩) n cv).ownBlock) : Ch (fun x => x = gv) w5 w6 :=
  (Ch.alloc (Ch.refl (fun x => x = gv) w5) _).trans (Ch.of_grown hg fun x hx _ => by
    have : gv = x := by simpa [Value.ownBlock] using hx
    exact this.symm)
theorem OV.push {w wr : World} {v : Value} {E : Vars} (h : OV w wr v E) (ke ve : ByteArray) :
    (∀ j u, (vcf (ke.data.toList, ve.data.toList))[j]? = some u → (wr.alloc (.cells #[.string ke, .string ve] 51)).cell? ((⟨wr.heap.size, 0, none⟩ : Addr).add j) = some u) ∧
    (wr.alloc (.cells #[.string ke, .string ve] 51)).ownsRow 0 51 2 v E.length (E.flatMap vcf) := by
  refine ⟨fun j u hj => ?_, (h.below ((Below.refl _ wr).alloc (Nat.le_refl _) _)).row⟩
  match j, hj with
  | 0, hj => injection hj with hj; rw [← hj]; exact cell_of_row _ _ 0 _ _ (0, 0) (heap_alloc_new wr _)
  | 1, hj => injection hj with hj; rw [← hj]; exact cell_of_row _ _ 1 _ _ (0, 0) (heap_alloc_new wr _)
/-- A call of Set or Delete later: only old blocks of flash and store, and new ones, change. -/
theorem AT.doB {w wy : World} {N S X n : Nat} {y : FLay} {D : Nat → Prop} {fl : FL} {st : ST} (h : AT w N S X y D n fl st) (b : Below w.heap.size w wy) (hb : st.blk < fl.B) (hn : n < 1000) (c : CV) :
    Calls Try.prog 13 #[fptr S, cva c] wy fun e w' => e = .returned (.int .i64 (doC fl st c).1) ∧ AT w' N S X y D (n + 1) (doC fl st c).2.1 (doC fl st c).2.2 ∧ Ch (fun k => N ≤ k ∧ k < w.heap.size) wy w' := by
  obtain ⟨DS, m, h1, h2, h3⟩ := h.s
  refine (do_any (h1.below b) (h.f.below b) h2 hb hn c.kd c.nm c.ln c.fi).mono ?_
  rintro e w' ⟨he, k1, k2, D', m', k3, k4⟩
  refine ⟨he, ⟨k1, h.dN, D', m', k4, fun i hi hD => ?_, fun i hi => ?_⟩, k2.mono fun i hi _ => hi.elim (fun k => ⟨h.dN i k, h.f.fin i k⟩) (fun k => ⟨h3 i k, h1.fin i k⟩)⟩
  · rcases k3 i hD with e | e
    · exact h2 i hi e
    · have := h.f.fin i hi; have := b.size; omega
  · rcases k3 i hi with e | e
    · exact h3 i e
    · have := h.N_le; have := b.size; omega
end Go.Proofs.Ytfglopkglnpokaa
