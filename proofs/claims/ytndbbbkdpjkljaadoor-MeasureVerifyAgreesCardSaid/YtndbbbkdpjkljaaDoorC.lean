/- A slice of one-cell elements that the call made, whatever mark its block bears, appended to one element at a time. Condition: sizes. -/
import Derived.Test.YtndbbbkdpjkljaaDoorB
import Derived.ArgAppend
import Derived.Laws.IdiomStrings
import Derived.OwnWalk
namespace Go.Proofs.YtndbbbkdpjkljaaDoor
open Go.RowKit

/-- v is a slice of n elements xs, from block base on; none of its cells is frozen. -/
def SB (w : World) (base e : Nat) (v : Value) (n : Nat) (xs : List Value) : Prop :=
  xs.length = n ∧ ∃ (g cap : Nat) (cur : Array Value) (fr : Nat × Nat), v = .slice (some ⟨g, 0, none⟩) n cap ∧ base ≤ g ∧ w.heap[g]? = some (.cells cur e fr) ∧ n ≤ cap ∧ cap ≤ maxLen ∧ cap ≤ cur.size ∧
    cur.toList.take n = xs ∧ ∀ i, i < cap → ¬ (fr.1 ≤ i ∧ i < fr.2)

section
variable {w w' : World} {base e n : Nat} {v : Value} {xs : List Value}
theorem SB.below {B : Nat} (h : SB w base e v n xs) (hb : Below B w w') (hg : ∀ g, v.ownBlock = some g → g < B) : SB w' base e v n xs := by
  obtain ⟨h1, g, cap, cur, fr, rfl, hbg, hh, r⟩ := h
  exact ⟨h1, g, cap, cur, fr, rfl, hbg, (hb.block g (hg g rfl)).trans hh, r⟩
theorem SB.alloc (h : SB w base e v n xs) (o : Obj) : SB (w.alloc o) base e v n xs := by
  obtain ⟨h1, g, cap, cur, fr, rfl, hbg, hh, r⟩ := h
  exact ⟨h1, g, cap, cur, fr, rfl, hbg, (Below.heap_alloc w o g (heap_lt hh)).trans hh, r⟩
theorem SB.ch {C : Nat → Prop} (h : SB w base e v n xs) (k : Ch C w w') (hg : ∀ g, v.ownBlock = some g → ¬ C g) : SB w' base e v n xs := by
  obtain ⟨h1, g, cap, cur, fr, rfl, hbg, hh, r⟩ := h
  exact ⟨h1, g, cap, cur, fr, rfl, hbg, (k.block g (heap_lt hh) (hg g rfl)).trans hh, r⟩
theorem SB.form (h : SB w base e v n xs) : ∃ g cap, v = .slice (some ⟨g, 0, none⟩) n cap ∧ base ≤ g ∧ g < w.heap.size ∧ n ≤ cap ∧ cap ≤ maxLen ∧ ∀ i u, xs[i]? = some u → w.cell? ⟨g, i, none⟩ = some u := by
  obtain ⟨h1, g, cap, cur, fr, rfl, hbg, hh, h2, h3, h4, h5, h6⟩ := h
  refine ⟨g, cap, rfl, hbg, heap_lt hh, h2, h3, fun i u hu => ?_⟩
  have hi : i < n := by have := (List.getElem?_eq_some_iff.1 hu).1; omega
  rw [cell_of_row w g i cur e fr hh, ← Array.getElem?_toList]
  rw [← h5, List.getElem?_take_of_lt hi] at hu
  exact hu

theorem cells_mark {w : World} {g e i : Nat} {cur : Array Value} {fr : Nat × Nat} (hh : w.heap[g]? = some (.cells cur e fr)) (h : ¬ (fr.1 ≤ i ∧ i < fr.2)) : w.frozen? ⟨g, i, none⟩ = false := by
  simp [World.frozen?, hh]
  intro h1
  rcases Nat.lt_or_ge i fr.2 with h2 | h2
  · exact absurd ⟨h1, h2⟩ h
  · exact h2

theorem SB.push {P : Program} (h : SB w base e v n xs) (t ty : TypeId) (i0 : TypeInfo) (z u : Value) (bytes : Nat) (ht : P.underlying t = some (.slice e)) (hi : P.info? e = some i0) (hz : i0.zero = some z) (hsize : i0.size = 1) (hby : i0.bytes = bytes) (hzs : z.cells.size = 1)
    (a : Addr) (c : Nat) (hu : w.cell? a = some u) (h1 : u.oneCell' = true) (hb : base ≤ w.heap.size) (h63 : n + 1 ≤ maxLen) (hbytes : (n + 1) * bytes ≤ 140737488355328) :
    ∃ v' w', (Builtin.append_ #[t, t] ty #[v, .slice (some a) 1 c]).run P w = .ok v' w' ∧ SB w' base e v' (n + 1) (xs ++ [u]) ∧ Ch (fun b => v.ownBlock = some b) w w' := by
  have hnews : ∀ j x, [u][j]? = some x → w.cell? (a.add j) = some x := by
    intro j x hx
    have hj : j = 0 := by have := (List.getElem?_eq_some_iff.1 hx).1; simpa using this
    subst hj
    simp at hx
    subst hx
    simpa [Addr.add] using hu
  have hF := h.form
  obtain ⟨hl, g, cap, cur, fr, rfl, hbg, hh, h2, h3, h4, h5, h6⟩ := h
  by_cases hroom : n + 1 ≤ cap
  · have hr := run_append_room_cells (P := P) w t ty e i0 ht hi g 0 n cap a 1 c [u] (by rw [hsize]; rfl) hnews (by simpa using h1) hroom
      (fun j hj => by
        have hj : j = 0 := by simpa using hj
        subst hj
        rw [hsize, cell_of_row w g _ cur e fr hh]
        simp; omega)
      (fun j hj => by
        have hj : j = 0 := by simpa using hj
        subst hj
        rw [hsize]
        exact cells_mark hh (h6 _ (by omega)))
    rw [hsize] at hr
    have ew : w.setCells g (0 + n * 1) [u] = w.setCell ⟨g, n, none⟩ u := by
      rw [Nat.mul_one, Nat.zero_add]; rfl
    rw [ew] at hr
    refine ⟨_, _, hr, ⟨by simp [hl], g, cap, cur.setIfInBounds n u, fr, rfl, hbg, ?_, by omega, h3, by simpa using h4, ?_, h6⟩, (Ch.refl (fun b => (Value.slice (some ⟨g, 0, none⟩) n cap).ownBlock = some b) w).setCell (p := ⟨g, n, none⟩) (fun _ => rfl) u⟩
    · simp [World.setCell, Array.getElem?_modify, hh]
    · rw [← h5]
      have hn : n < cur.toList.length := by simp; omega
      rw [Array.toList_setIfInBounds, List.take_succ_eq_append_getElem (by simpa using hn), List.take_set_of_le (Nat.le_refl _)]
      simp
  · obtain ⟨g', cap', e', _, _, _, _, hcells⟩ := hF
    obtain ⟨v', w', hr, ho, hg⟩ := run_append_arg_grows (P := P) w t ty e i0 z 1 bytes ht hi hz hsize hby hzs (by omega) ⟨g, 0, none⟩ n cap xs (by omega)
      (fun j x hx => by
        injection e' with e1 e2
        injection e1 with e1
        have eg : g = g' := congrArg Addr.block e1
        rw [Addr.add_mid, Nat.zero_add, eg]; exact hcells j x hx) a 1 c [u] rfl hnews (by omega) h63 hbytes
    refine ⟨v', w', hr, ?_, Ch.of_grown hg (fun k hk _ => by cases hk)⟩
    obtain ⟨ho1, ⟨_, h0⟩ | ⟨g2, cap2, cur2, hv2, hb2, hh2, hn2, hm2, hs2, ht2⟩⟩ := ho
    · omega
    · exact ⟨by simpa using ho1, g2, cap2, cur2, (0, 0), hv2, by omega, hh2, hn2, hm2, by omega, by simpa using ht2, fun i _ hx => by omega⟩

/-- The append of one element, for the walk. -/
theorem wpList_push {P : Program} {ops : Array Oper} {rest : List Oper} {o : Oper} {a : Act} {Q : Exit → Act → World → Prop} (hgd : o.guard = none) (s x : Operand) (t : TypeId)
    (ho : o.op = .call { callee := .builtin .append, args := #[s, x], argTypes := #[t, t] })
    (i0 : TypeInfo) (z u : Value) (bytes : Nat) (ht : P.underlying t = some (.slice e)) (hi : P.info? e = some i0) (hz : i0.zero = some z) (hsize : i0.size = 1) (hby : i0.bytes = bytes) (hzs : z.cells.size = 1)
    (hs : a.eval s = v) (h : SB w base e v n xs) (ad : Addr) (c : Nat) (hx : a.eval x = .slice (some ad) 1 c) (hu : w.cell? ad = some u) (h1 : u.oneCell' = true) (hb : base ≤ w.heap.size) (h63 : n + 1 ≤ maxLen) (hbytes : (n + 1) * bytes ≤ 140737488355328)
    (hK : ∀ v' w', SB w' base e v' (n + 1) (xs ++ [u]) → Ch (fun b => v.ownBlock = some b) w w' → wpList P ops Q rest (a.put o.dst v') w') : wpList P ops Q (o :: rest) a w := by
  refine wpList_plain hgd fun K hK' => ?_
  obtain ⟨v', w', hrun, r1, r2⟩ := h.push (P := P) t o.type i0 z u bytes ht hi hz hsize hby hzs ad c hu h1 hb h63 hbytes
  unfold Oper.wp
  simp [execOp, ho, resolve, invoke, builtin, hs, hx, hrun, Result.andThen]
  exact hK' _ _ (hK v' w' r1 r2)
end
end Go.Proofs.YtndbbbkdpjkljaaDoor
