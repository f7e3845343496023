/- Depth-first order, plain; append of whole rows. No condition. -/
import Derived.Test.YtedihfcbpgogoaaQ
import Derived.Maps.AppendAt
namespace Go.Proofs.Ytedihfcbpgogoaa
open Go.RowKit
def vis (T : List Fn) : Nat → Int → List Nat
  | 0, _ => []
  | f + 1, p => (kids T p).flatMap fun k => k :: if (fAt T k).br = true then vis T f (k : Int) else []
def visJ (T : List Fn) (f : Nat) (p : Int) (j : Nat) : List Nat := ((kids T p).take j).flatMap fun k => k :: if (fAt T k).br = true then vis T f (k : Int) else []
theorem visJ_succ {T : List Fn} {f : Nat} {p : Int} {j : Nat} (hj : j < (kids T p).length) : visJ T f p (j + 1) = visJ T f p j ++ ((kids T p)[j] :: if (fAt T (kids T p)[j]).br = true then vis T f ((kids T p)[j] : Int) else []) := by
  unfold visJ
  rw [take_at hj, List.flatMap_append]
  simp
theorem visJ_end {T : List Fn} {f : Nat} {p : Int} : visJ T f p (kids T p).length = vis T (f + 1) p := by
  unfold visJ; rw [List.take_length]; rfl
theorem visJ_le (T : List Fn) (f : Nat) (p : Int) (j : Nat) : (visJ T f p j).length ≤ (vis T (f + 1) p).length := by
  rw [← visJ_end]
  unfold visJ
  have h : (kids T p) = (kids T p).take j ++ (kids T p).drop j := (List.take_append_drop j _).symm
  rw [List.take_length]
  conv => rhs; rw [h]
  rw [List.flatMap_append, List.length_append]
  exact Nat.le_add_right _ _
theorem vis_spec {T : List Fn} (V : VT T) : ∀ (f : Nat) (p : Int), (vis T f p).Nodup ∧ ∀ j ∈ vis T f p, Dn T p j := by
  intro f
  induction f with
  | zero => intro p; exact ⟨List.nodup_nil, fun j hj => by cases hj⟩
  | succ f ih =>
    intro p
    have tr : ∀ k, k ∈ kids T p → ∀ j ∈ (k :: if (fAt T k).br = true then vis T f (k : Int) else []), Tr T k j := fun k hk j hj => by
      rcases List.mem_cons.1 hj with rfl | hj
      · exact .inl rfl
      · by_cases hb : (fAt T k).br = true
        · rw [if_pos hb] at hj; exact .inr ((ih (k : Int)).2 j hj)
        · rw [if_neg hb] at hj; cases hj
    constructor
    · unfold vis List.Nodup
      rw [List.pairwise_flatMap]
      constructor
      · intro k hk
        rw [List.pairwise_cons]
        constructor
        · intro j hj e
          subst e
          by_cases hb : (fAt T k).br = true
          · rw [if_pos hb] at hj; have := ((ih (k : Int)).2 k hj).gt V; omega
          · rw [if_neg hb] at hj; cases hj
        · by_cases hb : (fAt T k).br = true
          · rw [if_pos hb]; exact (ih (k : Int)).1
          · rw [if_neg hb]; exact List.Pairwise.nil
      · refine List.Pairwise.imp_of_mem ?_ (kids_nodup V)
        intro k k' hk hk' hne x hx y hy e
        subst e
        have a := (mem_kids V).1 hk
        have b := (mem_kids V).1 hk'
        exact hne ((tr k hk x hx).apart V (tr k' hk' x hy) a.1 b.1 (by rw [a.2, b.2]))
    · intro j hj
      unfold vis at hj
      rw [List.mem_flatMap] at hj
      obtain ⟨k, hk, hj⟩ := hj
      have a := (mem_kids V).1 hk
      exact (tr k hk j hj).dn a.1 a.2
theorem len_lt : ∀ (n : Nat) (l : List Nat), l.Nodup → (∀ x ∈ l, x < n) → l.length ≤ n := by
  intro n
  induction n with
  | zero =>
    intro l _ h
    rcases l with _ | ⟨x, l⟩
    · simp
    · have := h x (by simp); omega
  | succ n ih =>
    intro l hl h
    have h1 := ih (l.erase n) (hl.erase n) (fun x hx => by
      have a := (hl.mem_erase_iff).1 hx
      have := h x a.2
      omega)
    by_cases hm : n ∈ l
    · rw [List.length_erase_of_mem hm] at h1; omega
    · rw [List.erase_of_not_mem hm] at h1; omega
theorem vis_len {T : List Fn} (V : VT T) (f : Nat) (p : Int) : (vis T f p).length ≤ T.length := by
  obtain ⟨h1, h2⟩ := vis_spec V f p
  exact len_lt T.length _ h1 (fun j hj => (h2 j hj).lt)
def toI (l : List Nat) : List Int := l.map fun n : Nat => (n : Int)
theorem toI_app (a b : List Nat) : toI (a ++ b) = toI a ++ toI b := by simp [toI]
theorem toI_len (a : List Nat) : (toI a).length = a.length := by simp [toI]
theorem wpList_append_run {P : Program} {ops : Array Oper} {rest : List Oper} {o : Oper} {a : Act} {Q : Exit → Act → World → Prop} {w w' : World} (hgd : o.guard = none) (s x : Operand) (t : TypeId)
    (ho : o.op = .call { callee := .builtin .append, args := #[s, x], argTypes := #[t, t] }) (v v1 v2 : Value) (hs : a.eval s = v) (hx : a.eval x = v1) (hrun : (Builtin.append_ #[t, t] o.type #[v, v1]).run P w = .ok v2 w')
    (h : wpList P ops Q rest (a.put o.dst v2) w') : wpList P ops Q (o :: rest) a w :=
  wpList_plain hgd fun _ hK => by
    unfold Oper.wp execOp
    simp only [ho, resolve, invoke, builtin, Sem.run_bind, Sem.run_pure, Result.andThen_ok, List.map_toArray, List.map_cons, List.map_nil, hs, hx, hrun]
    exact hK _ _ h
/-- One owned row is appended to another. -/
theorem run_append_rows {P : Program} (w : World) (t ty e : TypeId) (i : TypeInfo) (z : Value) (size bytes : Nat) (ht : P.underlying t = some (.slice e)) (hi : P.info? e = some i) (hz : i.zero = some z)
    (hsize : i.size = size) (hby : i.bytes = bytes) (hzs : z.cells.size = size) (hsz : 0 < size) (v v1 : Value) (n m : Nat) (xs ys : List Value) (hown : w.ownsRow 0 e size v n xs) (hown1 : w.ownsRow 0 e size v1 m ys) (h1 : ∀ u ∈ ys, u.oneCell' = true)
    (h63 : n + m ≤ maxLen) (hbytes : (n + m) * bytes ≤ 140737488355328) :
    ∃ v' w', (Builtin.append_ #[t, t] ty #[v, v1]).run P w = .ok v' w' ∧ w'.ownsRow 0 e size v' (n + m) (xs ++ ys) ∧ w.grownBy w' v.ownBlock ∧ (v'.ownBlock = v.ownBlock ∨ v'.ownBlock = some w.heap.size) := by
  obtain ⟨hl, ⟨rfl, rfl⟩ | ⟨g, cap, cur, rfl, hr⟩⟩ := hown1
  · have hys : ys = [] := List.eq_nil_of_length_eq_zero (by simpa using hl)
    subst hys
    refine ⟨v, w, ?_, by simpa using hown, World.grownBy.refl w _, .inl rfl⟩
    rcases hown.2 with ⟨rfl, rfl⟩ | ⟨g, cap, cur, rfl, _, _, hnc, _⟩
    · simp [Builtin.append_, run_underlying ht, sizeOf, typeInfo, hi, Builtin.lenOf, Builtin.firstCells]
    · simp [Builtin.append_, run_underlying ht, sizeOf, typeInfo, hi, Builtin.lenOf, Builtin.firstCells, hnc, storeCells]
  · have hc := World.ownsRow.cells (w := w) (base := 0) (e := e) (size := size) (v := .slice (some ⟨g, 0, none⟩) m cap) (n := m) (xs := ys) ⟨hl, .inr ⟨g, cap, cur, rfl, hr⟩⟩ (g := g) rfl
    obtain ⟨v', w', hrun, h2, h3, _, h5⟩ := run_append_own_at (P := P) w 0 t ty e i z size bytes ht hi hz hsize hby hzs hsz v n xs hown ⟨g, 0, none⟩ m cap ys hl hc h1 h63 hbytes (Nat.zero_le _)
    exact ⟨v', w', hrun, h2, h3, h5⟩
end Go.Proofs.Ytedihfcbpgogoaa
