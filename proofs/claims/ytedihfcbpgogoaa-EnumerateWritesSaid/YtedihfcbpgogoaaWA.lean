/- Configuration accesses: plain; write; rows under way beside children. No condition. -/
import Derived.Test.YtedihfcbpgogoaaBA
namespace Go.Proofs.Ytedihfcbpgogoaa
open Go.RowKit
/-- A write of one byte: function, offset, value. -/
structure CO where
  fn : Int
  off : Int
  va : Int
def cO (x : CO) : List Value := [.int .i64 x.fn, .int .i64 x.off, .int .i64 1, .bool true, .int .u64 x.va]
theorem cO_len (x : CO) : (cO x).length = 5 := rfl
def u6 (v : Int) : Int := IntKind.u64.wrap v
def w3 (b : Nat → BN) (k : Nat) : List CO := [⟨(k : Int), 24, u6 (b k).bu⟩, ⟨(k : Int), 25, u6 (b k).se⟩, ⟨(k : Int), 26, 255⟩]
def w1' (b : Nat → BN) (k : Nat) : List CO := [⟨(k : Int), 26, u6 (b k).su⟩]
def wrt (T : List Fn) (b : Nat → BN) : Nat → Int → List CO
  | 0, _ => []
  | f + 1, p => (kids T p).flatMap fun k => if (fAt T k).br = true then w3 b k ++ wrt T b f (k : Int) ++ w1' b k else []
def wrtJ (T : List Fn) (b : Nat → BN) (f : Nat) (p : Int) (j : Nat) : List CO := ((kids T p).take j).flatMap fun k => if (fAt T k).br = true then w3 b k ++ wrt T b f (k : Int) ++ w1' b k else []
theorem wrtJ_succ {T : List Fn} {b : Nat → BN} {f : Nat} {p : Int} {j : Nat} (hj : j < (kids T p).length) : wrtJ T b f p (j + 1) = wrtJ T b f p j ++ (if (fAt T (kids T p)[j]).br = true then w3 b (kids T p)[j] ++ wrt T b f ((kids T p)[j] : Int) ++ w1' b (kids T p)[j] else []) := by
  unfold wrtJ
  rw [take_at hj, List.flatMap_append]
  simp
theorem wrtJ_end {T : List Fn} {b : Nat → BN} {f : Nat} {p : Int} : wrtJ T b f p (kids T p).length = wrt T b (f + 1) p := by
  unfold wrtJ; rw [List.take_length]; rfl
theorem wrtJ_le (T : List Fn) (b : Nat → BN) (f : Nat) (p : Int) (j : Nat) : (wrtJ T b f p j).length ≤ (wrt T b (f + 1) p).length := by
  rw [← wrtJ_end]
  unfold wrtJ
  have h : (kids T p) = (kids T p).take j ++ (kids T p).drop j := (List.take_append_drop j _).symm
  rw [List.take_length]
  conv => rhs; rw [h]
  rw [List.flatMap_append, List.length_append]
  exact Nat.le_add_right _ _
theorem wrt_vis (T : List Fn) (b : Nat → BN) : ∀ (f : Nat) (p : Int), (wrt T b f p).length ≤ 4 * (vis T f p).length := by
  intro f
  induction f with
  | zero => intro p; simp [wrt]
  | succ f ih =>
    intro p
    unfold wrt vis
    generalize kids T p = l
    induction l with
    | nil => simp
    | cons k l ihl =>
      rw [List.flatMap_cons, List.flatMap_cons, List.length_append, List.length_append, Nat.mul_add]
      refine Nat.add_le_add ?_ ihl
      by_cases hb : (fAt T k).br = true
      · rw [if_pos hb, if_pos hb]
        have := ih (k : Int)
        simp only [List.length_append, List.length_cons, w3, w1', List.length_nil]
        omega
      · rw [if_neg hb]; simp
theorem wrt_len {T : List Fn} (V : VT T) (b : Nat → BN) (f : Nat) (p : Int) : (wrt T b f p).length ≤ 4 * T.length := by
  have h1 := wrt_vis T b f p
  have h2 := vis_len V f p
  omega
theorem write_any (fn off v : Int) (w : World) : Calls Try.prog 47 #[.int .i64 fn, .int .i64 off, .int .i64 v] w fun e w' => e = .returned (.agg #[.int .i64 fn, .int .i64 off, .int .i64 1, .bool true, .int .u64 (u6 v)]) ∧ Below w.heap.size w w' := by
  go_enter Try.func47, Try.ntmps47
  go_wp2
  exact bodyPost_ret (v := .agg #[.int .i64 fn, .int .i64 off, .int .i64 1, .bool true, .int .u64 (u6 v)]) (by simp [results, Try.results47, go_sem, u6]) rfl ⟨rfl, (Below.refl _ _).alloc (Nat.le_refl _) _⟩
/-- A row under way beside a row of children. -/
structure VG {α : Type} (cf : α → List Value) (e sz : Nat) (w0 w wr : World) (v vr : Value) (E : List α) (vk : Value) (K : List Int) : Prop where
  ow : OG cf e sz w0 wr vr E
  row : IR wr vk K
  ne : ∀ g, vk.ownBlock = some g → vr.ownBlock ≠ some g
  ch : Ch (fun k => v.ownBlock = some k) w wr
  far : Far w v vr
section
variable {α : Type} {cf : α → List Value} {e sz : Nat} {w0 w wr w' : World} {v vr v2 vk : Value} {E E2 N : List α} {K : List Int}
theorem VG.step (h : VG cf e sz w0 w wr v vr E vk K) (o : OG cf e sz w0 w' v2 E2) (c : Ch (fun k => vr.ownBlock = some k) wr w') (f : Far wr vr v2) : VG cf e sz w0 w w' v v2 E2 vk K where
  ow := o
  row := h.row.ch c (fun g hg => h.ne g hg)
  ne g hg e := by
    rcases f g e with h1 | h1
    · exact h.ne g hg h1
    · have := h.row.lt g hg; omega
  ch := h.ch.andThen c (fun i hi hl => by
    rcases h.far i hi with h1 | h1
    · exact h1
    · omega)
  far g hg := by
    rcases f g hg with h1 | h1
    · exact h.far g h1
    · have := h.ch.size; exact .inr (by omega)
theorem OG.lt (h : OG cf e sz w0 wr v E) : ∀ g, v.ownBlock = some g → g < wr.heap.size := fun g hg => (World.ownsRow.lt h.row g hg).2
/-- Any append onto the row. -/
theorem OG.app {m : Nat} {news : List Value} (h : OG cf e sz w0 wr v E) (ho : w'.ownsRow 0 e sz v2 (E.length + m) (E.flatMap cf ++ news)) (hg : wr.grownBy w' v.ownBlock) (hat : v2.ownBlock = v.ownBlock ∨ v2.ownBlock = some wr.heap.size) (hN : N.flatMap cf = news) (hm : N.length = m) :
    OG cf e sz w0 w' v2 (E ++ N) ∧ Ch (fun k => v.ownBlock = some k) wr w' ∧ Far wr v v2 := by
  have a := h.bel
  refine ⟨⟨?_, fun k hk => ?_, Below.grown a hg a.size (fun k hk => h.new k hk)⟩, Ch.of_grown hg (C := fun k => v.ownBlock = some k) (fun _ hk _ => hk), fun k hk => ?_⟩
  · rw [List.length_append, List.flatMap_append, hN, hm]; exact ho
  · rcases hat with h1 | h1
    · exact h.new k (by rw [← h1, hk])
    · rw [h1] at hk
      injection hk with hk
      have := a.size; omega
  · rcases hat with h1 | h1
    · exact .inl (by rw [← h1, hk])
    · rw [h1] at hk
      injection hk with hk
      exact .inr (by omega)
theorem VG.below (h : VG cf e sz w0 w wr v vr E vk K) (hb : Below wr.heap.size wr w') : VG cf e sz w0 w w' v vr E vk K :=
  h.step (h.ow.step hb) (Ch.of_below hb _) (fun _ hg => .inl hg)
/-- A literal block is appended. -/
theorem VG.lit {cs : List Value} {g cap m : Nat} (h : VG cf e sz w0 w wr v vr E vk K) {o : Obj} (ho : w'.ownsRow 0 e sz (.slice (some ⟨g, 0, none⟩) (E.length + m) cap) (E.length + m) (E.flatMap cf ++ cs)) (hg : (wr.alloc o).grownBy w' vr.ownBlock) (hat : vr.ownBlock = some g ∨ g = wr.heap.size + 1) (hN : N.flatMap cf = cs) (hm : N.length = m) :
    VG cf e sz w0 w w' v (.slice (some ⟨g, 0, none⟩) (E.length + m) cap) (E ++ N) vk K := by
  have h1 := h.below ((Below.refl wr.heap.size wr).alloc (Nat.le_refl _) o)
  obtain ⟨a, b, c⟩ := h1.ow.app (v2 := .slice (some ⟨g, 0, none⟩) (E.length + m) cap) (N := N) ho hg (hat.imp (fun e => by rw [e]; rfl) (fun e => by subst e; simp [Value.ownBlock])) hN hm
  exact h1.step a b c
end
theorem step_append_run {P : Program} {ops : Array Oper} {o : Oper} {a : Act} {K : Act → World → Prop} {Q : Exit → Act → World → Prop} {E : Prop} {w w' : World} (hgd : o.guard = none) (s x : Operand) (t : TypeId)
    (ho : o.op = .call { callee := .builtin .append, args := #[s, x], argTypes := #[t, t] }) (v v1 v2 : Value) (hs : a.eval s = v) (hx : a.eval x = v1) (hrun : (Builtin.append_ #[t, t] o.type #[v, v1]).run P w = .ok v2 w')
    (h : K (a.put o.dst v2) w') : if Region.wanted o (yielded ops a.tmps) = true then Oper.wp P o a w K Q else E := by
  have hw : Region.wanted o (yielded ops a.tmps) = true := by simp [Region.wanted, hgd]
  rw [if_pos hw]
  unfold Oper.wp execOp
  simp only [ho, resolve, invoke, builtin, Sem.run_bind, Sem.run_pure, Result.andThen_ok, List.map_toArray, List.map_cons, List.map_nil, hs, hx, hrun]
  exact h
theorem Try.info44 : (Try.prog.info? 44).map (fun i => (i.zero, i.size, i.bytes)) = some (some (.agg #[.int .i64 0, .int .i64 0, .int .i64 0, .bool false, .int .u64 0]), 5, 40) := by kernel_rfl
end Go.Proofs.Ytedihfcbpgogoaa
