/- The reference in memory; its find, Status, Owner. Conditions: those that each theorem names. -/
import Derived.Deep.AppendLies
import Derived.Test.YtefgfmnnaglfmaaY3
namespace Go.Proofs.Ytefgfmnnaglfmaa
open Go.RowKit
/-- A lock of the reference; v: its queue's slice. -/
structure RL where
  id : Int
  mx : Bool
  lv : Int
  od : Bool
  ow : Int
  ct : Int
  q : List Int
  v : Value
structure RT where
  th : Int
  st : Int
  ob : Int
  li : Bool
  dl : Int
def lcf (x : RL) : List Value := [.int .i64 x.id, .bool x.mx, .int .i64 x.lv, .bool x.od, .int .i64 x.ow, .int .i64 x.ct, x.v]
def tcf (x : RT) : List Value := [.int .i64 x.th, .int .i64 x.st, .int .i64 x.ob, .bool x.li, .int .u64 x.dl]
theorem Try.info92 : (Try.prog.info? 92).map (fun i => (i.zero, i.size, i.bytes)) = some (some (.agg #[.int .i64 0, .int .i64 0, .int .i64 0, .bool false, .int .u64 0]), 5, 40) := by kernel_rfl
theorem Try.info88 : (Try.prog.info? 88).map (fun i => (i.zero, i.size, i.bytes)) = some (some (.agg #[.int .i64 0, .bool false, .int .i64 0, .bool false, .int .i64 0, .int .i64 0, .slice none 0 0]), 7, 72) := by kernel_rfl
section
variable {α : Type} {f : α → List Value} {k : Nat}
theorem flat_len (hk : ∀ x, (f x).length = k) : ∀ l : List α, (l.flatMap f).length = l.length * k
  | [] => by simp
  | x :: r => by rw [List.flatMap_cons, List.length_append, hk, flat_len hk r, List.length_cons, Nat.succ_mul]; omega
theorem flat_get (hk : ∀ x, (f x).length = k) {j : Nat} (hj : j < k) : ∀ (l : List α) (i : Nat) (x : α), l[i]? = some x → (l.flatMap f)[i * k + j]? = (f x)[j]?
  | [], i, x, h => by simp at h
  | y :: r, 0, x, h => by
    have : y = x := by simpa using h
    subst this
    rw [List.flatMap_cons, List.getElem?_append_left (by rw [hk]; omega), Nat.zero_mul, Nat.zero_add]
  | y :: r, i + 1, x, h => by
    have h' : r[i]? = some x := by simpa using h
    rw [List.flatMap_cons, List.getElem?_append_right (by rw [hk, Nat.succ_mul]; omega), hk, show (i + 1) * k + j - k = i * k + j by rw [Nat.succ_mul]; omega]
    exact flat_get hk hj r i x h'
theorem flat_set (hk : ∀ x, (f x).length = k) {j : Nat} (hj : j < k) {u : Value} {x' : α} : ∀ (l : List α) (i : Nat) (x : α), l[i]? = some x → f x' = (f x).set j u → (l.flatMap f).set (i * k + j) u = (l.set i x').flatMap f
  | [], i, x, h, _ => by simp at h
  | y :: r, 0, x, h, e => by
    have : y = x := by simpa using h
    subst this
    rw [List.set_cons_zero, List.flatMap_cons, List.flatMap_cons, e, Nat.zero_mul, Nat.zero_add, List.set_append_left _ _ (by rw [hk]; exact hj)]
  | y :: r, i + 1, x, h, e => by
    have h' : r[i]? = some x := by simpa using h
    rw [List.set_cons_succ, List.flatMap_cons, List.flatMap_cons, List.set_append_right _ _ (by rw [hk, Nat.succ_mul]; omega), hk, show (i + 1) * k + j - k = i * k + j by rw [Nat.succ_mul]; omega, flat_set hk hj r i x h' e]
theorem flat_take (hk : ∀ x, (f x).length = k) : ∀ (l : List α) (i : Nat), (l.flatMap f).take (i * k) = (l.take i).flatMap f
  | [], i => by simp
  | y :: r, 0 => by simp
  | y :: r, i + 1 => by
    rw [List.take_succ_cons, List.flatMap_cons, List.flatMap_cons, List.take_append, hk, List.take_of_length_le (by rw [hk, Nat.succ_mul]; omega), show (i + 1) * k - k = i * k by rw [Nat.succ_mul]; omega, flat_take hk r i]
theorem flat_drop (hk : ∀ x, (f x).length = k) : ∀ (l : List α) (i : Nat), (l.flatMap f).drop (i * k) = (l.drop i).flatMap f
  | [], i => by simp
  | y :: r, 0 => by simp
  | y :: r, i + 1 => by
    rw [List.drop_succ_cons, List.flatMap_cons, List.drop_append, hk, List.drop_of_length_le (by rw [hk, Nat.succ_mul]; omega), show (i + 1) * k - k = i * k by rw [Nat.succ_mul]; omega, flat_drop hk r i]
    rfl
end
theorem lcf_len (x : RL) : (lcf x).length = 7 := rfl
theorem tcf_len (x : RT) : (tcf x).length = 5 := rfl
/-- Block b holds cells of type t. -/
def TY (w : World) (b t : Nat) : Prop := ∃ cs fr, w.heap[b]? = some (.cells cs t fr)
theorem TY.ne {w : World} {b c t u : Nat} (h : TY w b t) (k : TY w c u) (hn : t ≠ u) : b ≠ c := fun e => by
  obtain ⟨_, _, h1⟩ := h
  obtain ⟨_, _, h2⟩ := k
  rw [e, h2] at h1
  injection h1 with h1
  injection h1 with _ h1
  exact hn h1.symm
theorem TY.lt {w : World} {b t : Nat} (h : TY w b t) : b < w.heap.size := by obtain ⟨_, _, h1⟩ := h; exact heap_lt h1
theorem own_ty {w : World} {t sz n g : Nat} {v : Value} {xs : List Value} (h : w.ownsRow 0 t sz v n xs) (e : v.ownBlock = some g) : TY w g t := by
  rcases h.2 with ⟨rfl, _⟩ | ⟨g', cap, cur, rfl, _, hh, _⟩
  · cases e
  · have e : g' = g := by simpa [Value.ownBlock] using e
    subst e
    exact ⟨_, _, hh⟩
/-- The value is a slice that reads q. -/
def QV (w : World) (v : Value) (q : List Int) : Prop := ∃ a cap, v = .slice a q.length cap ∧ q.length ≤ cap ∧ cap ≤ maxLen ∧ (∀ b, v.ownBlock = some b → TY w b 3) ∧ (q ≠ [] → ∃ b o, a = some ⟨b, o, none⟩ ∧ ∀ j, j < q.length → w.cell? ⟨b, o + j, none⟩ = some (.int .i64 (q.getD j 0)))
theorem QV.nil (w : World) : QV w (.slice none 0 0) [] := ⟨none, 0, rfl, Nat.le_refl _, by unfold maxLen; omega, (fun b h => by cases h), fun h => absurd rfl h⟩
theorem QV.ch {C : Nat → Prop} {w w' : World} {v : Value} {q : List Int} (h : QV w v q) (c : Ch C w w') (hC : ∀ b, v.ownBlock = some b → ¬ C b) : QV w' v q := by
  obtain ⟨a, cap, rfl, h1, h2, h3, h4⟩ := h
  refine ⟨a, cap, rfl, h1, h2, fun b hb => ?_, fun hq => ?_⟩
  · obtain ⟨cs, fr, h5⟩ := h3 b hb
    exact ⟨cs, fr, (c.block b (heap_lt h5) (hC b hb)).trans h5⟩
  · obtain ⟨b, o, rfl, h5⟩ := h4 hq
    exact ⟨b, o, rfl, fun j hj => (c.cell (p := ⟨b, o + j, none⟩) (h3 b rfl).lt (hC b rfl)).trans (h5 j hj)⟩
def xcf (vl vw : Value) (j : Nat) : Value := if j = 0 then vl else vw
/-- The reference's locks lie at X. -/
structure RM (w : World) (D : Nat → Prop) (X : Nat) (vl vw : Value) (M : List RL) (W : List RT) : Prop where
  top : Row w X 77 2 (xcf vl vw)
  rl : w.ownsRow 0 88 7 vl M.length (M.flatMap lcf)
  rw : w.ownsRow 0 92 5 vw W.length (W.flatMap tcf)
  dX : D X
  dl : ∀ g, vl.ownBlock = some g → D g
  dw : ∀ g, vw.ownBlock = some g → D g
  q : ∀ x ∈ M, QV w x.v x.q ∧ ∀ b, x.v.ownBlock = some b → D b
  fin : ∀ k, D k → k < w.heap.size
theorem own_set {w : World} {t sz n g : Nat} {v : Value} {xs : List Value} (h : w.ownsRow 0 t sz v n xs) (e : v.ownBlock = some g) (i : Nat) (u : Value) : (w.setCell ⟨g, i, none⟩ u).ownsRow 0 t sz v n (xs.set i u) := by
  obtain ⟨h1, h2⟩ := h
  refine ⟨by rw [List.length_set]; exact h1, ?_⟩
  rcases h2 with ⟨rfl, _⟩ | ⟨g', cap, cur, rfl, h3, hh, h4, h5, h6, h7⟩
  · cases e
  · have e : g' = g := by simpa [Value.ownBlock] using e
    subst e
    refine .inr ⟨g', cap, _, rfl, h3, heap_set hh u, h4, h5, by simpa using h6, ?_⟩
    rw [Array.toList_setIfInBounds, List.take_set, h7]
theorem own_form {w : World} {t sz n : Nat} {v : Value} {xs : List Value} (h : w.ownsRow 0 t sz v n xs) : ∃ a cap, v = .slice a n cap ∧ n ≤ cap ∧ cap ≤ maxLen ∧ (0 < n → ∃ g, a = some ⟨g, 0, none⟩ ∧ g < w.heap.size ∧ (∀ i u, xs[i]? = some u → w.cell? ⟨g, i, none⟩ = some u) ∧ ∀ i, w.frozen? ⟨g, i, none⟩ = false) := by
  obtain ⟨hl, ⟨rfl, rfl⟩ | ⟨g, cap, cur, rfl, h3, hh, h4, h5, h6, h7⟩⟩ := h
  · exact ⟨none, 0, rfl, Nat.le_refl _, by unfold maxLen; omega, fun h => by omega⟩
  · refine ⟨_, cap, rfl, h4, h5, fun _ => ⟨g, rfl, heap_lt hh, fun i u hu => ?_, fun i => by simp [World.frozen?, hh]⟩⟩
    rw [cell_of_row w g i cur t (0, 0) hh, ← Array.getElem?_toList]
    rw [← h7, List.getElem?_take] at hu
    split at hu
    · exact hu
    · cases hu
section
variable {w w' : World} {D : Nat → Prop} {X : Nat} {vl vw : Value} {M : List RL} {W : List RT}
theorem RM.ch {C : Nat → Prop} (h : RM w D X vl vw M W) (c : Ch C w w') (hC : ∀ k, D k → ¬ C k) : RM w' D X vl vw M W :=
  ⟨h.top.ch c (hC _ h.dX), own_ch h.rl c (fun g e => hC g (h.dl g e)), own_ch h.rw c (fun g e => hC g (h.dw g e)), h.dX, h.dl, h.dw, fun x hx => ⟨(h.q x hx).1.ch c (fun b e => hC b ((h.q x hx).2 b e)), (h.q x hx).2⟩, fun k hk => Nat.lt_of_lt_of_le (h.fin k hk) c.size⟩
theorem RM.below (h : RM w D X vl vw M W) (b : Below w.heap.size w w') : RM w' D X vl vw M W := h.ch (Ch.of_below b (fun _ => False)) (fun _ _ h => h)
theorem RM.drew (h : RM w D X vl vw M W) : RM w.drew D X vl vw M W := h.below ((Below.refl _ _).drew)
theorem RM.c0 (h : RM w D X vl vw M W) : w.cell? ⟨X, 0, none⟩ = some vl := Row.cell h.top (i := 0) (by omega)
theorem RM.c1 (h : RM w D X vl vw M W) : w.cell? ⟨X, 1, none⟩ = some vw := Row.cell h.top (i := 1) (by omega)
theorem RM.fl (h : RM w D X vl vw M W) : ∃ a cap, vl = .slice a M.length cap ∧ M.length ≤ cap ∧ cap ≤ maxLen := by obtain ⟨a, cap, h1, h2, h3, _⟩ := own_form h.rl; exact ⟨a, cap, h1, h2, h3⟩
theorem RM.fw (h : RM w D X vl vw M W) : ∃ a cap, vw = .slice a W.length cap ∧ W.length ≤ cap ∧ cap ≤ maxLen := by obtain ⟨a, cap, h1, h2, h3, _⟩ := own_form h.rw; exact ⟨a, cap, h1, h2, h3⟩
/-- Lock i. -/
theorem RM.gl (h : RM w D X vl vw M W) {i : Nat} {x : RL} (hx : M[i]? = some x) : ∃ g cap, vl = .slice (some ⟨g, 0, none⟩) M.length cap ∧ M.length ≤ cap ∧ cap ≤ maxLen ∧ g < w.heap.size ∧ D g ∧
    w.cell? ⟨g, i * 7, none⟩ = some (.int .i64 x.id) ∧ w.cell? ⟨g, i * 7 + 1, none⟩ = some (.bool x.mx) ∧ w.cell? ⟨g, i * 7 + 2, none⟩ = some (.int .i64 x.lv) ∧ w.cell? ⟨g, i * 7 + 3, none⟩ = some (.bool x.od) ∧
    w.cell? ⟨g, i * 7 + 4, none⟩ = some (.int .i64 x.ow) ∧ w.cell? ⟨g, i * 7 + 5, none⟩ = some (.int .i64 x.ct) ∧ w.cell? ⟨g, i * 7 + 6, none⟩ = some x.v ∧ ∀ j, w.frozen? ⟨g, j, none⟩ = false := by
  obtain ⟨a, cap, e, h1, h2, h3⟩ := own_form h.rl
  obtain ⟨hi, _⟩ := List.getElem?_eq_some_iff.1 hx
  obtain ⟨g, rfl, hg, hc, hf⟩ := h3 (by omega)
  have hj : ∀ j u, j < 7 → (lcf x)[j]? = some u → w.cell? ⟨g, i * 7 + j, none⟩ = some u := fun j u h7 hu => hc _ u (by rw [flat_get lcf_len h7 M i x hx, hu])
  exact ⟨g, cap, e, h1, h2, hg, h.dl g (by rw [e]; rfl), hj 0 _ (by omega) rfl, hj 1 _ (by omega) rfl, hj 2 _ (by omega) rfl, hj 3 _ (by omega) rfl, hj 4 _ (by omega) rfl, hj 5 _ (by omega) rfl, hj 6 _ (by omega) rfl, hf⟩
/-- Thread i. -/
theorem RM.gt (h : RM w D X vl vw M W) {i : Nat} {x : RT} (hx : W[i]? = some x) : ∃ g cap, vw = .slice (some ⟨g, 0, none⟩) W.length cap ∧ W.length ≤ cap ∧ cap ≤ maxLen ∧ g < w.heap.size ∧ D g ∧
    w.cell? ⟨g, i * 5, none⟩ = some (.int .i64 x.th) ∧ w.cell? ⟨g, i * 5 + 1, none⟩ = some (.int .i64 x.st) ∧ w.cell? ⟨g, i * 5 + 2, none⟩ = some (.int .i64 x.ob) ∧ w.cell? ⟨g, i * 5 + 3, none⟩ = some (.bool x.li) ∧
    w.cell? ⟨g, i * 5 + 4, none⟩ = some (.int .u64 x.dl) ∧ ∀ j, w.frozen? ⟨g, j, none⟩ = false := by
  obtain ⟨a, cap, e, h1, h2, h3⟩ := own_form h.rw
  obtain ⟨hi, _⟩ := List.getElem?_eq_some_iff.1 hx
  obtain ⟨g, rfl, hg, hc, hf⟩ := h3 (by omega)
  have hj : ∀ j u, j < 5 → (tcf x)[j]? = some u → w.cell? ⟨g, i * 5 + j, none⟩ = some u := fun j u h7 hu => hc _ u (by rw [flat_get tcf_len h7 W i x hx, hu])
  exact ⟨g, cap, e, h1, h2, hg, h.dw g (by rw [e]; rfl), hj 0 _ (by omega) rfl, hj 1 _ (by omega) rfl, hj 2 _ (by omega) rfl, hj 3 _ (by omega) rfl, hj 4 _ (by omega) rfl, hf⟩
theorem RM.tyX (h : RM w D X vl vw M W) : TY w X 77 := by obtain ⟨cs, hh, _⟩ := h.top; exact ⟨cs, _, hh⟩
/-- A field of lock i. -/
theorem RM.setL (h : RM w D X vl vw M W) {i g cap j : Nat} {x x' : RL} {u : Value} (e : vl = .slice (some ⟨g, 0, none⟩) M.length cap) (hx : M[i]? = some x) (hj : j < 7) (hu : lcf x' = (lcf x).set j u) (hq : QV w x'.v x'.q ∧ ∀ b, x'.v.ownBlock = some b → D b) :
    RM (w.setCell ⟨g, i * 7 + j, none⟩ u) D X vl vw (M.set i x') W := by
  obtain ⟨hi, _⟩ := List.getElem?_eq_some_iff.1 hx
  have eo : vl.ownBlock = some g := by rw [e]; rfl
  have c : Ch (fun k => k = g) w (w.setCell ⟨g, i * 7 + j, none⟩ u) := (Ch.refl (fun k => k = g) w).setCell (p := ⟨g, i * 7 + j, none⟩) (fun _ => rfl) u
  have ty := own_ty h.rl eo
  have hs := own_set h.rl eo (i * 7 + j) u
  rw [flat_set lcf_len hj M i x hx hu] at hs
  have hqc : ∀ z : RL, QV w z.v z.q → QV (w.setCell ⟨g, i * 7 + j, none⟩ u) z.v z.q := fun z hz => hz.ch c fun b hb => by
    obtain ⟨a, cp, h1, _, _, h3, _⟩ := hz
    exact (h3 b hb).ne ty (by omega)
  refine ⟨h.top.ch c (h.tyX.ne ty (by omega)), by rw [List.length_set]; exact hs, own_ch h.rw c (fun k hk => (own_ty h.rw hk).ne ty (by omega)), h.dX, h.dl, h.dw, fun z hz => ?_, fun k hk => Nat.lt_of_lt_of_le (h.fin k hk) c.size⟩
  rcases List.mem_or_eq_of_mem_set hz with hz | rfl
  · exact ⟨hqc z (h.q z hz).1, (h.q z hz).2⟩
  · exact ⟨hqc _ hq.1, hq.2⟩
/-- A field of thread i. -/
theorem RM.setT (h : RM w D X vl vw M W) {i g cap j : Nat} {x x' : RT} {u : Value} (e : vw = .slice (some ⟨g, 0, none⟩) W.length cap) (hx : W[i]? = some x) (hj : j < 5) (hu : tcf x' = (tcf x).set j u) :
    RM (w.setCell ⟨g, i * 5 + j, none⟩ u) D X vl vw M (W.set i x') := by
  obtain ⟨hi, _⟩ := List.getElem?_eq_some_iff.1 hx
  have eo : vw.ownBlock = some g := by rw [e]; rfl
  have c : Ch (fun k => k = g) w (w.setCell ⟨g, i * 5 + j, none⟩ u) := (Ch.refl (fun k => k = g) w).setCell (p := ⟨g, i * 5 + j, none⟩) (fun _ => rfl) u
  have ty := own_ty h.rw eo
  have hs := own_set h.rw eo (i * 5 + j) u
  rw [flat_set tcf_len hj W i x hx hu] at hs
  refine ⟨h.top.ch c (h.tyX.ne ty (by omega)), own_ch h.rl c (fun k hk => (own_ty h.rl hk).ne ty (by omega)), by rw [List.length_set]; exact hs, h.dX, h.dl, h.dw, fun z hz => ⟨(h.q z hz).1.ch c fun b hb => ?_, (h.q z hz).2⟩, fun k hk => Nat.lt_of_lt_of_le (h.fin k hk) c.size⟩
  obtain ⟨a, cp, h1, _, _, h3, _⟩ := (h.q z hz).1
  exact (h3 b hb).ne ty (by omega)
end
/-- What the reference's locks say of the objects. -/
structure RO (M : List RL) (s : LK) : Prop where
  nd : (M.map (·.id)).Nodup
  is : ∀ x ∈ M, s.o x.id = some ⟨x.mx, x.lv, x.ow, x.ct, x.q⟩ ∧ x.od = (x.mx && decide (0 < x.ct))
  all : ∀ i, (s.o i).isSome = true → ∃ x ∈ M, x.id = i
/-- What its threads say. -/
structure RH (W : List RT) (s : LK) : Prop where
  nd : (W.map (·.th)).Nodup
  is : ∀ x ∈ W, x.st = stat s x.th ∧ (x.st = 2 → (stT s x.th).en = !x.li ∧ (stT s x.th).dl = x.dl)
  all : ∀ i, stat s i ≠ 0 → ∃ x ∈ W, x.th = i
/-- The reference's locks lie at X in state s. -/
def RK (w : World) (D : Nat → Prop) (X n : Nat) (s : LK) : Prop := ∃ vl vw M W, RM w D X vl vw M W ∧ M.length ≤ n ∧ W.length ≤ n ∧ RO M s ∧ RH W s
section
variable {w w' : World} {D : Nat → Prop} {X n : Nat} {s : LK}
theorem RK.ch {C : Nat → Prop} (h : RK w D X n s) (c : Ch C w w') (hC : ∀ k, D k → ¬ C k) : RK w' D X n s := by
  obtain ⟨vl, vw, M, W, h1, h2⟩ := h
  exact ⟨vl, vw, M, W, h1.ch c hC, h2⟩
theorem RK.below (h : RK w D X n s) (b : Below w.heap.size w w') : RK w' D X n s := h.ch (Ch.of_below b (fun _ => False)) (fun _ _ h => h)
end
/-- Behind a call of the reference. -/
def RP (w : World) (D : Nat → Prop) (X n : Nat) (s : LK) (w' : World) : Prop := ∃ D', RK w' D' X n s ∧ Ch D w w' ∧ ∀ k, D' k → D k ∨ (w.heap.size ≤ k ∧ k < w'.heap.size)
end Go.Proofs.Ytefgfmnnaglfmaa
namespace Go.Proofs.Ytefgfmnnaglfmaa
open Go.RowKit
section
variable {w w' : World} {D : Nat → Prop} {X n : Nat} {s : LK} {vl vw : Value} {M : List RL} {W : List RT}
set_option maxHeartbeats 1000000 in
theorem rfind_any (h : RM w D X vl vw M W) (hn : M.length ≤ 1000000) (id : Int) :
    Calls Try.prog 62 #[ptr X, .int .i64 id] w fun e w' => w = w' ∧ ((∃ i x, M[i]? = some x ∧ x.id = id ∧ e = .returned (.int .i64 (i : Nat))) ∨ (e = .returned (.int .i64 (-1)) ∧ ∀ x ∈ M, x.id ≠ id)) := by
  have c0 := h.c0
  obtain ⟨al, cap, rfl, hc1, hc2⟩ := h.fl
  obtain ⟨L, hL⟩ : ∃ L, M.length = L := ⟨_, rfl⟩
  have H := Lib.hid h
  have HL := Lib.hid hL
  rw [hL] at c0 hc1 hn
  unfold maxLen at hc2
  clear h hL
  go_enter Try.func62, Try.ntmps62
  go_wp2_with fail
  go_loop [5] (fun z => ∃ i : Nat, i ≤ L ∧ z = .int .i64 (i : Int) ∧ Hid (∀ j x, j < i → M[j]? = some x → x.id ≠ id)) (fun z => L - (intOf z).toNat)
  case atStart => exact ⟨0, by omega, rfl, fun j x hj => by omega⟩
  case round =>
    obtain ⟨i, hi, rfl, HJ⟩ := hrel
    by_cases hlt : i < L
    · have y0 : (i : Int) < L := by omega
      obtain ⟨x, hx⟩ : ∃ x, M[i]? = some x := ⟨_, List.getElem?_eq_getElem (by rw [HL.out]; exact hlt)⟩
      obtain ⟨g, cp, e, _, _, _, _, d0, _⟩ := H.out.gl hx
      injection e with e1 e2 e3
      subst e1
      have HX := Lib.hid hx
      clear hx e2 e3
      by_cases heq : x.id = id
      · have hd : (x.id == id) = true := by simpa using heq
        have HE := Lib.hid heq
        clear heq
        go_wp2_with fail
        go_ret
        exact ⟨rfl, .inl ⟨i, x, HX.out, HE.out, rfl⟩⟩
      · have hd : (x.id == id) = false := by simpa using heq
        have HJ2 : Hid (∀ j x, j < i + 1 → M[j]? = some x → x.id ≠ id) := fun j z hj hz => by
          rcases (by omega : j < i ∨ j = i) with h1 | h1
          · exact HJ.out j z h1 hz
          · rw [h1, HX.out] at hz; injection hz with hz; rw [← hz]; exact heq
        go_wp2_with fail
        go_round
        case rel => exact ⟨i + 1, by omega, by go_num, HJ2⟩
        case measure => simp [intOf]; omega
    · have y0 : ¬ (i : Int) < L := by omega
      have HF : Hid (∀ x ∈ M, x.id ≠ id) := fun x hx => by
        obtain ⟨j, hj⟩ := List.mem_iff_getElem?.1 hx
        obtain ⟨h1, _⟩ := List.getElem?_eq_some_iff.1 hj
        exact HJ.out j x (by have := HL.out; omega) hj
      go_wp2_with fail
      go_ret
      exact ⟨rfl, .inr ⟨rfl, HF.out⟩⟩
set_option maxHeartbeats 1000000 in
theorem rstatus_any (h : RM w D X vl vw M W) (hr : RH W s) (hn : W.length ≤ 1000000) (t : Int) :
    Calls Try.prog 54 #[ptr X, .int .i64 t] w fun e w' => e = .returned (.int .i64 (stat s t)) ∧ w = w' := by
  have c1 := h.c1
  obtain ⟨al, cap, rfl, hc1, hc2⟩ := h.fw
  obtain ⟨L, hL⟩ : ∃ L, W.length = L := ⟨_, rfl⟩
  have H := Lib.hid h
  have HL := Lib.hid hL
  have HR := Lib.hid hr
  rw [hL] at c1 hc1 hn
  unfold maxLen at hc2
  clear h hL hr
  go_enter Try.func54, Try.ntmps54
  go_wp2_with fail
  go_loop [5] (fun z => ∃ i : Nat, i ≤ L ∧ z = .int .i64 (i : Int) ∧ Hid (∀ j x, j < i → W[j]? = some x → x.th ≠ t)) (fun z => L - (intOf z).toNat)
  case atStart => exact ⟨0, by omega, rfl, fun j x hj => by omega⟩
  case round =>
    obtain ⟨i, hi, rfl, HJ⟩ := hrel
    by_cases hlt : i < L
    · have y0 : (i : Int) < L := by omega
      obtain ⟨x, hx⟩ : ∃ x, W[i]? = some x := ⟨_, List.getElem?_eq_getElem (by rw [HL.out]; exact hlt)⟩
      obtain ⟨g, cp, e, _, _, _, _, d0, d1, _⟩ := H.out.gt hx
      injection e with e1 e2 e3
      subst e1
      have HX := Lib.hid hx
      clear hx e2 e3
      by_cases heq : x.th = t
      · have hd : (x.th == t) = true := by simpa using heq
        have HE : Hid (x.st = stat s t) := by show _ = _; rw [(HR.out.is x (List.mem_of_getElem? HX.out)).1, heq]
        clear heq
        go_wp2_with fail
        go_ret
        rw [HE.out]
        exact ⟨rfl, rfl⟩
      · have hd : (x.th == t) = false := by simpa using heq
        have HJ2 : Hid (∀ j x, j < i + 1 → W[j]? = some x → x.th ≠ t) := fun j z hj hz => by
          rcases (by omega : j < i ∨ j = i) with h1 | h1
          · exact HJ.out j z h1 hz
          · rw [h1, HX.out] at hz; injection hz with hz; rw [← hz]; exact heq
        go_wp2_with fail
        go_round
        case rel => exact ⟨i + 1, by omega, by go_num, HJ2⟩
        case measure => simp [intOf]; omega
    · have y0 : ¬ (i : Int) < L := by omega
      have HF : Hid (stat s t = 0) := by
        refine Classical.byContradiction fun hne => ?_
        obtain ⟨x, hx, e⟩ := HR.out.all t hne
        obtain ⟨j, hj⟩ := List.mem_iff_getElem?.1 hx
        obtain ⟨h1, _⟩ := List.getElem?_eq_some_iff.1 hj
        exact HJ.out j x (by have := HL.out; omega) hj e
      go_wp2_with fail
      go_ret
      rw [HF.out]
      exact ⟨rfl, rfl⟩
/-- What thread leaves: the thread's place, and the list with it. -/
def thrW (W : List RT) (t : Int) : List RT := if (W.any fun x => x.th == t) = true then W else W ++ [⟨t, 0, 0, false, 0⟩]
theorem RM.pushW {w3 : World} {g cap : Nat} (h : RM w D X vl vw M W) (x : RT) (ho : w3.ownsRow 0 92 5 (.slice (some ⟨g, 0, none⟩) (W.length + 1) cap) (W.length + 1) (W.flatMap tcf ++ tcf x)) (hg3 : w.grownBy w3 vw.ownBlock) (hat : vw.ownBlock = some g ∨ w.heap.size ≤ g) (hlt : g < w3.heap.size) :
    RM (w3.setCell ⟨X, 1, none⟩ (.slice (some ⟨g, 0, none⟩) (W.length + 1) cap)) (fun k => D k ∨ k = g) X vl (.slice (some ⟨g, 0, none⟩) (W.length + 1) cap) M (W ++ [x]) ∧ Ch D w (w3.setCell ⟨X, 1, none⟩ (.slice (some ⟨g, 0, none⟩) (W.length + 1) cap)) ∧ w3.cell? ⟨X, 1, none⟩ = some vw ∧ w3.frozen? ⟨X, 1, none⟩ = false := by
  have c1 : Ch (fun k => vw.ownBlock = some k) w w3 := Ch.of_grown hg3 fun _ hx _ => hx
  have c2 : Ch (fun k => k = X) w3 (w3.setCell ⟨X, 1, none⟩ (.slice (some ⟨g, 0, none⟩) (W.length + 1) cap)) := (Ch.refl (fun k => k = X) w3).setCell (p := ⟨X, 1, none⟩) (fun _ => rfl) _
  have hXl : ¬ vw.ownBlock = some X := fun e => (own_ty h.rw e).ne h.tyX (by omega) rfl
  have top3 : Row w3 X 77 2 (xcf vl vw) := h.top.ch c1 hXl
  have tyX3 : TY w3 X 77 := by obtain ⟨cs, hh, _⟩ := top3; exact ⟨cs, _, hh⟩
  have tyg : TY w3 g 92 := own_ty ho rfl
  have rl3 : w3.ownsRow 0 88 7 vl M.length (M.flatMap lcf) := own_ch h.rl c1 (fun k hk e => (own_ty h.rl hk).ne (own_ty h.rw e) (by omega) rfl)
  refine ⟨⟨(top3.set (i := 1) (by omega) _).congr fun j hj => ?_, own_ch rl3 c2 (fun k hk => (own_ty rl3 hk).ne tyX3 (by omega)), ?_, .inl h.dX, fun k hk => .inl (h.dl k hk), fun k hk => ?_, fun z hz => ⟨((h.q z hz).1.ch c1 fun b hb e => ?_).ch c2 fun b hb => ?_, fun b hb => .inl ((h.q z hz).2 b hb)⟩, ?_⟩, ?_, Row.cell top3 (i := 1) (by omega), Row.frozen top3 1⟩
  · rcases (by omega : j = 0 ∨ j = 1) with rfl | rfl <;> simp [upd, xcf]
  · rw [List.length_append, List.flatMap_append]
    exact own_ch (by simpa using ho) c2 (fun k hk => by
      have e : g = k := by simpa [Value.ownBlock] using hk
      subst e
      exact tyg.ne tyX3 (by omega))
  · have e : g = k := by simpa [Value.ownBlock] using hk
    exact .inr e.symm
  · obtain ⟨a, cp, _, _, _, h3, _⟩ := (h.q z hz).1
    exact (h3 b hb).ne (own_ty h.rw e) (by omega) rfl
  · obtain ⟨a, cp, _, _, _, h3, _⟩ := (h.q z hz).1.ch c1 (w' := w3) fun b hb e => by
      obtain ⟨a, cp, _, _, _, h3, _⟩ := (h.q z hz).1
      exact (h3 b hb).ne (own_ty h.rw e) (by omega) rfl
    exact (h3 b hb).ne tyX3 (by omega)
  · rintro k (hk | rfl)
    · exact Nat.lt_of_lt_of_le (h.fin k hk) (Nat.le_trans c1.size c2.size)
    · exact Nat.lt_of_lt_of_le hlt c2.size
  · exact (c1.mono fun k hk _ => h.dw k hk).trans (c2.mono fun k hk _ => by rw [hk]; exact h.dX)
theorem thr_yes {t : Int} {i : Nat} {x : RT} (hx : W[i]? = some x) (e : x.th = t) : thrW W t = W := by
  unfold thrW
  rw [if_pos (List.any_eq_true.2 ⟨x, List.mem_of_getElem? hx, by simpa using e⟩)]
theorem thr_no {t : Int} (h : ∀ x ∈ W, x.th ≠ t) : thrW W t = W ++ [⟨t, 0, 0, false, 0⟩] := by
  unfold thrW
  rw [if_neg]
  intro e
  obtain ⟨x, hx, hp⟩ := List.any_eq_true.1 e
  exact h x hx (by simpa using hp)
/-- Behind thread. -/
def THP (w : World) (D : Nat → Prop) (X : Nat) (vl : Value) (M : List RL) (W : List RT) (t : Int) (e : Ending) (w' : World) : Prop :=
  ∃ g cap i x D', e = .returned (.pointer (some ⟨g, i * 5, none⟩)) ∧ (thrW W t)[i]? = some x ∧ x.th = t ∧ RM w' D' X vl (.slice (some ⟨g, 0, none⟩) (thrW W t).length cap) M (thrW W t) ∧ Ch D w w' ∧ ∀ k, D' k → D k ∨ (w.heap.size ≤ k ∧ k < w'.heap.size)
set_option maxRecDepth 100000 in
set_option maxHeartbeats 2000000 in
theorem rthread_any (h : RM w D X vl vw M W) (hn : W.length ≤ 100000) (t : Int) :
    Calls Try.prog 65 #[ptr X, .int .i64 t] w fun e w' => THP w D X vl M W t e w' := by
  obtain ⟨i0, hi0, hx0, hx1, hx2⟩ := info_parts Try.info92
  have c1 := h.c1
  obtain ⟨al, cap, e, hc1, hc2⟩ := h.fw
  obtain ⟨L, hL⟩ : ∃ L, W.length = L := ⟨_, rfl⟩
  have H := Lib.hid h
  have HL := Lib.hid hL
  have HE := Lib.hid e
  rw [e, hL] at c1
  rw [hL] at hc1 hn
  unfold maxLen at hc2
  clear h hL e
  go_enter Try.func65, Try.ntmps65
  go_wp2_with fail
  go_loop [5] (fun z => ∃ i : Nat, i ≤ L ∧ z = .int .i64 (i : Int) ∧ Hid (∀ j x, j < i → W[j]? = some x → x.th ≠ t)) (fun z => L - (intOf z).toNat)
  case atStart => exact ⟨0, by omega, rfl, fun j x hj => by omega⟩
  case round =>
    obtain ⟨i, hi, rfl, HJ⟩ := hrel
    by_cases hlt : i < L
    · have y0 : (i : Int) < L := by omega
      obtain ⟨x, hx⟩ : ∃ x, W[i]? = some x := ⟨_, List.getElem?_eq_getElem (by rw [HL.out]; exact hlt)⟩
      obtain ⟨g, cp, e, _, _, _, _, d0, d1, _⟩ := H.out.gt hx
      rw [HE.out] at e
      injection e with e1 e2 e3
      subst e1
      have HX := Lib.hid hx
      clear hx e2 e3
      by_cases heq : x.th = t
      · have hd : (x.th == t) = true := by simpa using heq
        have HQ := Lib.hid heq
        clear heq
        go_wp2_with fail
        go_ret
        refine ⟨g, cap, i, x, D, rfl, ?_, HQ.out, ?_, Ch.refl _ _, fun k hk => .inl hk⟩
        · rw [thr_yes HX.out HQ.out]; exact HX.out
        · rw [thr_yes HX.out HQ.out]
          have := H.out
          rw [HE.out] at this
          exact this
      · have hd : (x.th == t) = false := by simpa using heq
        have HJ2 : Hid (∀ j x, j < i + 1 → W[j]? = some x → x.th ≠ t) := fun j z hj hz => by
          rcases (by omega : j < i ∨ j = i) with h1 | h1
          · exact HJ.out j z h1 hz
          · rw [h1, HX.out] at hz; injection hz with hz; rw [← hz]; exact heq
        go_wp2_with fail
        go_round
        case rel => exact ⟨i + 1, by omega, by go_num, HJ2⟩
        case measure => simp [intOf]; omega
    · have y0 : ¬ (i : Int) < L := by omega
      have HF : Hid (∀ x ∈ W, x.th ≠ t) := fun x hx => by
        obtain ⟨j, hj⟩ := List.mem_iff_getElem?.1 hx
        obtain ⟨h1, _⟩ := List.getElem?_eq_some_iff.1 hj
        exact HJ.out j x (by have := HL.out; omega) hj
      have HM1 : Hid (RM (w.alloc (.cells #[.int .i64 t, .int .i64 0, .int .i64 0, .bool false, .int .u64 0] 92)) D X vl vw M W) := H.out.below ((Below.refl _ _).alloc (Nat.le_refl _) _)
      have HO : Hid ((w.alloc (.cells #[.int .i64 t, .int .i64 0, .int .i64 0, .bool false, .int .u64 0] 92)).ownsRow 0 92 5 (.slice al L cap) L (W.flatMap tcf)) := by
        have := HM1.out.rw
        rw [HE.out, HL.out] at this
        exact this
      have HN : Hid (∀ j u, (tcf ⟨t, 0, 0, false, 0⟩)[j]? = some u → (w.alloc (.cells #[.int .i64 t, .int .i64 0, .int .i64 0, .bool false, .int .u64 0] 92)).cell? ((⟨w.heap.size, 0, none⟩ : Addr).add j) = some u) := World.news_of_block (heap_alloc_new w _)
      clear HJ
      go_upto_region 6 with fail
      go_wp2_with (at_builtin; refine wpList_append_lies _ rfl _ _ 75 rfl 0 92 i0 _ 5 40 Try.underlying75 hi0 hx0 hx1 hx2 rfl (by omega) (.slice al L cap) L (W.flatMap tcf) rfl (by exact HO.out) ⟨w.heap.size, 0, none⟩ 1 1 (tcf ⟨t, 0, 0, false, 0⟩) rfl rfl (by exact HN.out) (by simp [tcf, Value.oneCell']) (by omega) (by simp only [maxLen]; omega) (by omega) (Nat.zero_le _) (w.heap.size + 1) (by simp) ?_)
      intro g cap2 w6 ho hg hat hlt
      have hsz : (w.alloc (.cells #[.int .i64 t, .int .i64 0, .int .i64 0, .bool false, .int .u64 0] 92)).heap.size = w.heap.size + 1 := by simp
      have hpu := HM1.out.pushW (g := g) (cap := cap2) ⟨t, 0, 0, false, 0⟩ (by rw [HL.out]; exact ho) (by rw [HE.out, HL.out]; exact hg) (by rw [HE.out, HL.out]; rcases hat with h | h; exact .inl h; exact .inr (by rw [hsz]; omega)) hlt
      rw [HL.out] at hpu
      obtain ⟨hM7, hC7, c6, f6⟩ := hpu
      rw [HE.out, HL.out] at c6
      have HM7 := Lib.hid hM7
      have HC7 := Lib.hid hC7
      have HAT := Lib.hid hat
      clear ho hg hM7 hC7 hat hlt HO HN HM1 hsz c1
      go_wp2_with fail
      have HC8 : Hid (Ch D w (w6.setCell ⟨X, 1, none⟩ (.slice (some ⟨g, 0, none⟩) (L + 1) cap2))) := ((Ch.refl D w).alloc _).trans HC7.out
      have c7 := HM7.out.c1
      have hw : IntKind.i64.wrap ((L : Int) + 1 - 1) = L := by rw [show (L : Int) + 1 - 1 = L by omega]; exact IntWalk.i64_in _ ⟨by omega, by omega⟩
      generalize w6.setCell ⟨X, 1, none⟩ (.slice (some ⟨g, 0, none⟩) (L + 1) cap2) = w7 at *
      go_quiet (fail)
      go_wp2_with fail
      go_ret
      have eT : thrW W t = W ++ [⟨t, 0, 0, false, 0⟩] := thr_no HF.out
      have eL : (thrW W t).length = L + 1 := by rw [eT, List.length_append, HL.out]; rfl
      refine ⟨g, cap2, L, ⟨t, 0, 0, false, 0⟩, fun k => D k ∨ k = g, rfl, ?_, rfl, ?_, HC8.out.trans (Ch.refl _ _ |>.drewN _), ?_⟩
      · rw [eT, List.getElem?_append_right (by rw [HL.out]; exact Nat.le_refl _), HL.out, Nat.sub_self]; rfl
      · rw [eL, eT]; exact HM7.out.ch ((Ch.refl (fun _ => False) _).drewN _) (fun _ _ h => h)
      · rintro k (hk | rfl)
        · exact .inl hk
        · rcases HAT.out with h1 | h1
          · exact .inl (H.out.dw k (by rw [HE.out, HL.out]; exact h1))
          · exact .inr ⟨by omega, by have := HM7.out.fin k (.inr rfl); exact this⟩
end
end Go.Proofs.Ytefgfmnnaglfmaa
namespace Go.Proofs.Ytefgfmnnaglfmaa
open Go.RowKit
/-- What holds of every state that a law reaches. -/
structure SI (s : LK) : Prop where
  hd : ∀ i id, id ∈ (stT s i).hd ↔ ∃ x, s.o id = some x ∧ x.mx = true ∧ 0 < x.ct ∧ x.ow = i
  hn : ∀ i, (stT s i).hd.Nodup
  qn : ∀ id x, s.o id = some x → x.q.Nodup
  qs : ∀ id x, s.o id = some x → ∀ t, t ∈ x.q → (stT s t).st = 2 ∧ (stT s t).ob = id
  sq : ∀ t, (stT s t).st = 2 → ∃ x, s.o (stT s t).ob = some x ∧ t ∈ x.q
  q0 : ∀ id x, s.o id = some x → x.mx = true → x.ct = 0 → x.q = []
  ct : ∀ id x, s.o id = some x → 0 ≤ x.ct ∧ x.ct ≤ 255
  lv : ∀ id x, s.o id = some x → 0 ≤ x.lv ∧ x.lv ≤ 15
  ti : ∀ i, (s.t i).isSome = true → 0 ≤ i ∧ i < 4
  oi : ∀ i, (s.o i).isSome = true → 0 ≤ i ∧ i < 6
def RL.ob (x : RL) : Ob := ⟨x.mx, x.lv, x.ow, x.ct, x.q⟩
section
variable {α β : Type} {l : List α} {f : α → β} {i j : Nat} {x y : α}
theorem nodup_at (h : (l.map f).Nodup) (hx : l[i]? = some x) (hy : l[j]? = some y) (e : f x = f y) : i = j := by
  obtain ⟨hi, _⟩ := List.getElem?_eq_some_iff.1 hx
  have h1 : (l.map f)[i]? = (l.map f)[j]? := by rw [List.getElem?_map, List.getElem?_map, hx, hy]; show some _ = some _; rw [e]
  exact (List.getElem?_inj (by simpa using hi) h).1 h1
theorem nodup_set (h : (l.map f).Nodup) (hx : l[i]? = some x) (e : f y = f x) : ((l.set i y).map f).Nodup := by
  rw [List.map_set]
  have : (l.map f).set i (f y) = l.map f := by
    apply List.ext_getElem?
    intro k
    rw [List.getElem?_set]
    split
    · subst_vars
      obtain ⟨hi, _⟩ := List.getElem?_eq_some_iff.1 hx
      rw [if_pos (by simpa using hi), List.getElem?_map, hx, e]; rfl
    · rfl
  rw [this]; exact h
theorem mem_set_at (hx : l[i]? = some x) (h : (l.map f).Nodup) {z : α} (hz : z ∈ l.set i y) : (z = y) ∨ (z ∈ l ∧ f z ≠ f x) := by
  obtain ⟨k, hk⟩ := List.mem_iff_getElem?.1 hz
  rw [List.getElem?_set] at hk
  split at hk
  · obtain ⟨hi, _⟩ := List.getElem?_eq_some_iff.1 hx
    rw [if_pos (by omega)] at hk
    injection hk with hk
    exact .inl hk.symm
  · rename_i hne
    exact .inr ⟨List.mem_of_getElem? hk, fun e => hne (nodup_at h hx hk e.symm)⟩
end
section
variable {s s' : LK} {M : List RL} {W : List RT} {i : Nat} {x x' : RL}
theorem RO.at (h : RO M s) (hx : M[i]? = some x) : s.o x.id = some x.ob := (h.is x (List.mem_of_getElem? hx)).1
theorem RO.od (h : RO M s) (hx : M[i]? = some x) : x.od = (x.mx && decide (0 < x.ct)) := (h.is x (List.mem_of_getElem? hx)).2
theorem RO.no (h : RO M s) {id : Int} (hx : ∀ x ∈ M, x.id ≠ id) : s.o id = none := by
  rcases e : s.o id with _ | y
  · rfl
  · obtain ⟨x, h1, h2⟩ := h.all id (by rw [e]; rfl)
    exact absurd h2 (hx x h1)
theorem RO.congr (h : RO M s) (e : s'.o = s.o) : RO M s' := ⟨h.nd, fun x hx => by rw [e]; exact h.is x hx, fun i hi => h.all i (by rw [← e]; exact hi)⟩
theorem RO.set (h : RO M s) (hx : M[i]? = some x) (e : x'.id = x.id) (ho : x'.od = (x'.mx && decide (0 < x'.ct))) (e' : s'.o = (s.setO x.id (some x'.ob)).o) : RO (M.set i x') s' := by
  refine ⟨nodup_set h.nd hx e, fun z hz => ?_, fun k hk => ?_⟩
  · rw [e']
    rcases mem_set_at (f := (·.id)) hx h.nd hz with rfl | ⟨h1, h2⟩
    · exact ⟨by rw [e]; simp [LK.setO]; rfl, ho⟩
    · exact ⟨by simp only [LK.setO]; rw [if_neg h2]; exact (h.is z h1).1, (h.is z h1).2⟩
  · rw [e'] at hk
    obtain ⟨hi, _⟩ := List.getElem?_eq_some_iff.1 hx
    by_cases e1 : k = x.id
    · exact ⟨x', List.mem_iff_getElem?.2 ⟨i, by rw [List.getElem?_set, if_pos rfl, if_pos hi]⟩, by rw [e, e1]⟩
    · obtain ⟨z, h1, h2⟩ := h.all k (by simpa [LK.setO, e1] using hk)
      obtain ⟨j, hj⟩ := List.mem_iff_getElem?.1 h1
      exact ⟨z, List.mem_iff_getElem?.2 ⟨j, by rw [List.getElem?_set, if_neg (fun e2 => e1 (by rw [← h2]; rw [← e2, hx] at hj; injection hj with hj; rw [hj])), hj]⟩, h2⟩
theorem RO.push (h : RO M s) (hn : s.o x.id = none) (ho : x.od = (x.mx && decide (0 < x.ct))) (e' : s'.o = (s.setO x.id (some x.ob)).o) : RO (M ++ [x]) s' := by
  have hni : ∀ z ∈ M, z.id ≠ x.id := fun z hz e => by have := (h.is z hz).1; rw [e, hn] at this; cases this
  refine ⟨?_, fun z hz => ?_, fun k hk => ?_⟩
  · rw [List.map_append, List.nodup_append]
    exact ⟨h.nd, by simp, fun a ha b hb e => by
      obtain ⟨z, hz, rfl⟩ := List.mem_map.1 ha
      have : b = x.id := by simpa using hb
      exact hni z hz (e.trans this)⟩
  · rw [e']
    rcases List.mem_append.1 hz with hz | hz
    · exact ⟨by simp only [LK.setO]; rw [if_neg (hni z hz)]; exact (h.is z hz).1, (h.is z hz).2⟩
    · have : z = x := by simpa using hz
      subst this
      exact ⟨by simp [LK.setO]; rfl, ho⟩
  · rw [e'] at hk
    by_cases e1 : k = x.id
    · exact ⟨x, by simp, e1.symm⟩
    · obtain ⟨z, h1, h2⟩ := h.all k (by simpa [LK.setO, e1] using hk)
      exact ⟨z, List.mem_append_left _ h1, h2⟩
theorem RO.erase (h : RO M s) (hx : M[i]? = some x) (e' : s'.o = (s.setO x.id none).o) : RO (M.eraseIdx i) s' := by
  have hsub : ∀ z ∈ M.eraseIdx i, z ∈ M ∧ z.id ≠ x.id := fun z hz => by
    obtain ⟨k, hk, hz⟩ := List.mem_eraseIdx_iff_getElem?.1 hz
    exact ⟨List.mem_of_getElem? hz, fun e => hk (nodup_at (f := (·.id)) h.nd hz hx e)⟩
  refine ⟨?_, fun z hz => ?_, fun k hk => ?_⟩
  · exact h.nd.sublist ((List.eraseIdx_sublist M i).map _)
  · rw [e']
    obtain ⟨h1, h2⟩ := hsub z hz
    exact ⟨by simp only [LK.setO]; rw [if_neg h2]; exact (h.is z h1).1, (h.is z h1).2⟩
  · rw [e'] at hk
    by_cases e1 : k = x.id
    · simp [LK.setO, e1] at hk
    · obtain ⟨z, h1, h2⟩ := h.all k (by simpa [LK.setO, e1] using hk)
      obtain ⟨j, hj⟩ := List.mem_iff_getElem?.1 h1
      exact ⟨z, List.mem_eraseIdx_iff_getElem?.2 ⟨j, fun e2 => e1 (by rw [← h2]; rw [e2, hx] at hj; injection hj with hj; rw [hj]), hj⟩, h2⟩
theorem RH.congr (h : RH W s) (e : ∀ t, (stT s' t).st = (stT s t).st ∧ ((stT s t).st = 2 → (stT s' t).en = (stT s t).en ∧ (stT s' t).dl = (stT s t).dl)) : RH W s' := by
  refine ⟨h.nd, fun x hx => ⟨?_, fun h2 => ?_⟩, fun i hi => h.all i ?_⟩
  · rw [stat_eq, (e _).1, ← stat_eq]; exact (h.is x hx).1
  · have h3 : (stT s x.th).st = 2 := by rw [← stat_eq, ← (h.is x hx).1]; exact h2
    rw [((e _).2 h3).1, ((e _).2 h3).2]; exact (h.is x hx).2 h2
  · rw [stat_eq, ← (e _).1, ← stat_eq]; exact hi
theorem RH.thr (h : RH W s) (t : Int) : RH (thrW W t) s := by
  by_cases hx : ∀ x ∈ W, x.th ≠ t
  · rw [thr_no hx]
    have h0 : stat s t = 0 := by
      refine Classical.byContradiction fun hne => ?_
      obtain ⟨x, h1, h2⟩ := h.all t hne
      exact hx x h1 h2
    refine ⟨?_, fun z hz => ?_, fun i hi => ?_⟩
    · rw [List.map_append, List.nodup_append]
      exact ⟨h.nd, by simp, fun a ha b hb e => by
        obtain ⟨z, hz, rfl⟩ := List.mem_map.1 ha
        have : b = t := by simpa using hb
        exact hx z hz (e.trans this)⟩
    · rcases List.mem_append.1 hz with hz | hz
      · exact h.is z hz
      · have : z = ⟨t, 0, 0, false, 0⟩ := by simpa using hz
        subst this
        exact ⟨h0.symm, fun h2 => by cases h2⟩
    · obtain ⟨z, h1, h2⟩ := h.all i hi
      exact ⟨z, List.mem_append_left _ h1, h2⟩
  · obtain ⟨x, h1⟩ := Classical.not_forall.1 hx
    obtain ⟨h2, h3⟩ := Classical.not_imp.1 h1
    obtain ⟨k, hk⟩ := List.mem_iff_getElem?.1 h2
    rw [thr_yes hk (Classical.not_not.1 h3)]
    exact h
theorem RH.set {y y' : RT} (h : RH W s) (hx : W[i]? = some y) (e : y'.th = y.th) (e1 : ∀ t, t ≠ y.th → stT s' t = stT s t) (e2 : (stT s' y.th).st = y'.st) (e3 : y'.st = 2 → (stT s' y.th).en = !y'.li ∧ (stT s' y.th).dl = y'.dl) : RH (W.set i y') s' := by
  obtain ⟨hi, _⟩ := List.getElem?_eq_some_iff.1 hx
  refine ⟨nodup_set h.nd hx e, fun z hz => ?_, fun k hk => ?_⟩
  · rcases mem_set_at (f := (·.th)) hx h.nd hz with rfl | ⟨h1, h2⟩
    · rw [e, stat_eq]; exact ⟨e2.symm, e3⟩
    · rw [stat_eq, e1 _ h2, ← stat_eq]; exact h.is z h1
  · by_cases e4 : k = y.th
    · exact ⟨y', List.mem_iff_getElem?.2 ⟨i, by rw [List.getElem?_set, if_pos rfl, if_pos hi]⟩, by rw [e, e4]⟩
    · obtain ⟨z, h1, h2⟩ := h.all k (by rw [stat_eq, ← e1 _ e4, ← stat_eq]; exact hk)
      obtain ⟨j, hj⟩ := List.mem_iff_getElem?.1 h1
      exact ⟨z, List.mem_iff_getElem?.2 ⟨j, by rw [List.getElem?_set, if_neg (fun e2 => e4 (by rw [← h2]; rw [← e2, hx] at hj; injection hj with hj; rw [hj])), hj]⟩, h2⟩
theorem thr_len (W : List RT) (t : Int) : (thrW W t).length ≤ W.length + 1 := by
  unfold thrW
  split
  · omega
  · simp
end
section
variable {w w' : World} {D : Nat → Prop} {X n : Nat} {s : LK} {vl vw : Value} {M : List RL} {W : List RT}
set_option maxHeartbeats 1000000 in
theorem rowner_any (h : RK w D X n s) (hI : SI s) (hn : n ≤ 1000000) (id : Int) :
    Calls Try.prog 56 #[ptr X, .int .i64 id] w fun e w' => e = .returned (.tuple #[.int .i64 (ownr s id).1, .bool (ownr s id).2]) ∧ w = w' := by
  obtain ⟨vl, vw, M, W, h1, h2, h3, h4, h5⟩ := h
  have HF := Lib.hid (rfind_any h1 (by omega) id)
  have H := Lib.hid h1
  have HO := Lib.hid h4
  have c0 := h1.c0
  obtain ⟨al, cap, rfl, hc1, hc2⟩ := h1.fl
  unfold maxLen at hc2
  clear h1 h4 h5
  go_enter Try.func56, Try.ntmps56
  go_wp2_with fail
  refine HF.out.mono ?_
  rintro e w' ⟨rfl, ⟨i, x, hx, he, rfl⟩ | ⟨rfl, hno⟩⟩
  · obtain ⟨g, cp, e, _, _, _, _, d0, d1, d2, d3, d4, d5, _⟩ := H.out.gl hx
    have hil : i < M.length := (List.getElem?_eq_some_iff.1 hx).1
    injection e with e1 e2 e3
    subst e1
    have hod := HO.out.od hx
    have HS : Hid (s.o id = some x.ob) := by show _ = _; rw [← he]; exact HO.out.at hx
    have hi0 : ¬ (i : Int) < 0 := by omega
    have hct : 0 ≤ x.ct := (hI.ct id x.ob HS.out).1
    obtain ⟨od, hodv⟩ : ∃ b, x.od = b := ⟨_, rfl⟩
    rw [hodv] at d3 hod
    have HOD := Lib.hid hod
    clear e2 e3 hx he HF hI hod hodv
    cases od
    · go_wp2_with fail
      go_ret2
      unfold ownr
      rw [HS.out]
      have h9 := HOD.out
      have h8 : ¬ (x.ob.mx = true ∧ x.ob.ct ≠ 0) := fun ⟨h1, h2⟩ => by
        have : (x.mx && decide (0 < x.ct)) = true := by
          have h3 : x.ct ≠ 0 := h2
          rw [show x.mx = true from h1, decide_eq_true (show 0 < x.ct by omega)]; rfl
        rw [← h9] at this; cases this
      simp only [if_neg h8]
      refine ⟨?_, ?_⟩ <;> first | rfl | trivial
    · go_wp2_with fail
      go_ret2
      unfold ownr
      rw [HS.out]
      have h9 := HOD.out.symm
      have h8 : x.ob.mx = true ∧ x.ob.ct ≠ 0 := by
        rw [Bool.and_eq_true] at h9
        have h3 := of_decide_eq_true h9.2
        exact ⟨h9.1, fun h => by have h : x.ct = 0 := h; omega⟩
      simp only [if_pos h8]
      refine ⟨?_, ?_⟩ <;> first | rfl | trivial
  · have HS : Hid (s.o id = none) := HO.out.no hno
    clear hno HF
    go_wp2_with fail
    go_ret2
    unfold ownr
    rw [HS.out]
    exact ⟨rfl, rfl⟩
/-- The highest level of a lock that a thread owns, or -1. -/
def hiM (M : List RL) (t : Int) : Int := M.foldl (fun m x => if x.od = true ∧ x.ow = t then max m x.lv else m) (-1)
theorem hiM_succ {i : Nat} {x : RL} (hx : M[i]? = some x) (t : Int) : hiM (M.take (i + 1)) t = if x.od = true ∧ x.ow = t then max (hiM (M.take i) t) x.lv else hiM (M.take i) t := by
  obtain ⟨hil, hxe⟩ := List.getElem?_eq_some_iff.1 hx
  unfold hiM
  rw [List.take_succ_eq_append_getElem hil, hxe, List.foldl_append]
  rfl
theorem hiM_spec (t : Int) : ∀ (M : List RL) (m : Int), m ≤ M.foldl (fun m x => if x.od = true ∧ x.ow = t then max m x.lv else m) m ∧ ∀ lv, (lv < M.foldl (fun m x => if x.od = true ∧ x.ow = t then max m x.lv else m) m ↔ lv < m ∨ ∃ x ∈ M, x.od = true ∧ x.ow = t ∧ lv < x.lv)
  | [], m => ⟨Int.le_refl _, fun lv => by simp⟩
  | x :: r, m => by
    obtain ⟨h1, h2⟩ := hiM_spec t r (if x.od = true ∧ x.ow = t then max m x.lv else m)
    rw [List.foldl_cons]
    refine ⟨?_, fun lv => ?_⟩
    · split at h1 <;> rename_i hc
      · rw [if_pos hc]; omega
      · rw [if_neg hc]; exact h1
    · rw [h2 lv]
      constructor
      · rintro (h | ⟨z, hz, h⟩)
        · split at h
          · rename_i hc
            by_cases h3 : lv < m
            · exact .inl h3
            · exact .inr ⟨x, by simp, hc.1, hc.2, by omega⟩
          · exact .inl h
        · exact .inr ⟨z, List.mem_cons_of_mem _ hz, h⟩
      · rintro (h | ⟨z, hz, h3, h4, h5⟩)
        · left; split <;> omega
        · rcases List.mem_cons.1 hz with rfl | hz
          · left; rw [if_pos ⟨h3, h4⟩]; omega
          · exact .inr ⟨z, hz, h3, h4, h5⟩
set_option maxHeartbeats 1000000 in
theorem rhighest_any (h : RM w D X vl vw M W) (hn : M.length ≤ 1000000) (t : Int) :
    Calls Try.prog 63 #[ptr X, .int .i64 t] w fun e w' => e = .returned (.int .i64 (hiM M t)) ∧ w = w' := by
  have c0 := h.c0
  obtain ⟨al, cap, rfl, hc1, hc2⟩ := h.fl
  obtain ⟨L, hL⟩ : ∃ L, M.length = L := ⟨_, rfl⟩
  have H := Lib.hid h
  have HL := Lib.hid hL
  rw [hL] at c0 hc1 hn
  unfold maxLen at hc2
  clear h hL
  go_enter Try.func63, Try.ntmps63
  go_wp2_with fail
  go_loop [5, 6] (fun v z => ∃ (i : Nat) (m : Int), i ≤ L ∧ v = .int .i64 m ∧ z = .int .i64 (i : Int) ∧ Hid (m = hiM (M.take i) t)) (fun _ z => L - (intOf z).toNat)
  case atStart => exact ⟨0, -1, by omega, rfl, rfl, rfl⟩
  case round =>
    obtain ⟨i, m, hi, rfl, rfl, HJ⟩ := hrel
    by_cases hlt : i < L
    · have y0 : (i : Int) < L := by omega
      obtain ⟨x, hx⟩ : ∃ x, M[i]? = some x := ⟨_, List.getElem?_eq_getElem (by rw [HL.out]; exact hlt)⟩
      obtain ⟨g, cp, e, _, _, _, _, d0, d1, d2, d3, d4, _⟩ := H.out.gl hx
      injection e with e1 e2 e3
      subst e1
      have HT := Lib.hid (hiM_succ hx t)
      obtain ⟨od, hod⟩ : ∃ b, x.od = b := ⟨_, rfl⟩
      rw [hod] at d3
      have HOD := Lib.hid hod
      clear hx e2 e3 hod
      by_cases hb : od = true ∧ x.ow = t
      · have HK : Hid (max m x.lv = hiM (M.take (i + 1)) t) := by show _ = _; rw [HT.out, if_pos ⟨HOD.out.trans hb.1, hb.2⟩, ← HJ.out]
        obtain ⟨rfl, ho⟩ := hb
        have hd : (x.ow == t) = true := by simpa using ho
        clear ho
        go_wp2_with fail
        exact ⟨⟨i + 1, max m x.lv, by omega, rfl, by go_num, HK⟩, by simp [intOf]; omega⟩
      · have HK : Hid (m = hiM (M.take (i + 1)) t) := by show _ = _; rw [HT.out, if_neg (by rw [HOD.out]; exact hb), ← HJ.out]
        cases od
        · clear hb
          go_wp2_with fail
          go_round
          case rel => exact ⟨i + 1, m, by omega, rfl, by go_num, HK⟩
          case measure => simp [intOf]; omega
        · have hd : (x.ow == t) = false := by simpa using hb
          clear hb
          go_wp2_with fail
          go_round
          case rel => exact ⟨i + 1, m, by omega, rfl, by go_num, HK⟩
          case measure => simp [intOf]; omega
    · have y0 : ¬ (i : Int) < L := by omega
      have HF : Hid (m = hiM M t) := by
        have := HJ.out
        rw [List.take_of_length_le (by have := HL.out; omega)] at this
        exact this
      go_wp2_with fail
      go_ret
      rw [← HF.out]
      exact ⟨rfl, rfl⟩
/-- A thread owns a mutex above a level exactly if the reference says so. -/
theorem hiM_above (hO : RO M s) (hI : SI s) (t lv : Int) (hlv : -1 ≤ lv) : decide (lv < hiM M t) = above s t lv := by
  have h1 := (hiM_spec t M (-1)).2 lv
  apply Bool.eq_iff_iff.2
  rw [decide_eq_true_iff]
  unfold above
  rw [List.any_eq_true]
  have h1' : lv < hiM M t ↔ lv < -1 ∨ ∃ x ∈ M, x.od = true ∧ x.ow = t ∧ lv < x.lv := h1
  rw [h1']
  constructor
  · rintro (h | ⟨x, hx, h2, h3, h4⟩)
    · omega
    · obtain ⟨k, hk⟩ := List.mem_iff_getElem?.1 hx
      have hat := hO.at hk
      have hod := hO.od hk
      rw [h2] at hod
      have hod2 := hod.symm
      rw [Bool.and_eq_true] at hod2
      refine ⟨x.id, (hI.hd t x.id).2 ⟨x.ob, hat, hod2.1, of_decide_eq_true hod2.2, h3⟩, ?_⟩
      unfold lvOf
      rw [hat]
      exact decide_eq_true h4
  · rintro ⟨id, hid, h2⟩
    obtain ⟨x, hx, h3, h4, h5⟩ := (hI.hd t id).1 hid
    obtain ⟨z, hz, rfl⟩ := hO.all id (by rw [hx]; rfl)
    obtain ⟨k, hk⟩ := List.mem_iff_getElem?.1 hz
    have hat := hO.at hk
    rw [hx] at hat
    injection hat with hat
    subst hat
    unfold lvOf at h2
    rw [hx] at h2
    exact .inr ⟨z, hz, by rw [hO.od hk]; exact Bool.and_eq_true _ _ ▸ ⟨h3, decide_eq_true h4⟩, h5, of_decide_eq_true h2⟩
end
end Go.Proofs.Ytefgfmnnaglfmaa
