/- ref.number. No condition but that the topology is valid. -/
import Derived.Test.YtedihfcbpgogoaaB
namespace Go.Proofs.Ytedihfcbpgogoaa
open Go.RowKit
def bnc (x : BN) (r : Nat) : Value := if r = 0 then .int .i64 x.bu else if r = 1 then .int .i64 x.se else .int .i64 x.su
/-- Block B holds the bus numbers b of n functions. -/
def BR (w : World) (B n : Nat) (b : Nat → BN) : Prop := Row w B 39 (n * 3) (fun j => bnc (b (j / 3)) (j % 3))
section
variable {w w' : World} {B n : Nat} {b : Nat → BN}
theorem BR.cell (h : BR w B n b) {i r : Nat} (hi : i < n) (hr : r < 3) : w.cell? ⟨B, i * 3 + r, none⟩ = some (bnc (b i) r) := by
  have := Row.cell h (i := i * 3 + r) (by omega)
  rw [this]
  have e1 : (i * 3 + r) / 3 = i := by omega
  have e2 : (i * 3 + r) % 3 = r := by omega
  simp only [e1, e2]
theorem BR.set (h : BR w B n b) {i r : Nat} (hi : i < n) (hr : r < 3) (x : BN) (u : Value) (hx : ∀ q, q < 3 → bnc x q = if q = r then u else bnc (b i) q) : BR (w.setCell ⟨B, i * 3 + r, none⟩ u) B n (up b i x) := by
  refine Row.congr (Row.set h (i := i * 3 + r) (by omega) u) (fun j hj => ?_)
  unfold upd up
  by_cases e : j = i * 3 + r
  · have e1 : j / 3 = i := by omega
    have e2 : j % 3 = r := by omega
    rw [if_pos e, e1, if_pos rfl, e2, hx r hr, if_pos rfl]
  · rw [if_neg e]
    by_cases e1 : j / 3 = i
    · rw [e1, if_pos rfl, hx (j % 3) (by omega), if_neg (by omega)]
      show bnc (b (j / 3)) (j % 3) = _
      rw [e1]
    · rw [if_neg e1]
theorem BR.bu (h : BR w B n b) {i : Nat} (hi : i < n) (v : Int) : BR (w.setCell ⟨B, i * 3, none⟩ (.int .i64 v)) B n (up b i { b i with bu := v }) :=
  h.set hi (r := 0) (by omega) _ _ (fun q hq => by rcases (by omega : q = 0 ∨ q = 1 ∨ q = 2) with rfl | rfl | rfl <;> rfl)
theorem BR.se (h : BR w B n b) {i : Nat} (hi : i < n) (v : Int) : BR (w.setCell ⟨B, i * 3 + 1, none⟩ (.int .i64 v)) B n (up b i { b i with se := v }) :=
  h.set hi (r := 1) (by omega) _ _ (fun q hq => by rcases (by omega : q = 0 ∨ q = 1 ∨ q = 2) with rfl | rfl | rfl <;> rfl)
theorem BR.su (h : BR w B n b) {i : Nat} (hi : i < n) (v : Int) : BR (w.setCell ⟨B, i * 3 + 2, none⟩ (.int .i64 v)) B n (up b i { b i with su := v }) :=
  h.set hi (r := 2) (by omega) _ _ (fun q hq => by rcases (by omega : q = 0 ∨ q = 1 ∨ q = 2) with rfl | rfl | rfl <;> rfl)
theorem up_up (b : Nat → BN) (k : Nat) (x y : BN) : up (up b k x) k y = up b k y := by
  funext j; unfold up; by_cases e : j = k <;> simp [e]
end
theorem IR.form {w : World} {v : Value} {E : List Int} (h : IR w v E) : ∃ a cap, v = .slice a E.length cap ∧ E.length ≤ cap ∧ ∀ j, j < E.length → ∃ g, a = some ⟨g, 0, none⟩ ∧ g < w.heap.size ∧ w.cell? ⟨g, j, none⟩ = some (.int .i64 (E.getD j 0)) := by
  rcases E with _ | ⟨e0, E⟩
  · obtain ⟨_, ⟨rfl, _⟩ | ⟨g, cap, cur, rfl, _, hg, hn, _⟩⟩ := h
    · exact ⟨none, 0, rfl, Nat.le_refl _, fun j hj => by cases hj⟩
    · exact ⟨_, cap, rfl, hn, fun j hj => by cases hj⟩
  · obtain ⟨h1, ⟨_, h2⟩ | ⟨g, cap, cur, rfl, h3, hg, hn, h4⟩⟩ := h
    · simp at h2
    · refine ⟨_, cap, rfl, hn, fun j hj => ⟨g, rfl, heap_lt hg, ?_⟩⟩
      have := World.ownsRow.cellAt (w := w) (base := 0) (e := 3) (size := 1) (g := g) (cap := cap) (n := (e0 :: E).length) (xs := (e0 :: E).map (Value.int .i64)) ⟨h1, .inr ⟨g, cap, cur, rfl, h3, hg, hn, h4⟩⟩ j (by omega)
      rw [this, List.getElem?_map, List.getD_eq_getElem?_getD, List.getElem?_eq_getElem hj]
      rfl
theorem IR.ch {C : Nat → Prop} {w w' : World} {v : Value} {E : List Int} (h : IR w v E) (k : Ch C w w') (hC : ∀ g, v.ownBlock = some g → ¬ C g) : IR w' v E := by
  obtain ⟨a, b | ⟨g, cap, cur, rfl, c, d, r⟩⟩ := h
  · exact ⟨a, .inl b⟩
  · exact ⟨a, .inr ⟨g, cap, cur, rfl, c, (k.block g (heap_lt d) (hC g rfl)).trans d, r⟩⟩
theorem ws_le (T : List Fn) (V : VT T) (S : Nat → Prop) : ∀ n, n ≤ T.length → 0 ≤ ws T S n ∧ ws T S n ≤ 33 * n := by
  intro n
  induction n with
  | zero => intro _; simp [ws]
  | succ n ih =>
    intro hn
    have h1 := ih (by omega)
    have h2 := V.sp n (by omega)
    simp only [ws]
    split <;> omega
/-- The state of a numbering under way. -/
structure NS (w wr : World) (B n : Nat) (b : Nat → BN) (v : Value) (E : List Int) : Prop where
  br : BR wr B n b
  row : IR wr v E
  ne : v.ownBlock ≠ some B
  ch : Ch (fun k => k = B) w wr
theorem NS.set {w wr : World} {B n : Nat} {b b' : Nat → BN} {v : Value} {E : List Int} {p : Addr} {u : Value} (h : NS w wr B n b v E) (hp : p.block = B) (hb : BR (wr.setCell p u) B n b') : NS w (wr.setCell p u) B n b' v E :=
  have c : Ch (fun k => k = B) wr (wr.setCell p u) := (Ch.refl _ _).setCell (fun _ => hp) u
  ⟨hb, h.row.ch c (fun g hg e => h.ne (by rw [hg, e])), h.ne, h.ch.trans c⟩
theorem NS.call {w wr w' : World} {B n : Nat} {b b' : Nat → BN} {v : Value} {E : List Int} (h : NS w wr B n b v E) (c : Ch (fun k => k = B) wr w') (hb : BR w' B n b') : NS w w' B n b' v E :=
  ⟨hb, h.row.ch c (fun g hg e => h.ne (by rw [hg, e])), h.ne, h.ch.trans c⟩
theorem kidsI_at {T : List Fn} {p : Int} {j : Nat} (hj : j < (kids T p).length) : (kidsI T p).getD j 0 = ((kids T p)[j] : Int) := by
  unfold kidsI
  rw [List.getD_eq_getElem?_getD, List.getElem?_map, List.getElem?_eq_getElem hj]
  rfl
theorem take_at {l : List Nat} {j : Nat} (hj : j < l.length) : l.take (j + 1) = l.take j ++ [l[j]] := by
  rw [List.take_add_one, List.getElem?_eq_getElem hj]; rfl
def numJ (T : List Fn) (f : Nat) (p bus last : Int) (b : Nat → BN) (j : Nat) : Int × (Nat → BN) := ((kids T p).take j).foldl (numK T (fun k l b => num T f (k : Int) l l b) bus) (last, b)
theorem numJ_succ {T : List Fn} {f : Nat} {p bus last : Int} {b : Nat → BN} {j : Nat} (hj : j < (kids T p).length) : numJ T f p bus last b (j + 1) = numK T (fun k l b => num T f (k : Int) l l b) bus (numJ T f p bus last b j) (kids T p)[j] := by
  unfold numJ
  rw [take_at hj, List.foldl_append]
  rfl
theorem numJ_end {T : List Fn} {f : Nat} {p bus last : Int} {b : Nat → BN} : numJ T f p bus last b (kids T p).length = num T (f + 1) p bus last b := by
  unfold numJ
  rw [List.take_length]
  rfl
theorem numJ_le {T : List Fn} (V : VT T) {f : Nat} {p bus last : Int} {b : Nat → BN} {j : Nat} (hf : (T.length : Int) - p ≤ (f + 1 : Nat)) (hbus : bus ≤ last) : last ≤ (numJ T f p bus last b j).1 ∧ (numJ T f p bus last b j).1 ≤ last + 33 * T.length := by
  have hs := List.take_sublist j (kids T p)
  have := (fold_spec V (p := p) (bus := bus) (rc := fun k l b => num T f (k : Int) l l b) (fun k hk e l b => num_spec V f k l l b (by omega) (by have := (Dn.kid hk e).gt V; omega) (Int.le_refl _)) ((kids T p).take j) last b hbus ((kids_nodup V).sublist hs) (fun k hk => (mem_kids V).1 (hs.subset hk))).1
  have h2 := ws_le T V (fun i => ∃ k ∈ (kids T p).take j, Tr T k i) T.length (Nat.le_refl _)
  have h3 := this.tot
  have h4 := this.le
  unfold numJ
  omega
end Go.Proofs.Ytedihfcbpgogoaa
