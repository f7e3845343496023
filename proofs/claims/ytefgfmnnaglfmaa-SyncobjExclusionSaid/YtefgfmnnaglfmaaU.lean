/- Steps of the state: a field stored, a number appended to a queue or to what a thread holds, one deleted. No condition. -/
import Derived.Test.YtefgfmnnaglfmaaA
import Derived.Deep.AppendLies
namespace Go.Proofs.Ytefgfmnnaglfmaa
open Go.RowKit
theorem setO_setO (s : LK) (i : Int) (a b : Option Ob) : (s.setO i a).setO i b = s.setO i b := by
  unfold LK.setO
  congr 1
  funext j
  by_cases e : j = i <;> simp [e]
theorem setT_setT (s : LK) (i : Int) (a b : Option Th) : (s.setT i a).setT i b = s.setT i b := by
  unfold LK.setT
  congr 1
  funext j
  by_cases e : j = i <;> simp [e]
theorem setO_setT (s : LK) (i j : Int) (a : Option Ob) (b : Option Th) : (s.setO i a).setT j b = (s.setT j b).setO i a := rfl
section
variable {w w' : World} {F : Nat → Prop} {L n : Nat} {s : LK} {y : Lay} {i : Int}
theorem OK.relay {y' : Lay} (h : OK w F L n s y) (e1 : y'.mo = y.mo) (e2 : y'.mt = y.mt) (e3 : y'.ob = y.ob) (e4 : y'.th = y.th) (e5 : y'.qv = y.qv) (e6 : y'.hv = y.hv) (e7 : ∀ k, k < w.heap.size → y'.role k = y.role k) : OK w F L n s y' := by
  refine ⟨by rw [e1, e2]; exact h.top, ?_, ?_, by rw [e1, e2]; exact h.ne, h.lL, by rw [e1]; exact h.lo, by rw [e2]; exact h.lt, (e7 _ h.top.lt).trans h.rL, by rw [e1, e7 _ h.mo.lt]; exact h.rmo, by rw [e2, e7 _ h.mt.lt]; exact h.rmt, fun k hk => (e7 k (h.fin k hk)).trans (h.low k hk), h.fin, fun i x hx => ?_, fun i x hx => ?_⟩
  · rw [e1]; exact h.mo.congr fun j => by unfold fo; rw [e3]
  · rw [e2]; exact h.mt.congr fun j => by unfold ft; rw [e4]
  · exact (h.obj i x hx).keep (Ch.refl (fun _ => False) w) (fun _ h => h.elim) (by rw [e3]) (by rw [e5]) e7
  · exact (h.thr i x hx).keep (Ch.refl (fun _ => False) w) (fun _ h => h.elim) (by rw [e4]) (by rw [e6]) e7
theorem OK.cellO (h : OK w F L n s y) {x x' : Ob} (hs : s.o i = some x) (j : Nat) (hj : j < 5) (u : Value) (hx : ∀ k, k < 5 → upd (obc x (y.qv i)) j u k = obc x' (y.qv i) k) (hq : x'.q = x.q) :
    OK (w.setCell ⟨y.ob i, j, none⟩ u) F L n (s.setO i (some x')) y := by
  obtain ⟨h1, h2, h3, h4, h5⟩ := h.obj _ _ hs
  have c : Ch (fun k => y.role k = .obj i ∨ y.role k = .que i) w (w.setCell ⟨y.ob i, j, none⟩ u) := (Ch.refl _ _).setCell (p := ⟨y.ob i, j, none⟩) (fun _ => .inl h4) u
  have hz : (w.setCell ⟨y.ob i, j, none⟩ u).heap.size = w.heap.size := by simp [World.setCell]
  refine (h.setObj hs c ((h2.set hj u).congr hx) ?_ (fun g hg => .inl (h5 g hg))).relay rfl rfl rfl rfl (by funext k; by_cases e : k = i <;> simp [Lay.setQ, e]) rfl (fun k hk => (if_neg (by omega)).symm)
  rw [hq]
  exact QR.ch h3 ((Ch.refl (fun k => k = y.ob i) w).setCell (p := ⟨y.ob i, j, none⟩) (fun _ => rfl) u) (fun g hg hc => by
    have := h5 g hg; rw [hc, h4] at this; cases this)
theorem OK.cellT (h : OK w F L n s y) {x x' : Th} (hs : s.t i = some x) (j : Nat) (hj : j < 5) (u : Value) (hx : ∀ k, k < 5 → upd (thc x (y.hv i)) j u k = thc x' (y.hv i) k) (hq : x'.hd = x.hd) :
    OK (w.setCell ⟨y.th i, j, none⟩ u) F L n (s.setT i (some x')) y := by
  obtain ⟨h1, h2, h3, h4, h5⟩ := h.thr _ _ hs
  have c : Ch (fun k => y.role k = .thr i ∨ y.role k = .hel i) w (w.setCell ⟨y.th i, j, none⟩ u) := (Ch.refl _ _).setCell (p := ⟨y.th i, j, none⟩) (fun _ => .inl h4) u
  have hz : (w.setCell ⟨y.th i, j, none⟩ u).heap.size = w.heap.size := by simp [World.setCell]
  refine (h.setThr hs c ((h2.set hj u).congr hx) ?_ (fun g hg => .inl (h5 g hg))).relay rfl rfl rfl rfl rfl (by funext k; by_cases e : k = i <;> simp [Lay.setH, e]) (fun k hk => (if_neg (by omega)).symm)
  rw [hq]
  exact QR.ch h3 ((Ch.refl (fun k => k = y.th i) w).setCell (p := ⟨y.th i, j, none⟩) (fun _ => rfl) u) (fun g hg hc => by
    have := h5 g hg; rw [hc, h4] at this; cases this)
/-- The queue's row changed to another (w to w'), then the slice is stored. -/
theorem OK.queO (h : OK w F L n s y) {x x' : Ob} {v' : Value} (hs : s.o i = some x) (c : Ch (fun k => (y.qv i).ownBlock = some k) w w') (hq : QR w' F v' x'.q)
    (hv : ∀ g, v'.ownBlock = some g → (y.qv i).ownBlock = some g ∨ w.heap.size ≤ g) (hx : x' = { x with q := x'.q }) : OK (w'.setCell ⟨y.ob i, 4, none⟩ v') F L n (s.setO i (some x')) (y.setQ i v' w.heap.size) ∧ Row w' (y.ob i) 61 5 (obc x (y.qv i)) := by
  obtain ⟨h1, h2, h3, h4, h5⟩ := h.obj _ _ hs
  have hr : Row w' (y.ob i) 61 5 (obc x (y.qv i)) := h2.ch c (fun hc => by have := h5 _ hc; rw [h4] at this; cases this)
  refine ⟨?_, hr⟩
  refine h.setObj hs ((c.mono (fun k hk _ => .inr (h5 k hk))).setCell (p := ⟨y.ob i, 4, none⟩) (fun _ => .inl h4) v') ((hr.set (i := 4) (by omega) v').congr fun k hk => ?_) ?_ (fun g hg => (hv g hg).imp (h5 g) id)
  · rw [hx]
    by_cases e : k = 4
    · subst e; rw [upd_hit]; rfl
    · rw [upd_miss _ _ e]
      unfold obc
      have h4' : k < 4 := by omega
      rcases (by omega : k = 0 ∨ k = 1 ∨ k = 2 ∨ k = 3) with rfl | rfl | rfl | rfl <;> rfl
  · refine QR.ch hq ((Ch.refl (fun k => k = y.ob i) w').setCell (p := ⟨y.ob i, 4, none⟩) (fun _ => rfl) v') (fun g hg hc => ?_)
    rcases hv g hg with h6 | h6
    · have := h5 g h6; rw [hc, h4] at this; cases this
    · have := h2.lt; omega
theorem OK.helT (h : OK w F L n s y) {x x' : Th} {v' : Value} (hs : s.t i = some x) (c : Ch (fun k => (y.hv i).ownBlock = some k) w w') (hq : QR w' F v' x'.hd)
    (hv : ∀ g, v'.ownBlock = some g → (y.hv i).ownBlock = some g ∨ w.heap.size ≤ g) (hx : x' = { x with hd := x'.hd }) : OK (w'.setCell ⟨y.th i, 4, none⟩ v') F L n (s.setT i (some x')) (y.setH i v' w.heap.size) ∧ Row w' (y.th i) 64 5 (thc x (y.hv i)) := by
  obtain ⟨h1, h2, h3, h4, h5⟩ := h.thr _ _ hs
  have hr : Row w' (y.th i) 64 5 (thc x (y.hv i)) := h2.ch c (fun hc => by have := h5 _ hc; rw [h4] at this; cases this)
  refine ⟨?_, hr⟩
  refine h.setThr hs ((c.mono (fun k hk _ => .inr (h5 k hk))).setCell (p := ⟨y.th i, 4, none⟩) (fun _ => .inl h4) v') ((hr.set (i := 4) (by omega) v').congr fun k hk => ?_) ?_ (fun g hg => (hv g hg).imp (h5 g) id)
  · rw [hx]
    by_cases e : k = 4
    · subst e; rw [upd_hit]; rfl
    · rw [upd_miss _ _ e]
      unfold thc
      have h4' : k < 4 := by omega
      rcases (by omega : k = 0 ∨ k = 1 ∨ k = 2 ∨ k = 3) with rfl | rfl | rfl | rfl <;> rfl
  · refine QR.ch hq ((Ch.refl (fun k => k = y.th i) w').setCell (p := ⟨y.th i, 4, none⟩) (fun _ => rfl) v') (fun g hg hc => ?_)
    rcases hv g hg with h6 | h6
    · have := h5 g h6; rw [hc, h4] at this; cases this
    · have := h2.lt; omega
/-- An object's block is no thread's. -/
theorem OK.ot (h : OK w F L n s y) {i j : Int} {x : Ob} {t : Th} (ho : s.o i = some x) (ht : s.t j = some t) : y.ob i ≠ y.th j := fun e => by
  have h1 := (h.obj _ _ ho).2.2.2.1
  have h2 := (h.thr _ _ ht).2.2.2.1
  rw [e, h2] at h1; cases h1
theorem OK.oo (h : OK w F L n s y) {i j : Int} {x z : Ob} (ho : s.o i = some x) (ht : s.o j = some z) (hne : i ≠ j) : y.ob i ≠ y.ob j := fun e => by
  have h1 := (h.obj _ _ ho).2.2.2.1
  have h2 := (h.obj _ _ ht).2.2.2.1
  rw [e, h2] at h1; injection h1 with h1; exact hne h1.symm
/-- What Delete leaves. -/
theorem set_row {e g : Nat} : ∀ (vs : List Value) (o : Nat) (w : World) (cur : Array Value), w.heap[g]? = some (.cells cur e (0, 0)) → o + vs.length ≤ cur.size →
    ∃ cur', (w.setCells g o vs).heap[g]? = some (.cells cur' e (0, 0)) ∧ cur'.size = cur.size ∧ cur'.toList = cur.toList.take o ++ vs ++ cur.toList.drop (o + vs.length)
  | [], o, w, cur, h, _ => ⟨cur, h, rfl, by simp⟩
  | v :: r, o, w, cur, h, hl => by
    have hl' : o + (r.length + 1) ≤ cur.size := hl
    obtain ⟨cur', h1, h2, h3⟩ := set_row r (o + 1) (w.setCell ⟨g, o, none⟩ v) (cur.setIfInBounds o v) (heap_set h v) (by simp; omega)
    refine ⟨cur', h1, by simpa using h2, ?_⟩
    rw [h3]
    have ho : o < cur.toList.length := by simp; omega
    rw [Array.toList_setIfInBounds, List.take_set, List.take_succ_eq_append_getElem ho, List.drop_set_of_lt (by omega), List.set_append_right _ _ (by simp; omega)]
    simp only [List.length_take]
    rw [Nat.min_eq_left (by omega), Nat.sub_self]
    simp [Nat.add_assoc, Nat.add_comm 1]
theorem QR.del {g cap : Nat} {l : List Int} (h0 : QR w F (.slice (some ⟨g, 0, none⟩) l.length cap) l) {k : Nat} (hk : k < l.length) (q : Nat) :
    QR ((w.drewN q).setCells g 0 ((l.take k ++ l.drop (k + 1) ++ [0]).map (Value.int .i64))) F (.slice (some ⟨g, 0, none⟩) (l.length - 1) cap) (l.eraseIdx k) := by
  have h := h0.1
  have hnF := h0.2
  refine ⟨?_, hnF⟩
  obtain ⟨h1, ⟨h2, _⟩ | ⟨g', cap', cur, e, hg, hh, h3, h4, h5, h6⟩⟩ := h
  · cases h2
  injection e with e1 _ e3
  injection e1 with e1
  have : g = g' := congrArg Addr.block e1
  subst this e3
  rw [Nat.mul_one] at h5 h6
  obtain ⟨cur', c1, c2, c3⟩ := set_row ((l.take k ++ l.drop (k + 1) ++ [0]).map (Value.int .i64)) 0 (w.drewN q) cur hh (by simp; omega)
  have hlen : (l.eraseIdx k).length = l.length - 1 := List.length_eraseIdx_of_lt hk
  refine ⟨by rw [List.length_map, hlen, Nat.mul_one], .inr ⟨g, cap, cur', by rw [hlen], hg, c1, by rw [hlen]; omega, h4, by rw [c2, h5, Nat.mul_one], ?_⟩⟩
  rw [c3, hlen, Nat.mul_one, List.take_zero, List.nil_append, List.map_append, List.append_assoc, List.eraseIdx_eq_take_drop_succ]
  rw [List.take_append_of_le_length (by simp; omega), List.take_of_length_le (by simp; omega)]
theorem QR.cell {g cap : Nat} {l : List Int} {m : Nat} (h0 : QR w F (.slice (some ⟨g, 0, none⟩) m cap) l) : m = l.length ∧ l.length ≤ cap ∧ cap ≤ maxLen ∧ (∀ j, j < l.length → w.cell? ⟨g, 0 + j, none⟩ = some (.int .i64 (l.getD j 0))) ∧ ∀ j, w.frozen? ⟨g, j, none⟩ = false := by
  obtain ⟨h1, ⟨h2, _⟩ | ⟨g', cap', cur, e, hg, hh, h3, h4, h5, h6⟩⟩ := h0.1
  · cases h2
  injection e with e1 e2 e3
  injection e1 with e1
  have : g = g' := congrArg Addr.block e1
  subst this e3
  rw [Nat.mul_one] at h5 h6
  refine ⟨e2, h3, h4, fun j hj => ?_, fun j => by simp [World.frozen?, hh]⟩
  rw [Nat.zero_add, cell_of_row w g j cur 3 (0, 0) hh, ← Array.getElem?_toList]
  have : (cur.toList.take l.length)[j]? = (l.map (Value.int .i64))[j]? := by rw [h6]
  rw [List.getElem?_take_of_lt hj] at this
  rw [this]
  simp [hj]
theorem QR.cases {v : Value} {l : List Int} (h : QR w F v l) : (v = .slice none 0 0 ∧ l = []) ∨ ∃ g cap, v = .slice (some ⟨g, 0, none⟩) l.length cap := by
  obtain ⟨h1, ⟨h2, h3⟩ | ⟨g', cap', cur, e, _⟩⟩ := h.1
  · exact .inl ⟨h2, List.eq_nil_of_length_eq_zero h3⟩
  · exact .inr ⟨g', cap', e⟩
theorem QR.drewN {v : Value} {l : List Int} (h : QR w F v l) (q : Nat) : QR (w.drewN q) F v l := h
theorem OK.sOw (h : OK w F L n s y) {x : Ob} (hs : s.o i = some x) (a : Int) : OK (w.setCell ⟨y.ob i, 2, none⟩ (.int .i64 a)) F L n (s.setO i (some { x with ow := a })) y :=
  h.cellO hs 2 (by omega) _ (fun k hk => by rcases (by omega : k = 0 ∨ k = 1 ∨ k = 2 ∨ k = 3 ∨ k = 4) with rfl | rfl | rfl | rfl | rfl <;> rfl) rfl
theorem OK.sCt (h : OK w F L n s y) {x : Ob} (hs : s.o i = some x) (a : Int) : OK (w.setCell ⟨y.ob i, 3, none⟩ (.int .i64 a)) F L n (s.setO i (some { x with ct := a })) y :=
  h.cellO hs 3 (by omega) _ (fun k hk => by rcases (by omega : k = 0 ∨ k = 1 ∨ k = 2 ∨ k = 3 ∨ k = 4) with rfl | rfl | rfl | rfl | rfl <;> rfl) rfl
theorem OK.sSt (h : OK w F L n s y) {x : Th} (hs : s.t i = some x) (a : Int) : OK (w.setCell ⟨y.th i, 0, none⟩ (.int .i64 a)) F L n (s.setT i (some { x with st := a })) y :=
  h.cellT hs 0 (by omega) _ (fun k hk => by rcases (by omega : k = 0 ∨ k = 1 ∨ k = 2 ∨ k = 3 ∨ k = 4) with rfl | rfl | rfl | rfl | rfl <;> rfl) rfl
theorem OK.sTo (h : OK w F L n s y) {x : Th} (hs : s.t i = some x) (a : Int) : OK (w.setCell ⟨y.th i, 1, none⟩ (.int .i64 a)) F L n (s.setT i (some { x with ob := a })) y :=
  h.cellT hs 1 (by omega) _ (fun k hk => by rcases (by omega : k = 0 ∨ k = 1 ∨ k = 2 ∨ k = 3 ∨ k = 4) with rfl | rfl | rfl | rfl | rfl <;> rfl) rfl
theorem OK.sEn (h : OK w F L n s y) {x : Th} (hs : s.t i = some x) (a : Bool) : OK (w.setCell ⟨y.th i, 2, none⟩ (.bool a)) F L n (s.setT i (some { x with en := a })) y :=
  h.cellT hs 2 (by omega) _ (fun k hk => by rcases (by omega : k = 0 ∨ k = 1 ∨ k = 2 ∨ k = 3 ∨ k = 4) with rfl | rfl | rfl | rfl | rfl <;> rfl) rfl
theorem OK.sDl (h : OK w F L n s y) {x : Th} (hs : s.t i = some x) (a : Int) : OK (w.setCell ⟨y.th i, 3, none⟩ (.int .u64 a)) F L n (s.setT i (some { x with dl := a })) y :=
  h.cellT hs 3 (by omega) _ (fun k hk => by rcases (by omega : k = 0 ∨ k = 1 ∨ k = 2 ∨ k = 3 ∨ k = 4) with rfl | rfl | rfl | rfl | rfl <;> rfl) rfl
theorem LK.at_o (s : LK) (i : Int) (x : Option Ob) : (s.setO i x).o i = x := by simp [LK.setO]
theorem LK.at_t (s : LK) (i : Int) (x : Option Th) : (s.setT i x).t i = x := by simp [LK.setT]
/-- A number appended to what a thread holds: what the append asks, and what it leaves. -/
theorem OK.pushT (h : OK w F L n s y) {x : Th} (hs : s.t i = some x) (a : Int) (H : Nat) (hz : w.heap.size = H) :
    (∀ j u, [Value.int .i64 a][j]? = some u → (w.alloc (.cells #[.int .i64 a] 3)).cell? ((⟨H, 0, none⟩ : Addr).add j) = some u) ∧
    (w.alloc (.cells #[.int .i64 a] 3)).ownsRow 0 3 1 (y.hv i) x.hd.length (x.hd.map (Value.int .i64)) ∧
    0 ≤ (w.alloc (.cells #[.int .i64 a] 3)).heap.size ∧ (w.alloc (.cells #[.int .i64 a] 3)).heap.size = H + 1 ∧
    ∀ g cap w', w'.ownsRow 0 3 1 (.slice (some ⟨g, 0, none⟩) (x.hd.length + 1) cap) (x.hd.length + 1) (x.hd.map (Value.int .i64) ++ [.int .i64 a]) → (w.alloc (.cells #[.int .i64 a] 3)).grownBy w' (y.hv i).ownBlock → ((y.hv i).ownBlock = some g ∨ g = H + 1) →
      OK (w'.setCell ⟨y.th i, 4, none⟩ (.slice (some ⟨g, 0, none⟩) (x.hd.length + 1) cap)) F L n (s.setT i (some { x with hd := x.hd ++ [a] })) (y.setH i (.slice (some ⟨g, 0, none⟩) (x.hd.length + 1) cap) w.heap.size) ∧
      w'.cell? ⟨y.th i, 4, none⟩ = some (y.hv i) ∧ w'.frozen? ⟨y.th i, 4, none⟩ = false ∧ Keep F w (w'.setCell ⟨y.th i, 4, none⟩ (.slice (some ⟨g, 0, none⟩) (x.hd.length + 1) cap)) := by
  subst hz
  obtain ⟨h1, h2, h3, h4, h5⟩ := h.thr _ _ hs
  refine ⟨World.news_of_block (heap_alloc_new w _), World.ownsRow.alloc h3.1 _, Nat.zero_le _, by simp, fun g cap w' ho hg hat => ?_⟩
  have c : Ch (fun k => (y.hv i).ownBlock = some k) w w' := ((Ch.refl _ w).alloc _).andThen (Ch.of_grown (C := fun k => (y.hv i).ownBlock = some k) hg (fun k hk _ => hk)) (fun _ hk _ => hk)
  have hq : QR w' F (.slice (some ⟨g, 0, none⟩) (x.hd.length + 1) cap) (x.hd ++ [a]) := by
    refine ⟨by rw [List.length_append, List.map_append]; exact ho, fun k hk hf => ?_⟩
    have e : g = k := by simpa [Value.ownBlock] using hk
    subst e
    rcases hat with h6 | h6
    · exact h3.2 g h6 hf
    · have := h.fin _ hf; omega
  have hnew : ∀ k, (Value.slice (some ⟨g, 0, none⟩) (x.hd.length + 1) cap).ownBlock = some k → (y.hv i).ownBlock = some k ∨ w.heap.size ≤ k := fun k hk => by
    have e : g = k := by simpa [Value.ownBlock] using hk
    subst e
    exact hat.imp id (fun e => by omega)
  obtain ⟨hok, hr⟩ := h.helT (x' := { x with hd := x.hd ++ [a] }) hs c hq hnew rfl
  refine ⟨hok, Row.cell hr (i := 4) (by omega), Row.frozen hr 4, ?_⟩
  refine h.bel (C := fun k => (y.hv i).ownBlock = some k ∨ k = y.th i) ((c.mono (fun k hk _ => .inl hk)).setCell (p := ⟨y.th i, 4, none⟩) (fun _ => .inr rfl) _) (fun k hk => ?_)
  rcases hk with hk | hk
  · exact .inr (h3.lt k hk).1
  · rw [hk]; exact .inr h1
/-- A number appended to a queue: what the append asks, and what it leaves. -/
theorem OK.pushO (h : OK w F L n s y) {x : Ob} (hs : s.o i = some x) (a : Int) (H : Nat) (hz : w.heap.size = H) :
    (∀ j u, [Value.int .i64 a][j]? = some u → (w.alloc (.cells #[.int .i64 a] 3)).cell? ((⟨H, 0, none⟩ : Addr).add j) = some u) ∧
    (w.alloc (.cells #[.int .i64 a] 3)).ownsRow 0 3 1 (y.qv i) x.q.length (x.q.map (Value.int .i64)) ∧
    0 ≤ (w.alloc (.cells #[.int .i64 a] 3)).heap.size ∧ (w.alloc (.cells #[.int .i64 a] 3)).heap.size = H + 1 ∧
    ∀ g cap w', w'.ownsRow 0 3 1 (.slice (some ⟨g, 0, none⟩) (x.q.length + 1) cap) (x.q.length + 1) (x.q.map (Value.int .i64) ++ [.int .i64 a]) → (w.alloc (.cells #[.int .i64 a] 3)).grownBy w' (y.qv i).ownBlock → ((y.qv i).ownBlock = some g ∨ g = H + 1) →
      OK (w'.setCell ⟨y.ob i, 4, none⟩ (.slice (some ⟨g, 0, none⟩) (x.q.length + 1) cap)) F L n (s.setO i (some { x with q := x.q ++ [a] })) (y.setQ i (.slice (some ⟨g, 0, none⟩) (x.q.length + 1) cap) w.heap.size) ∧
      w'.cell? ⟨y.ob i, 4, none⟩ = some (y.qv i) ∧ w'.frozen? ⟨y.ob i, 4, none⟩ = false ∧ Keep F w (w'.setCell ⟨y.ob i, 4, none⟩ (.slice (some ⟨g, 0, none⟩) (x.q.length + 1) cap)) := by
  subst hz
  obtain ⟨h1, h2, h3, h4, h5⟩ := h.obj _ _ hs
  refine ⟨World.news_of_block (heap_alloc_new w _), World.ownsRow.alloc h3.1 _, Nat.zero_le _, by simp, fun g cap w' ho hg hat => ?_⟩
  have c : Ch (fun k => (y.qv i).ownBlock = some k) w w' := ((Ch.refl _ w).alloc _).andThen (Ch.of_grown (C := fun k => (y.qv i).ownBlock = some k) hg (fun k hk _ => hk)) (fun _ hk _ => hk)
  have hq : QR w' F (.slice (some ⟨g, 0, none⟩) (x.q.length + 1) cap) (x.q ++ [a]) := by
    refine ⟨by rw [List.length_append, List.map_append]; exact ho, fun k hk hf => ?_⟩
    have e : g = k := by simpa [Value.ownBlock] using hk
    subst e
    rcases hat with h6 | h6
    · exact h3.2 g h6 hf
    · have := h.fin _ hf; omega
  have hnew : ∀ k, (Value.slice (some ⟨g, 0, none⟩) (x.q.length + 1) cap).ownBlock = some k → (y.qv i).ownBlock = some k ∨ w.heap.size ≤ k := fun k hk => by
    have e : g = k := by simpa [Value.ownBlock] using hk
    subst e
    exact hat.imp id (fun e => by omega)
  obtain ⟨hok, hr⟩ := h.queO (x' := { x with q := x.q ++ [a] }) hs c hq hnew rfl
  refine ⟨hok, Row.cell hr (i := 4) (by omega), Row.frozen hr 4, ?_⟩
  refine h.bel (C := fun k => (y.qv i).ownBlock = some k ∨ k = y.ob i) ((c.mono (fun k hk _ => .inl hk)).setCell (p := ⟨y.ob i, 4, none⟩) (fun _ => .inr rfl) _) (fun k hk => ?_)
  rcases hk with hk | hk
  · exact .inr (h3.lt k hk).1
  · rw [hk]; exact .inr h1
end
end Go.Proofs.Ytefgfmnnaglfmaa
