/- The state of mutexes and events, and how it lies in memory. No condition. -/
import Derived.Test.YtefgfmnnaglfmaaM
namespace Go.Proofs.Ytefgfmnnaglfmaa
open Go.RowKit

/-- What is foreign stays. -/
def Keep (F : Nat → Prop) (w w' : World) : Prop := Ch (fun k => ¬ F k) w w'
theorem Keep.refl (F : Nat → Prop) (w : World) : Keep F w w := Ch.refl _ _
theorem Keep.trans {F : Nat → Prop} {a b c : World} (h : Keep F a b) (k : Keep F b c) : Keep F a c := Ch.trans h k
theorem Keep.drew {F : Nat → Prop} {a b : World} (h : Keep F a b) : Keep F a b.drew := Ch.drew h
theorem Keep.setCell {F : Nat → Prop} {a b : World} (h : Keep F a b) {p : Addr} (hp : ¬ F p.block) (u : Value) : Keep F a (b.setCell p u) := Ch.setCell h (fun _ => hp) u
theorem Keep.of {F : Nat → Prop} {a b : World} (hb : Below a.heap.size a b) : Keep F a b := Ch.of_below hb _
theorem Keep.below {F : Nat → Prop} {a b : World} {N : Nat} (h : Keep F a b) (hN : ∀ k, k < N → F k) (hs : N ≤ a.heap.size) : Below N a b := Ch.below h hs (fun i hi => by
  rcases Nat.lt_or_ge i N with h1 | h1
  · exact absurd (hN i h1) hi
  · exact h1)
theorem Keep.size {F : Nat → Prop} {a b : World} (h : Keep F a b) : a.heap.size ≤ b.heap.size := Ch.size h
structure Ob where
  mx : Bool
  lv : Int
  ow : Int
  ct : Int
  q : List Int
structure Th where
  st : Int
  ob : Int
  en : Bool
  dl : Int
  hd : List Int
structure LK where
  o : Int → Option Ob
  t : Int → Option Th
def LK.setO (s : LK) (i : Int) (x : Option Ob) : LK := { s with o := fun j => if j = i then x else s.o j }
def LK.setT (s : LK) (i : Int) (x : Option Th) : LK := { s with t := fun j => if j = i then x else s.t j }
/-- What a block is for. -/
inductive Role where
  | free
  | obj (i : Int)
  | thr (i : Int)
  | que (i : Int)
  | hel (i : Int)
structure Lay where
  mo : Nat
  mt : Nat
  ob : Int → Nat
  th : Int → Nat
  qv : Int → Value
  hv : Int → Value
  role : Nat → Role
def obc (x : Ob) (v : Value) (j : Nat) : Value := if j = 0 then .bool x.mx else if j = 1 then .int .i64 x.lv else if j = 2 then .int .i64 x.ow else if j = 3 then .int .i64 x.ct else v
def thc (x : Th) (v : Value) (j : Nat) : Value := if j = 0 then .int .i64 x.st else if j = 1 then .int .i64 x.ob else if j = 2 then .bool x.en else if j = 3 then .int .u64 x.dl else v
def lkc (a b : Nat) (j : Nat) : Value := if j = 0 then .map (some a) else .map (some b)
/-- The slice is a row of these ints that the code owns. -/
def QR (w : World) (F : Nat → Prop) (v : Value) (l : List Int) : Prop := w.ownsRow 0 3 1 v l.length (l.map (Value.int .i64)) ∧ ∀ g, v.ownBlock = some g → ¬ F g
abbrev ptr (b : Nat) : Value := .pointer (some ⟨b, 0, none⟩)
abbrev nilp : Value := .pointer none
def OBJ (w : World) (F : Nat → Prop) (y : Lay) (i : Int) (x : Ob) : Prop :=
  ¬ F (y.ob i) ∧ Row w (y.ob i) 61 5 (obc x (y.qv i)) ∧ QR w F (y.qv i) x.q ∧ y.role (y.ob i) = .obj i ∧ ∀ g, (y.qv i).ownBlock = some g → y.role g = .que i
def THR (w : World) (F : Nat → Prop) (y : Lay) (i : Int) (x : Th) : Prop :=
  ¬ F (y.th i) ∧ Row w (y.th i) 64 5 (thc x (y.hv i)) ∧ QR w F (y.hv i) x.hd ∧ y.role (y.th i) = .thr i ∧ ∀ g, (y.hv i).ownBlock = some g → y.role g = .hel i
def fo (s : LK) (y : Lay) (i : Int) : Value := if (s.o i).isSome = true then ptr (y.ob i) else nilp
def ft (s : LK) (y : Lay) (i : Int) : Value := if (s.t i).isSome = true then ptr (y.th i) else nilp
structure OK (w : World) (F : Nat → Prop) (L n : Nat) (s : LK) (y : Lay) : Prop where
  top : Row w L 56 2 (lkc y.mo y.mt)
  mo : MP Try.prog w 3 y.mo n nilp (fo s y)
  mt : MP Try.prog w 3 y.mt n nilp (ft s y)
  ne : y.mo ≠ y.mt
  lL : ¬ F L
  lo : ¬ F y.mo
  lt : ¬ F y.mt
  rL : y.role L = .free
  rmo : y.role y.mo = .free
  rmt : y.role y.mt = .free
  low : ∀ k, F k → y.role k = .free
  fin : ∀ k, F k → k < w.heap.size
  obj : ∀ i x, s.o i = some x → OBJ w F y i x
  thr : ∀ i x, s.t i = some x → THR w F y i x
section
variable {w w' : World} {F : Nat → Prop} {L n : Nat} {s : LK} {y y' : Lay} {i : Int}
theorem own_ch {C : Nat → Prop} {base e m size : Nat} {v : Value} {xs : List Value} (h : w.ownsRow base e size v m xs) (k : Ch C w w') (hC : ∀ g, v.ownBlock = some g → ¬ C g) : w'.ownsRow base e size v m xs := by
  obtain ⟨a, b | ⟨g, cap, cur, rfl, c, d, r⟩⟩ := h
  · exact ⟨a, .inl b⟩
  · exact ⟨a, .inr ⟨g, cap, cur, rfl, c, (k.block g (heap_lt d) (hC g rfl)).trans d, r⟩⟩
theorem QR.lt {v : Value} {l : List Int} (h : QR w F v l) : ∀ g, v.ownBlock = some g → ¬ F g ∧ g < w.heap.size := fun g hg => ⟨h.2 g hg, (World.ownsRow.lt h.1 g hg).2⟩
theorem QR.nil (w : World) (F : Nat → Prop) : QR w F (.slice none 0 0) [] := ⟨⟨rfl, .inl ⟨rfl, rfl⟩⟩, fun g hg => by cases hg⟩
theorem QR.ch {C : Nat → Prop} {v : Value} {l : List Int} (h : QR w F v l) (k : Ch C w w') (hC : ∀ g, v.ownBlock = some g → ¬ C g) : QR w' F v l := ⟨own_ch h.1 k hC, h.2⟩
theorem OBJ.keep {C : Nat → Prop} {x : Ob} (h : OBJ w F y i x) (c : Ch C w w') (hC : ∀ k, C k → y.role k ≠ .obj i ∧ y.role k ≠ .que i)
    (e1 : y'.ob i = y.ob i) (e2 : y'.qv i = y.qv i) (e3 : ∀ k, k < w.heap.size → y'.role k = y.role k) : OBJ w' F y' i x := by
  obtain ⟨h1, h2, h3, h4, h5⟩ := h
  refine ⟨by rw [e1]; exact h1, by rw [e1, e2]; exact h2.ch c (fun hc => (hC _ hc).1 h4), by rw [e2]; exact QR.ch h3 c (fun g hg hc => (hC _ hc).2 (h5 g hg)), by rw [e1, e3 _ h2.lt]; exact h4, fun g hg => ?_⟩
  rw [e2] at hg
  rw [e3 g (h3.lt g hg).2]
  exact h5 g hg
theorem THR.keep {C : Nat → Prop} {x : Th} (h : THR w F y i x) (c : Ch C w w') (hC : ∀ k, C k → y.role k ≠ .thr i ∧ y.role k ≠ .hel i)
    (e1 : y'.th i = y.th i) (e2 : y'.hv i = y.hv i) (e3 : ∀ k, k < w.heap.size → y'.role k = y.role k) : THR w' F y' i x := by
  obtain ⟨h1, h2, h3, h4, h5⟩ := h
  refine ⟨by rw [e1]; exact h1, by rw [e1, e2]; exact h2.ch c (fun hc => (hC _ hc).1 h4), by rw [e2]; exact QR.ch h3 c (fun g hg hc => (hC _ hc).2 (h5 g hg)), by rw [e1, e3 _ h2.lt]; exact h4, fun g hg => ?_⟩
  rw [e2] at hg
  rw [e3 g (h3.lt g hg).2]
  exact h5 g hg
theorem OK.below (h : OK w F L n s y) (hb : Below w.heap.size w w') : OK w' F L n s y := by
  have c : Ch (fun _ => False) w w' := Ch.of_below hb _
  exact ⟨h.top.ch c id, h.mo.ch c id, h.mt.ch c id, h.ne, h.lL, h.lo, h.lt, h.rL, h.rmo, h.rmt, h.low, (fun k hk => Nat.lt_of_lt_of_le (h.fin k hk) c.size), fun i x hx => (h.obj i x hx).keep c (fun _ h => h.elim) rfl rfl (fun _ _ => rfl), fun i x hx => (h.thr i x hx).keep c (fun _ h => h.elim) rfl rfl (fun _ _ => rfl)⟩
theorem OK.drew (h : OK w F L n s y) : OK w.drew F L n s y := h.below ((Below.refl _ _).drew)
theorem OK.mono (h : OK w F L n s y) {n' : Nat} (hn : n ≤ n') : OK w F L n' s y := { h with mo := h.mo.mono hn, mt := h.mt.mono hn }
/-- Changes of blocks that are in use leave alone what is foreign. -/
theorem OK.bel {C : Nat → Prop} (h : OK w F L n s y) (c : Ch C w w') (hC : ∀ k, C k → y.role k ≠ .free ∨ ¬ F k) : Keep F w w' :=
  c.mono (fun k hk _ hf => by
    rcases hC k hk with h1 | h1
    · exact h1 (h.low k hf)
    · exact h1 hf)
def Lay.setQ (y : Lay) (i : Int) (v : Value) (H : Nat) : Lay := { y with qv := fun j => if j = i then v else y.qv j, role := fun k => if H ≤ k then .que i else y.role k }
def Lay.setH (y : Lay) (i : Int) (v : Value) (H : Nat) : Lay := { y with hv := fun j => if j = i then v else y.hv j, role := fun k => if H ≤ k then .hel i else y.role k }
def Lay.newT (y : Lay) (i : Int) (B H : Nat) : Lay := { y with th := fun j => if j = i then B else y.th j, hv := fun j => if j = i then .slice none 0 0 else y.hv j, role := fun k => if H ≤ k then .thr i else y.role k }
def Lay.newO (y : Lay) (i : Int) (B H : Nat) : Lay := { y with ob := fun j => if j = i then B else y.ob j, qv := fun j => if j = i then .slice none 0 0 else y.qv j, role := fun k => if H ≤ k then .obj i else y.role k }
theorem old_role {r : Role} {H k : Nat} {f : Nat → Role} (h : k < H) : (if H ≤ k then r else f k) = f k := if_neg (by omega)
/-- An object changed: its cells, its queue. -/
theorem OK.setObj (h : OK w F L n s y) {x x' : Ob} {v' : Value} (hs : s.o i = some x) (c : Ch (fun k => y.role k = .obj i ∨ y.role k = .que i) w w') (hr : Row w' (y.ob i) 61 5 (obc x' v')) (hq : QR w' F v' x'.q)
    (hv : ∀ g, v'.ownBlock = some g → y.role g = .que i ∨ w.heap.size ≤ g) : OK w' F L n (s.setO i (some x')) (y.setQ i v' w.heap.size) := by
  have hno : ∀ k, k < w.heap.size → (y.setQ i v' w.heap.size).role k = y.role k := fun k hk => old_role hk
  have hf : ∀ k, y.role k = .free → ¬ (y.role k = .obj i ∨ y.role k = .que i) := fun k hk hc => by rw [hk] at hc; rcases hc with hc | hc <;> cases hc
  refine ⟨h.top.ch c (hf _ h.rL), (h.mo.ch c (hf _ h.rmo)).congr fun j => ?_, h.mt.ch c (hf _ h.rmt), h.ne, h.lL, h.lo, h.lt, (hno _ h.top.lt).trans h.rL, (hno _ h.mo.lt).trans h.rmo, (hno _ h.mt.lt).trans h.rmt,
    fun k hk => (hno k (h.fin k hk)).trans (h.low k hk), (fun k hk => Nat.lt_of_lt_of_le (h.fin k hk) c.size), fun j z hz => ?_, fun j z hz => ?_⟩
  · unfold fo LK.setO
    by_cases e : j = i
    · subst e; simp [hs, Lay.setQ]
    · simp [e, Lay.setQ]
  · by_cases e : j = i
    · subst e
      obtain rfl : x' = z := by simpa [LK.setO] using hz
      obtain ⟨h1, h2, h3, h4, h5⟩ := h.obj _ _ hs
      have ev : (y.setQ j v' w.heap.size).qv j = v' := by simp [Lay.setQ]
      refine ⟨h1, by rw [ev]; exact hr, by rw [ev]; exact hq, (hno _ h2.lt).trans h4, fun g hg => ?_⟩
      rw [ev] at hg
      show (if w.heap.size ≤ g then Role.que j else y.role g) = _
      split
      · rfl
      · rcases hv g hg with h6 | h6
        · exact h6
        · omega
    · have hz' : s.o j = some z := by simpa [LK.setO, e] using hz
      exact (h.obj j z hz').keep c (fun k hk => by rcases hk with hk | hk <;> rw [hk] <;> exact ⟨by simp <;> omega, by simp <;> omega⟩) rfl (by simp [Lay.setQ, e]) hno
  · exact (h.thr j z hz).keep c (fun k hk => by rcases hk with hk | hk <;> rw [hk] <;> exact ⟨by simp, by simp⟩) rfl rfl hno
/-- A thread changed: its cells, what it holds. -/
theorem OK.setThr (h : OK w F L n s y) {x x' : Th} {v' : Value} (hs : s.t i = some x) (c : Ch (fun k => y.role k = .thr i ∨ y.role k = .hel i) w w') (hr : Row w' (y.th i) 64 5 (thc x' v')) (hq : QR w' F v' x'.hd)
    (hv : ∀ g, v'.ownBlock = some g → y.role g = .hel i ∨ w.heap.size ≤ g) : OK w' F L n (s.setT i (some x')) (y.setH i v' w.heap.size) := by
  have hno : ∀ k, k < w.heap.size → (y.setH i v' w.heap.size).role k = y.role k := fun k hk => old_role hk
  have hf : ∀ k, y.role k = .free → ¬ (y.role k = .thr i ∨ y.role k = .hel i) := fun k hk hc => by rw [hk] at hc; rcases hc with hc | hc <;> cases hc
  refine ⟨h.top.ch c (hf _ h.rL), h.mo.ch c (hf _ h.rmo), (h.mt.ch c (hf _ h.rmt)).congr fun j => ?_, h.ne, h.lL, h.lo, h.lt, (hno _ h.top.lt).trans h.rL, (hno _ h.mo.lt).trans h.rmo, (hno _ h.mt.lt).trans h.rmt,
    fun k hk => (hno k (h.fin k hk)).trans (h.low k hk), (fun k hk => Nat.lt_of_lt_of_le (h.fin k hk) c.size), fun j z hz => ?_, fun j z hz => ?_⟩
  · unfold ft LK.setT
    by_cases e : j = i
    · subst e; simp [hs, Lay.setH]
    · simp [e, Lay.setH]
  · exact (h.obj j z hz).keep c (fun k hk => by rcases hk with hk | hk <;> rw [hk] <;> exact ⟨by simp, by simp⟩) rfl rfl hno
  · by_cases e : j = i
    · subst e
      obtain rfl : x' = z := by simpa [LK.setT] using hz
      obtain ⟨h1, h2, h3, h4, h5⟩ := h.thr _ _ hs
      have ev : (y.setH j v' w.heap.size).hv j = v' := by simp [Lay.setH]
      refine ⟨h1, by rw [ev]; exact hr, by rw [ev]; exact hq, (hno _ h2.lt).trans h4, fun g hg => ?_⟩
      rw [ev] at hg
      show (if w.heap.size ≤ g then Role.hel j else y.role g) = _
      split
      · rfl
      · rcases hv g hg with h6 | h6
        · exact h6
        · omega
    · have hz' : s.t j = some z := by simpa [LK.setT, e] using hz
      exact (h.thr j z hz').keep c (fun k hk => by rcases hk with hk | hk <;> rw [hk] <;> exact ⟨by simp <;> omega, by simp <;> omega⟩) rfl (by simp [Lay.setH, e]) hno
/-- A thread made. -/
theorem OK.addThr (h : OK w F L n s y) {x : Th} {B : Nat} (hx : x.hd = []) (hB : w.heap.size ≤ B) (hs : s.t i = none) (c : Ch (fun k => k = y.mt) w w') (hr : Row w' B 64 5 (thc x (.slice none 0 0)))
    (hm : MP Try.prog w' 3 y.mt (n + 1) nilp (fun j => if j = i then ptr B else ft s y j)) : OK w' F L (n + 1) (s.setT i (some x)) (y.newT i B w.heap.size) := by
  have hno : ∀ k, k < w.heap.size → (y.newT i B w.heap.size).role k = y.role k := fun k hk => old_role hk
  have hLm : L ≠ y.mt := by
    intro e
    obtain ⟨D, ⟨es, clock, h1, _⟩, _⟩ := h.mt
    obtain ⟨cs, h2, _⟩ := h.top
    rw [e, h1] at h2
    cases h2
  refine ⟨h.top.ch c hLm, (h.mo.ch c h.ne).mono (Nat.le_succ n), hm.congr fun j => ?_, h.ne, h.lL, h.lo, h.lt, (hno _ h.top.lt).trans h.rL, (hno _ h.mo.lt).trans h.rmo, (hno _ h.mt.lt).trans h.rmt,
    fun k hk => (hno k (h.fin k hk)).trans (h.low k hk), (fun k hk => Nat.lt_of_lt_of_le (h.fin k hk) c.size), fun j z hz => ?_, fun j z hz => ?_⟩
  · unfold ft LK.setT
    by_cases e : j = i
    · subst e; simp [Lay.newT]
    · simp [e, Lay.newT]
  · exact (h.obj j z hz).keep c (fun k hk => by subst hk; rw [h.rmt]; exact ⟨by simp, by simp⟩) rfl rfl hno
  · by_cases e : j = i
    · subst e
      obtain rfl : x = z := by simpa [LK.setT] using hz
      have e1 : (y.newT j B w.heap.size).th j = B := by simp [Lay.newT]
      have e2 : (y.newT j B w.heap.size).hv j = .slice none 0 0 := by simp [Lay.newT]
      refine ⟨by rw [e1]; exact fun hf => (by have := h.fin _ hf; omega), by rw [e1, e2]; exact hr, by rw [e2, hx]; exact QR.nil _ _, ?_, fun g hg => by rw [e2] at hg; cases hg⟩
      rw [e1]
      exact if_pos hB
    · have hz' : s.t j = some z := by simpa [LK.setT, e] using hz
      exact (h.thr j z hz').keep c (fun k hk => by subst hk; rw [h.rmt]; exact ⟨by simp, by simp⟩) (by simp [Lay.newT, e]) (by simp [Lay.newT, e]) hno
/-- An object made. -/
theorem OK.addObj (h : OK w F L n s y) {x : Ob} {B : Nat} (hx : x.q = []) (hB : w.heap.size ≤ B) (hs : s.o i = none) (c : Ch (fun k => k = y.mo) w w') (hr : Row w' B 61 5 (obc x (.slice none 0 0)))
    (hm : MP Try.prog w' 3 y.mo (n + 1) nilp (fun j => if j = i then ptr B else fo s y j)) : OK w' F L (n + 1) (s.setO i (some x)) (y.newO i B w.heap.size) := by
  have hno : ∀ k, k < w.heap.size → (y.newO i B w.heap.size).role k = y.role k := fun k hk => old_role hk
  have hLm : L ≠ y.mo := by
    intro e
    obtain ⟨D, ⟨es, clock, h1, _⟩, _⟩ := h.mo
    obtain ⟨cs, h2, _⟩ := h.top
    rw [e, h1] at h2
    cases h2
  refine ⟨h.top.ch c hLm, hm.congr fun j => ?_, (h.mt.ch c (Ne.symm h.ne)).mono (Nat.le_succ n), h.ne, h.lL, h.lo, h.lt, (hno _ h.top.lt).trans h.rL, (hno _ h.mo.lt).trans h.rmo, (hno _ h.mt.lt).trans h.rmt,
    fun k hk => (hno k (h.fin k hk)).trans (h.low k hk), (fun k hk => Nat.lt_of_lt_of_le (h.fin k hk) c.size), fun j z hz => ?_, fun j z hz => ?_⟩
  · unfold fo LK.setO
    by_cases e : j = i
    · subst e; simp [Lay.newO]
    · simp [e, Lay.newO]
  · by_cases e : j = i
    · subst e
      obtain rfl : x = z := by simpa [LK.setO] using hz
      have e1 : (y.newO j B w.heap.size).ob j = B := by simp [Lay.newO]
      have e2 : (y.newO j B w.heap.size).qv j = .slice none 0 0 := by simp [Lay.newO]
      refine ⟨by rw [e1]; exact fun hf => (by have := h.fin _ hf; omega), by rw [e1, e2]; exact hr, by rw [e2, hx]; exact QR.nil _ _, ?_, fun g hg => by rw [e2] at hg; cases hg⟩
      rw [e1]
      exact if_pos hB
    · have hz' : s.o j = some z := by simpa [LK.setO, e] using hz
      exact (h.obj j z hz').keep c (fun k hk => by subst hk; rw [h.rmo]; exact ⟨by simp, by simp⟩) (by simp [Lay.newO, e]) (by simp [Lay.newO, e]) hno
  · exact (h.thr j z hz).keep c (fun k hk => by subst hk; rw [h.rmo]; exact ⟨by simp, by simp⟩) rfl rfl hno
/-- An object taken away. -/
theorem OK.delObj (h : OK w F L n s y) (c : Ch (fun k => k = y.mo) w w') (hm : MP Try.prog w' 3 y.mo n nilp (fun j => if j = i then nilp else fo s y j)) : OK w' F L n (s.setO i none) y := by
  have hLm : L ≠ y.mo := by
    intro e
    obtain ⟨D, ⟨es, clock, h1, _⟩, _⟩ := h.mo
    obtain ⟨cs, h2, _⟩ := h.top
    rw [e, h1] at h2
    cases h2
  refine ⟨h.top.ch c hLm, hm.congr fun j => ?_, h.mt.ch c (Ne.symm h.ne), h.ne, h.lL, h.lo, h.lt, h.rL, h.rmo, h.rmt, h.low, (fun k hk => Nat.lt_of_lt_of_le (h.fin k hk) c.size), fun j z hz => ?_, fun j z hz => ?_⟩
  · unfold fo LK.setO
    by_cases e : j = i
    · subst e; simp
    · simp [e]
  · by_cases e : j = i
    · subst e; simp [LK.setO] at hz
    · have hz' : s.o j = some z := by simpa [LK.setO, e] using hz
      exact (h.obj j z hz').keep c (fun k hk => by subst hk; rw [h.rmo]; exact ⟨by simp, by simp⟩) rfl rfl (fun _ _ => rfl)
  · exact (h.thr j z hz).keep c (fun k hk => by subst hk; rw [h.rmo]; exact ⟨by simp, by simp⟩) rfl rfl (fun _ _ => rfl)
/-- A thread taken away. -/
theorem OK.delThr (h : OK w F L n s y) (c : Ch (fun k => k = y.mt) w w') (hm : MP Try.prog w' 3 y.mt n nilp (fun j => if j = i then nilp else ft s y j)) : OK w' F L n (s.setT i none) y := by
  have hLm : L ≠ y.mt := by
    intro e
    obtain ⟨D, ⟨es, clock, h1, _⟩, _⟩ := h.mt
    obtain ⟨cs, h2, _⟩ := h.top
    rw [e, h1] at h2
    cases h2
  refine ⟨h.top.ch c hLm, h.mo.ch c h.ne, hm.congr fun j => ?_, h.ne, h.lL, h.lo, h.lt, h.rL, h.rmo, h.rmt, h.low, (fun k hk => Nat.lt_of_lt_of_le (h.fin k hk) c.size), fun j z hz => ?_, fun j z hz => ?_⟩
  · unfold ft LK.setT
    by_cases e : j = i
    · subst e; simp
    · simp [e]
  · exact (h.obj j z hz).keep c (fun k hk => by subst hk; rw [h.rmt]; exact ⟨by simp, by simp⟩) rfl rfl (fun _ _ => rfl)
  · by_cases e : j = i
    · subst e; simp [LK.setT] at hz
    · have hz' : s.t j = some z := by simpa [LK.setT, e] using hz
      exact (h.thr j z hz').keep c (fun k hk => by subst hk; rw [h.rmt]; exact ⟨by simp, by simp⟩) rfl rfl (fun _ _ => rfl)
/- What a walk reads. -/
theorem OK.c0 (h : OK w F L n s y) : w.cell? ⟨L, 0, none⟩ = some (.map (some y.mo)) := Row.cell h.top (i := 0) (by omega)
theorem OK.c1 (h : OK w F L n s y) : w.cell? ⟨L, 1, none⟩ = some (.map (some y.mt)) := Row.cell h.top (i := 1) (by omega)
theorem zero59 (w : World) : (zeroValue 59).run Try.prog w = .ok nilp w := by kernel_rfl
theorem zero65 (w : World) : (zeroValue 65).run Try.prog w = .ok nilp w := by kernel_rfl
theorem OK.lookO (h : OK w F L n s y) (hi : InI i) : (Instr.lookup 53 (.map (some y.mo)) (.int .i64 i) false).run Try.prog w = .ok (fo s y i) w := h.mo.look Try.underlying3 Try.underlying53 (zero59 w) hi
theorem OK.lookT (h : OK w F L n s y) (hi : InI i) : (Instr.lookup 54 (.map (some y.mt)) (.int .i64 i) false).run Try.prog w = .ok (ft s y i) w := h.mt.look Try.underlying3 Try.underlying54 (zero65 w) hi
theorem fo_some {x : Ob} (h : s.o i = some x) : fo s y i = ptr (y.ob i) := by simp [fo, h]
theorem fo_none (h : s.o i = none) : fo s y i = nilp := by simp [fo, h]
theorem ft_some {x : Th} (h : s.t i = some x) : ft s y i = ptr (y.th i) := by simp [ft, h]
theorem ft_none (h : s.t i = none) : ft s y i = nilp := by simp [ft, h]
end
end Go.Proofs.Ytefgfmnnaglfmaa
