/- Two logs and two digests beside them: what each call of MeasureLogAgrees leaves. Condition: sizes. -/
import Derived.Test.YtndbbbkdpjkljaaDoorAF
namespace Go.Proofs.YtndbbbkdpjkljaaDoor
open Go.RowKit
def rgD (es : List Ev) (r : Int) : Nat → Int := if 0 ≤ r ∧ r < 8 then regs es r.toNat else zD
def rgc (r : Int) : Int := if 0 ≤ r ∧ r < 8 then 0 else 1
theorem own_down {w : World} {b b2 e n size : Nat} {v : Value} {xs : List Value} (h : w.ownsRow b e size v n xs) (hb : b2 ≤ b) : w.ownsRow b2 e size v n xs := by
  obtain ⟨h1, h2 | ⟨g, cap, cur, a, c, d⟩⟩ := h
  · exact ⟨h1, .inl h2⟩
  · exact ⟨h1, .inr ⟨g, cap, cur, a, Nat.le_trans hb c, d⟩⟩
theorem rgD_byt (es : List Ev) (r : Int) : Byt (rgD es r) := by
  unfold rgD; split
  · exact regs_byt _ _
  · exact fun _ => ⟨Int.le_refl 0, by show (0 : Int) ≤ 255; decide⟩
theorem preg {w : World} {N Ba Bb : Nat} {ea eb : List Ev} (r : Int) (h : PAIR w N Ba Bb ea eb) : Calls Tryd.prog 22 #[.pointer (some ⟨Ba, 0, none⟩), .int .i64 r] w fun e w' => e = .returned (.tuple #[.agg (arr 32 (b8 (rgD ea r))), .int .i64 (rgc r)]) ∧ Below w.heap.size w w' := by
  unfold rgD rgc
  by_cases hr : 0 ≤ r ∧ r < 8
  · rw [if_pos hr, if_pos hr]
    obtain ⟨q, rfl⟩ : ∃ q : Nat, r = (q : Int) := ⟨r.toNat, by omega⟩
    obtain ⟨_, _, va, _, a, _⟩ := h
    exact register_yes Ba q (regs ea) va w (by omega) a
  · rw [if_neg hr, if_neg hr]
    exact register_no Ba r w (by omega)
theorem prreg {w : World} {N Ba Bb : Nat} {ea eb : List Ev} (r : Int) (hok : eb.all okE = true) (hby : ∀ e ∈ eb, Byt e.d) (hl : eb.length ≤ 1000) (h : PAIR w N Ba Bb ea eb) : Calls Tryd.prog 23 #[.pointer (some ⟨Bb, 0, none⟩), .int .i64 r] w fun e w' => e = .returned (.tuple #[.agg (arr 32 (b8 (rgD eb r))), .int .i64 (rgc r)]) ∧ Below w.heap.size w w' := by
  unfold rgD rgc
  by_cases hr : 0 ≤ r ∧ r < 8
  · rw [if_pos hr, if_pos hr]
    obtain ⟨q, rfl⟩ : ∃ q : Nat, r = (q : Int) := ⟨r.toNat, by omega⟩
    exact rregister_yes N Bb q eb w (by omega) hok hby hl h.rlog
  · rw [if_neg hr, if_neg hr]
    exact rregister_no Bb r w (by omega)
/-- The two logs, and two digests beside them; since w0 only new blocks changed. -/
def SS (w0 : World) (Ba Bb : Nat) (ea eb : List Ev) (Ra Rb : Nat) (Da Db : Nat → Int) (X : World) : Prop :=
  PAIR X w0.heap.size Ba Bb ea eb ∧ Row X Ra 26 32 (b8 Da) ∧ Row X Rb 26 32 (b8 Db) ∧ Below w0.heap.size w0 X
section
variable {w0 X X' : World} {Ba Bb Ra Rb : Nat} {ea eb : List Ev} {Da Db : Nat → Int}
theorem SS.below (h : SS w0 Ba Bb ea eb Ra Rb Da Db X) (hb : Below X.heap.size X X') : SS w0 Ba Bb ea eb Ra Rb Da Db X' := by
  obtain ⟨a, b, c, d⟩ := h
  exact ⟨a.below hb, b.below hb b.lt, c.below hb c.lt, bss d hb⟩
theorem SS.drew (h : SS w0 Ba Bb ea eb Ra Rb Da Db X) : SS w0 Ba Bb ea eb Ra Rb Da Db X.drew := ⟨h.1, h.2.1, h.2.2.1, h.2.2.2.drew⟩
/-- What the quiet operations read. -/
def SRd (b o : Nat) (c : Cl) (Ra Rb : Nat) (Da Db : Nat → Int) (X : World) : Prop :=
  X.cell? ⟨b, o, none⟩ = some (.int .i64 c.r) ∧ X.cell? ⟨b, o + 1, none⟩ = some (.string c.t) ∧ X.cell? ⟨b, o + 2, none⟩ = some (.string c.s) ∧ X.cell? ⟨b, o + 3, none⟩ = some (.bool c.raw) ∧
    ldN 32 X (.pointer (some ⟨Ra, 0, none⟩)) = some (arr 32 (b8 Da)) ∧ ldN 32 X (.pointer (some ⟨Rb, 0, none⟩)) = some (arr 32 (b8 Db))
theorem SS.sr {b o : Nat} {c : Cl} (h : SS w0 Ba Bb ea eb Ra Rb Da Db X) (hb : b < w0.heap.size) (hr : w0.rangeAt b o (clc c)) : SRd b o c Ra Rb Da Db X := by
  obtain ⟨_, h1, h2, h3⟩ := h
  obtain ⟨c0, c1, c2, c3⟩ := clc_cells (rangeAt_below hr h3 hb)
  exact ⟨c0, c1, c2, c3, ldN_of (Row.range0 h1) (by simp [arr]), ldN_of (Row.range0 h2) (by simp [arr])⟩
theorem SS.measure (r : Int) (t s : ByteArray) (hes : ea.length < 256) (hs : s.size ≤ 1073741824) (hR : Rnd w0) (h0 : 0 < w0.heap.size) (h : SS w0 Ba Bb ea eb Ra Rb Da Db X) :
    Calls Tryd.prog 24 #[.pointer (some ⟨Ba, 0, none⟩), .int .i64 r, .string t, .string s] X fun e w' => e = .returned (.int .i64 (mcd r t)) ∧ SS w0 Ba Bb (ea ++ mevI r t s) eb Ra Rb Da Db w' := by
  obtain ⟨a, b, c, d⟩ := h
  refine (pmeasure _ Ba Bb r ea eb t s X hes hs (hR.below d h0) h0 a).mono ?_
  rintro e w' ⟨he, h1, h2, h3⟩
  exact ⟨he, h1, h3 _ _ _ _ b (by decide) (by decide) (by decide), h3 _ _ _ _ c (by decide) (by decide) (by decide), d.trans h2⟩
theorem SS.rmeasure (r : Int) (t s : ByteArray) (hes : eb.length < 256) (hs : s.size ≤ 1073741824) (h : SS w0 Ba Bb ea eb Ra Rb Da Db X) :
    Calls Tryd.prog 25 #[.pointer (some ⟨Bb, 0, none⟩), .int .i64 r, .string t, .string s] X fun e w' => e = .returned (.int .i64 (mcd r t)) ∧ SS w0 Ba Bb ea (eb ++ mevI r t s) Ra Rb Da Db w' := by
  obtain ⟨a, b, c, d⟩ := h
  refine (prmeasure _ Ba Bb r ea eb t s X hes hs a).mono ?_
  rintro e w' ⟨he, h1, h2, h3⟩
  exact ⟨he, h1, h3 _ _ _ _ b (by decide) (by decide) (by decide), h3 _ _ _ _ c (by decide) (by decide) (by decide), d.trans h2⟩
end
/-- The register of a call: as it is if raw. -/
def rrC (c : Cl) : Int := if c.raw = true then c.r else ((mo c.r 8 : Nat) : Int)
def levI (l : List Cl) : List Ev := l.flatMap fun c => mevI (rrC c) c.t c.s
theorem mevI_len (r : Int) (t s : ByteArray) : (mevI r t s).length ≤ 1 := by unfold mevI; split <;> simp
theorem levI_len (l : List Cl) : (levI l).length ≤ l.length := by
  unfold levI
  induction l with
  | nil => simp
  | cons c t ih =>
    rw [List.flatMap_cons, List.length_append, List.length_cons]
    have := mevI_len (rrC c) c.t c.s
    omega
theorem levI_succ (l : List Cl) (i : Nat) (c : Cl) (h : l[i]? = some c) : levI (l.take i) ++ mevI (rrC c) c.t c.s = levI (l.take (i + 1)) := by
  have hi := (List.getElem?_eq_some_iff.1 h).1
  have e : l[i] = c := (List.getElem?_eq_some_iff.1 h).2
  rw [List.take_succ_eq_append_getElem hi, e]
  simp [levI]
theorem levI_ok (l : List Cl) : (levI l).all okE = true ∧ ∀ e ∈ levI l, Byt e.d := by
  have : ∀ e ∈ levI l, okE e = true ∧ Byt e.d := fun e he => by
    obtain ⟨c, _, hc⟩ := List.mem_flatMap.1 he
    unfold mevI at hc
    split at hc
    · next h =>
      rw [List.mem_singleton.1 hc]
      exact ⟨by simp [okE, h.1, h.2.1], sumD_byt _⟩
    · cases hc
  exact ⟨List.all_eq_true.2 fun e he => (this e he).1, fun e he => (this e he).2⟩
end Go.Proofs.YtndbbbkdpjkljaaDoor
