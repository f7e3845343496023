/- Fairness: what each call leaves. Condition: numbers fit. -/
import Derived.Test.YtefgfmnnaglfmaaP3
import Derived.Test.YtefgfmnnaglfmaaR
namespace Go.Proofs.Ytefgfmnnaglfmaa
open Go.RowKit
section
variable {w w' : World} {F : Nat → Prop} {L n : Nat} {s : LK} {y : Lay}
/-- Foreign blocks changed. -/
theorem OK.foreign (h : OK w F L n s y) (c : Ch F w w') : OK w' F L n s y :=
  ⟨h.top.ch c h.lL, h.mo.ch c h.lo, h.mt.ch c h.lt, h.ne, h.lL, h.lo, h.lt, h.rL, h.rmo, h.rmt, h.low, (fun k hk => Nat.lt_of_lt_of_le (h.fin k hk) c.size),
    (fun i x hx => by obtain ⟨a, b, d, e, f⟩ := h.obj i x hx; exact ⟨a, b.ch c a, d.ch c d.2, e, f⟩), (fun i x hx => by obtain ⟨a, b, d, e, f⟩ := h.thr i x hx; exact ⟨a, b.ch c a, d.ch c d.2, e, f⟩)⟩
/-- Foreign blocks changed, and a new one is foreign from now on. -/
theorem OK.adopt (h : OK w F L n s y) (c : Ch F w w') {g : Nat} (h1 : w.heap.size ≤ g) (h2 : g < w'.heap.size) : ∃ y', OK w' (fun k => F k ∨ k = g) L n s y' := by
  have hr : ∀ k, k < w.heap.size → (if w.heap.size ≤ k then Role.free else y.role k) = y.role k := fun k hk => if_neg (by omega)
  have nf : ∀ k, k < w.heap.size → ¬ F k → ¬ (F k ∨ k = g) := fun k hk hn hc => by
    rcases hc with hc | hc
    · exact hn hc
    · omega
  refine ⟨{ y with role := fun k => if w.heap.size ≤ k then .free else y.role k }, h.top.ch c h.lL, h.mo.ch c h.lo, h.mt.ch c h.lt, h.ne, nf _ h.top.lt h.lL, nf _ h.mo.lt h.lo, nf _ h.mt.lt h.lt, (hr _ h.top.lt).trans h.rL, (hr _ h.mo.lt).trans h.rmo, (hr _ h.mt.lt).trans h.rmt, ?_, ?_, ?_, ?_⟩
  · rintro k (hk | hk)
    · exact (hr k (h.fin k hk)).trans (h.low k hk)
    · rw [hk]; exact if_pos h1
  · rintro k (hk | hk)
    · exact Nat.lt_of_lt_of_le (h.fin k hk) c.size
    · omega
  · intro i x hx
    obtain ⟨a, b, d, e, f⟩ := h.obj i x hx
    exact ⟨nf _ b.lt a, b.ch c a, ⟨(d.ch c d.2).1, fun k hk => nf k (d.lt k hk).2 (d.2 k hk)⟩, (hr _ b.lt).trans e, fun k hk => (hr k (d.lt k hk).2).trans (f k hk)⟩
  · intro i x hx
    obtain ⟨a, b, d, e, f⟩ := h.thr i x hx
    exact ⟨nf _ b.lt a, b.ch c a, ⟨(d.ch c d.2).1, fun k hk => nf k (d.lt k hk).2 (d.2 k hk)⟩, (hr _ b.lt).trans e, fun k hk => (hr k (d.lt k hk).2).trans (f k hk)⟩
end
abbrev noF : Nat → Prop := fun _ => False
/-- The locks in state Q, c, and beside them a slice that reads R. -/
def FSt (w0 wr : World) (L k : Nat) (Q : List Int) (c : Int) (R : List Int) (v : Value) : Prop :=
  ∃ F s y, OK wr F L k s y ∧ FQ s Q c ∧ QR wr noF v R ∧ (∀ g, v.ownBlock = some g → F g ∧ w0.heap.size ≤ g) ∧ (∀ k, k < w0.heap.size → F k) ∧ Below w0.heap.size w0 wr
section
variable {w0 wr : World} {L k : Nat} {Q R : List Int} {c : Int} {v : Value}
theorem FSt.mono (h : FSt w0 wr L k Q c R v) {k' : Nat} (hk : k ≤ k') : FSt w0 wr L k' Q c R v := by
  obtain ⟨F, s, y, a, b⟩ := h
  exact ⟨F, s, y, a.mono hk, b⟩
theorem FSt.bel (h : FSt w0 wr L k Q c R v) : Below w0.heap.size w0 wr := by
  obtain ⟨F, s, y, a, b, d, e, f, g⟩ := h
  exact g
theorem FSt.row (h : FSt w0 wr L k Q c R v) : QR wr noF v R := by
  obtain ⟨F, s, y, a, b, d, e, f, g⟩ := h
  exact d
theorem FSt.acq {i : Int} {a b : Int} {Q' : List Int} {c' : Int} (h : FSt w0 wr L k Q c R v) (hk : k < 1000000) (hl : Q.length ≤ 100) (hi : 0 ≤ i ∧ i < 10)
    (hs : ∀ s, FQ s Q c → (acqS s i 0 0 65535).1 = a ∧ (acqS s i 0 0 65535).2.1 = b ∧ FQ (acqS s i 0 0 65535).2.2 Q' c') :
    Calls Try.prog 13 #[ptr L, .int .i64 i, .int .i64 0, .int .u64 0, .int .u64 65535] wr fun e w' => e = .returned (.tuple #[.int .i64 a, .int .i64 b]) ∧ FSt w0 w' L (k + 1) Q' c' R v := by
  obtain ⟨F, s, y, h1, h2, h3, h4, h5, h6⟩ := h
  have hc0 : 0 ≤ c := by
    rcases Q with _ | ⟨q, r⟩
    · rw [h2.c0 rfl]; exact Int.le_refl 0
    · have := h2.c1 (by simp); omega
  have hC := acquire_any (i := i) (id := 0) (now := 0) (to := 65535) h1 (in_small (by omega)) (in_small (by omega)) hk (fun x hx => by
      rw [h2.ob] at hx; injection hx with hx; subst hx
      exact ⟨by show Q.tail.length ≤ 1000; rw [List.length_tail]; omega, hc0⟩) (fun j hj => by
      rw [h2.hd i] at hj
      split at hj
      · rw [List.mem_singleton.1 hj]; exact ⟨in_small (by omega), by rw [h2.ob]; rfl⟩
      · cases hj) (by rw [h2.hd i]; split <;> simp)
  obtain ⟨e1, e2, e3⟩ := hs s h2
  rw [e1, e2] at hC
  refine hC.mono ?_
  rintro e w' ⟨he, ⟨y', h7⟩, h8⟩
  exact ⟨he, F, _, y', h7, e3, h3.ch h8 (fun g hg hn => hn (h4 g hg).1), h4, h5, h6.trans (Keep.below h8 h5 h6.size)⟩
theorem FSt.rel {i : Int} {a : Int} {Q' : List Int} {c' : Int} (h : FSt w0 wr L k Q c R v) (hk : k < 1000000) (hl : Q.length ≤ 100) (hc : c ≤ 255) (hi : 0 ≤ i ∧ i < 10) (hQ : Q.head? = some i)
    (hs : ∀ s, FQ s Q c → (relS s i 0).1 = a ∧ FQ (relS s i 0).2 Q' c') :
    Calls Try.prog 14 #[ptr L, .int .i64 i, .int .i64 0] wr fun e w' => e = .returned (.int .i64 a) ∧ FSt w0 w' L (k + 1) Q' c' R v := by
  obtain ⟨F, s, y, h1, h2, h3, h4, h5, h6⟩ := h
  have hc0 : 0 ≤ c := by
    rcases Q with _ | ⟨q, r⟩
    · rw [h2.c0 rfl]; exact Int.le_refl 0
    · have := h2.c1 (by simp); omega
  have hC := release_any (i := i) (id := 0) h1 (in_small (by omega)) (in_small (by omega)) hk (fun x hx => by
      rw [h2.ob] at hx; injection hx with hx; subst hx
      exact ⟨by show Q.tail.length ≤ 1000; rw [List.length_tail]; omega, hc0, hc, fun b hb => by have := h2.rg b (List.mem_of_mem_tail hb); exact in_small (by omega)⟩) (fun j hj => by
      rw [h2.hd i, if_pos hQ] at hj
      rw [List.mem_singleton.1 hj]; exact ⟨in_small (by omega), by rw [h2.ob]; rfl⟩) (fun j t ht => by
      have e : (stT s j).hd = t.hd := by unfold stT; rw [ht]; rfl
      rw [← e, h2.hd j]; split <;> simp) (fun x _ _ _ _ => by
      have hm : i ∈ Q := List.mem_of_mem_head? (by rw [hQ]; rfl)
      obtain ⟨t, ht⟩ := Option.isSome_iff_exists.1 (h2.th i hm)
      refine ⟨t, ht, ?_⟩
      have e : (stT s i).hd = t.hd := by unfold stT; rw [ht]; rfl
      rw [← e, h2.hd i, if_pos hQ]; simp)
  obtain ⟨e1, e3⟩ := hs s h2
  rw [e1] at hC
  refine hC.mono ?_
  rintro e w' ⟨he, ⟨y', h7⟩, h8⟩
  exact ⟨he, F, _, y', h7, e3, h3.ch h8 (fun g hg hn => hn (h4 g hg).1), h4, h5, h6.trans (Keep.below h8 h5 h6.size)⟩
theorem FSt.own (h : FSt w0 wr L k Q c R v) : Calls Try.prog 15 #[ptr L, .int .i64 0] wr fun e w' => e = .returned (.tuple #[.int .i64 (Q.headD 0), .bool (decide (Q ≠ []))]) ∧ wr = w' := by
  obtain ⟨F, s, y, h1, h2, _⟩ := h
  have := owner_any (id := 0) h1 (in_small (by omega))
  rw [h2.own] at this
  exact this
theorem FSt.push (h : FSt w0 wr L k Q c R v) (a : Int) :
    (∀ j u, [Value.int .i64 a][j]? = some u → (wr.alloc (.cells #[.int .i64 a] 3)).cell? ((⟨wr.heap.size, 0, none⟩ : Addr).add j) = some u) ∧
    (wr.alloc (.cells #[.int .i64 a] 3)).ownsRow 0 3 1 v R.length (R.map (Value.int .i64)) ∧
    ∀ g cap w', w'.ownsRow 0 3 1 (.slice (some ⟨g, 0, none⟩) (R.length + 1) cap) (R.length + 1) (R.map (Value.int .i64) ++ [.int .i64 a]) → (wr.alloc (.cells #[.int .i64 a] 3)).grownBy w' v.ownBlock → (v.ownBlock = some g ∨ g = wr.heap.size + 1) → g < w'.heap.size →
      FSt w0 w' L k Q c (R ++ [a]) (.slice (some ⟨g, 0, none⟩) (R.length + 1) cap) := by
  obtain ⟨F, s, y, h1, h2, h3, h4, h5, h6⟩ := h
  refine ⟨World.news_of_block (heap_alloc_new wr _), World.ownsRow.alloc h3.1 _, fun g cap w' ho hg hat hlt => ?_⟩
  have ch : Ch F wr w' := ((Ch.refl F wr).alloc _).andThen (Ch.of_grown (C := fun k => v.ownBlock = some k) hg (fun k hk _ => hk)) (fun k hk _ => (h4 k hk).1)
  have hq : QR w' noF (.slice (some ⟨g, 0, none⟩) (R.length + 1) cap) (R ++ [a]) := ⟨by rw [List.length_append, List.map_append]; exact ho, fun _ _ h => h⟩
  have hb : Below w0.heap.size w0 w' := Below.grown (h6.alloc h6.size _) hg (by have := h6.size; simp; omega) (fun k hk => (h4 k hk).2)
  rcases hat with h7 | h7
  · exact ⟨F, s, y, h1.foreign ch, h2, hq, fun k hk => by
      have e : g = k := by simpa [Value.ownBlock] using hk
      subst e; exact h4 g h7, h5, hb⟩
  · obtain ⟨y', h8⟩ := h1.adopt ch (g := g) (by omega) hlt
    exact ⟨_, s, y', h8, h2, hq, fun k hk => by
      have e : g = k := by simpa [Value.ownBlock] using hk
      subst e; exact ⟨.inr rfl, by have := h6.size; omega⟩, fun k hk => .inl (h5 k hk), hb⟩
end
end Go.Proofs.Ytefgfmnnaglfmaa
