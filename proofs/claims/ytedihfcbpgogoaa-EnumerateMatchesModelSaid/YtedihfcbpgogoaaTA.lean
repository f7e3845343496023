/- A topology under construction: memory and plain facts. No condition. -/
import Derived.Test.YtedihfcbpgogoaaBA
namespace Go.Proofs.Ytedihfcbpgogoaa
open Go.RowKit
/-- The bars of f lie in a block that meets D. -/
def BVf (w : World) (f : Fn) (D : Nat → Prop) : Prop := ∃ a cap, f.bv = .slice a f.ba.length cap ∧ BarS w a f.ba.length cap f.ba ∧ ∀ b o, a = some ⟨b, o, none⟩ → b < w.heap.size ∧ D b
/-- A topology under construction: map X, bridges vb, functions vo; the blocks of R are none of its own. -/
structure TS (w wr : World) (X : Nat) (vb vo : Value) (Lb : List Int) (T : List Fn) (S : Int → Int → Bool) (n : Nat) (R : Nat → Prop) : Prop where
  bel : Below w.heap.size w wr
  map : MSet Try.prog wr 50 X n S
  row : IR wr vb Lb
  out : wr.ownsRow 0 25 11 vo T.length (T.flatMap cF)
  nX : w.heap.size ≤ X ∧ ¬ R X
  nb : ∀ g, vb.ownBlock = some g → w.heap.size ≤ g ∧ g ≠ X ∧ ¬ R g
  no : ∀ g, vo.ownBlock = some g → w.heap.size ≤ g ∧ g ≠ X ∧ vb.ownBlock ≠ some g ∧ ¬ R g
  bars : ∀ f ∈ T, BVf wr f (fun b => w.heap.size ≤ b ∧ b ≠ X ∧ vb.ownBlock ≠ some b ∧ vo.ownBlock ≠ some b ∧ ¬ R b)
  rb : ∀ k, R k → w.heap.size ≤ k ∧ k < wr.heap.size
theorem SLs.ch {α : Type} {cf : α → List Value} {n : Nat} {wf : α → Prop} {C : Nat → Prop} {w w' : World} {a : Option Addr} {len cap : Nat} {l : List α} (h : SLs cf n wf w a len cap l) (hb : Ch C w w') (hC : ∀ b o, a = some ⟨b, o, none⟩ → ¬ C b) : SLs cf n wf w' a len cap l := by
  obtain ⟨h1, h2, h3, h4, h5⟩ := h
  refine ⟨h1, h2, h3, h4, fun hne => ?_⟩
  obtain ⟨b, o, e, hl, hr⟩ := h5 hne
  exact ⟨b, o, e, Nat.lt_of_lt_of_le hl hb.size, fun i c hc j u hu => (hb.cell ⟨b, o + i * n + j, none⟩ hl (hC b o e)).trans (hr i c hc j u hu)⟩
theorem BVf.ch {C D : Nat → Prop} {w w' : World} {f : Fn} (h : BVf w f D) (hb : Ch C w w') (hC : ∀ b, D b → ¬ C b) : BVf w' f D := by
  obtain ⟨a, cap, e, hs, hd⟩ := h
  exact ⟨a, cap, e, hs.ch hb (fun b o h => hC b (hd b o h).2), fun b o h => ⟨Nat.lt_of_lt_of_le (hd b o h).1 hb.size, (hd b o h).2⟩⟩
theorem BVf.mono {D E : Nat → Prop} {w : World} {f : Fn} (h : BVf w f D) (hd : ∀ b, b < w.heap.size → D b → E b) : BVf w f E := by
  obtain ⟨a, cap, e, hs, h⟩ := h
  exact ⟨a, cap, e, hs, fun b o h1 => ⟨(h b o h1).1, hd b (h b o h1).1 (h b o h1).2⟩⟩
theorem own_ch {e sz : Nat} {v : Value} {n : Nat} {xs : List Value} {C : Nat → Prop} {w w' : World} (h : w.ownsRow 0 e sz v n xs) (k : Ch C w w') (hC : ∀ g, v.ownBlock = some g → ¬ C g) : w'.ownsRow 0 e sz v n xs := by
  obtain ⟨a, b | ⟨g, cap, cur, rfl, c, d, r⟩⟩ := h
  · exact ⟨a, .inl b⟩
  · exact ⟨a, .inr ⟨g, cap, cur, rfl, c, (k.block g (heap_lt d) (hC g rfl)).trans d, r⟩⟩
section
variable {w wr w' : World} {X : Nat} {vb vo : Value} {Lb : List Int} {T : List Fn} {S : Int → Int → Bool} {n : Nat} {R : Nat → Prop}
theorem TS.ch (h : TS w wr X vb vo Lb T S n R) (c : Ch R wr w') : TS w w' X vb vo Lb T S n R where
  bel := h.bel.trans (c.below h.bel.size (fun i hi => (h.rb i hi).1))
  map := h.map.ch c h.nX.2
  row := h.row.ch c (fun g hg => (h.nb g hg).2.2)
  out := own_ch h.out c (fun g hg => (h.no g hg).2.2.2)
  nX := h.nX
  nb := h.nb
  no := h.no
  bars f hf := (h.bars f hf).ch c (fun _ hb => hb.2.2.2.2)
  rb k hk := ⟨(h.rb k hk).1, Nat.lt_of_lt_of_le (h.rb k hk).2 c.size⟩
/-- New blocks become foreign. -/
theorem TS.adopt {R' : Nat → Prop} (h : TS w wr X vb vo Lb T S n R) (c : Below wr.heap.size wr w') (hR : ∀ k, R' k → wr.heap.size ≤ k ∧ k < w'.heap.size) : TS w w' X vb vo Lb T S n R' := by
  have h1 := h.ch (Ch.of_below c R)
  have hs := h.bel.size
  refine ⟨h1.bel, h1.map, h1.row, h1.out, ⟨h.nX.1, fun hk => ?_⟩, fun g hg => ⟨(h.nb g hg).1, (h.nb g hg).2.1, fun hk => ?_⟩, fun g hg => ⟨(h.no g hg).1, (h.no g hg).2.1, (h.no g hg).2.2.1, fun hk => ?_⟩, fun f hf => ?_, fun k hk => ⟨by have := hR k hk; omega, (hR k hk).2⟩⟩
  · have := hR _ hk; have := h.map.lt; omega
  · have := hR _ hk; have := h.row.lt g hg; omega
  · have := hR _ hk; have := (World.ownsRow.lt h.out g hg).2; omega
  · have hb : BVf wr f (fun b => w.heap.size ≤ b ∧ b ≠ X ∧ vb.ownBlock ≠ some b ∧ vo.ownBlock ≠ some b ∧ ¬ R' b) := (h.bars f hf).mono (fun b hb hd => ⟨hd.1, hd.2.1, hd.2.2.1, hd.2.2.2.1, fun hk => by have := hR b hk; omega⟩)
    exact hb.ch (Ch.of_below c (fun _ => False)) (fun _ _ h => h)
theorem TS.forget (h : TS w wr X vb vo Lb T S n R) : TS w wr X vb vo Lb T S n (fun _ => False) :=
  ⟨h.bel, h.map, h.row, h.out, ⟨h.nX.1, fun h => h⟩, fun g hg => ⟨(h.nb g hg).1, (h.nb g hg).2.1, fun h => h⟩, fun g hg => ⟨(h.no g hg).1, (h.no g hg).2.1, (h.no g hg).2.2.1, fun h => h⟩,
   fun f hf => (h.bars f hf).mono (fun _ _ hd => ⟨hd.1, hd.2.1, hd.2.2.1, hd.2.2.2.1, fun h => h⟩), fun _ hk => hk.elim⟩
theorem TS.store {S' : Int → Int → Bool} {n' : Nat} (h : TS w wr X vb vo Lb T S n R) (m : MSet Try.prog w' 50 X n' S') (c : Ch (fun i => i = X) wr w') : TS w w' X vb vo Lb T S' n' R where
  bel := h.bel.trans (c.below h.bel.size (fun i hi => by rw [hi]; exact h.nX.1))
  map := m
  row := h.row.ch c (fun g hg e => (h.nb g hg).2.1 e)
  out := own_ch h.out c (fun g hg e => (h.no g hg).2.1 e)
  nX := h.nX
  nb := h.nb
  no := h.no
  bars f hf := (h.bars f hf).ch c (fun b hb e => hb.2.1 e)
  rb k hk := ⟨(h.rb k hk).1, Nat.lt_of_lt_of_le (h.rb k hk).2 c.size⟩
/-- A row's append, as what may have changed. -/
theorem app_ch {o : Obj} {v : Value} (hg : (wr.alloc o).grownBy w' v.ownBlock) : Ch (fun k => v.ownBlock = some k) wr w' := ((Ch.refl _ wr).alloc _).andThen (Ch.of_grown hg (C := fun k => v.ownBlock = some k) (fun _ hk _ => hk)) (fun _ hi _ => hi)
theorem TS.pushB {o : Obj} {g cap m : Nat} {Lb' : List Int} (h : TS w wr X vb vo Lb T S n R) (hr : IR w' (.slice (some ⟨g, 0, none⟩) m cap) Lb') (hg : (wr.alloc o).grownBy w' vb.ownBlock) (hat : vb.ownBlock = some g ∨ g = wr.heap.size + 1) : TS w w' X (.slice (some ⟨g, 0, none⟩) m cap) vo Lb' T S n R := by
  have c := app_ch hg
  have hs := h.bel.size
  have far : ∀ k, k < wr.heap.size → vb.ownBlock ≠ some k → k ≠ g := fun k hk hn e => by
    subst e
    rcases hat with h1 | h1
    · exact hn h1
    · omega
  refine ⟨h.bel.trans (c.below h.bel.size (fun i hi => (h.nb i hi).1)), h.map.ch c (fun e => (h.nb X e).2.1 rfl), hr, own_ch h.out c (fun k hk e => (h.no k hk).2.2.1 e), h.nX, fun k hk => ?_, fun k hk => ?_, fun f hf => ?_, fun k hk => ⟨(h.rb k hk).1, Nat.lt_of_lt_of_le (h.rb k hk).2 c.size⟩⟩
  · have e : g = k := by simpa [Value.ownBlock] using hk
    subst e
    rcases hat with h1 | h1
    · exact h.nb g h1
    · exact ⟨by omega, by have := h.map.lt; omega, fun hk => by have := (h.rb g hk).2; omega⟩
  · have a := h.no k hk
    refine ⟨a.1, a.2.1, fun e => ?_, a.2.2.2⟩
    have e : g = k := by simpa [Value.ownBlock] using e
    exact far k (World.ownsRow.lt h.out k hk).2 a.2.2.1 e.symm
  · have hb := (h.bars f hf).ch c (fun b hb => hb.2.2.1)
    obtain ⟨a, cp, e1, e2, e3⟩ := h.bars f hf
    obtain ⟨a', cp', e1', e2', e3'⟩ := hb
    refine ⟨a', cp', e1', e2', fun b o hb => ⟨(e3' b o hb).1, ?_⟩⟩
    have d := (e3' b o hb).2
    refine ⟨d.1, d.2.1, fun e => ?_, d.2.2.2⟩
    have e : g = b := by simpa [Value.ownBlock] using e
    rw [e1] at e1'
    injection e1' with e4 _ _
    exact far b (e3 b o (by rw [e4]; exact hb)).1 d.2.2.1 e.symm
theorem TS.pushO {o : Obj} {g cap m : Nat} {f : Fn} (h : TS w wr X vb vo Lb T S n R) (hm : m = T.length + 1) (hr : w'.ownsRow 0 25 11 (.slice (some ⟨g, 0, none⟩) m cap) m (T.flatMap cF ++ cF f)) (hg : (wr.alloc o).grownBy w' vo.ownBlock) (hat : vo.ownBlock = some g ∨ g = wr.heap.size + 1)
    (hf : BVf wr f (fun b => w.heap.size ≤ b ∧ b ≠ X ∧ vb.ownBlock ≠ some b ∧ vo.ownBlock ≠ some b ∧ ¬ R b)) : TS w w' X vb (.slice (some ⟨g, 0, none⟩) m cap) Lb (T ++ [f]) S n R := by
  have c := app_ch hg
  have hs := h.bel.size
  have far : ∀ k, k < wr.heap.size → vo.ownBlock ≠ some k → k ≠ g := fun k hk hn e => by
    subst e
    rcases hat with h1 | h1
    · exact hn h1
    · omega
  have hbv : ∀ f, BVf wr f (fun b => w.heap.size ≤ b ∧ b ≠ X ∧ vb.ownBlock ≠ some b ∧ vo.ownBlock ≠ some b ∧ ¬ R b) → BVf w' f (fun b => w.heap.size ≤ b ∧ b ≠ X ∧ vb.ownBlock ≠ some b ∧ (Value.slice (some ⟨g, 0, none⟩) m cap).ownBlock ≠ some b ∧ ¬ R b) := fun f hf => by
    have hb := hf.ch c (fun b hb => hb.2.2.2.1)
    obtain ⟨a, cp, e1, e2, e3⟩ := hf
    obtain ⟨a', cp', e1', e2', e3'⟩ := hb
    refine ⟨a', cp', e1', e2', fun b o hb => ⟨(e3' b o hb).1, ?_⟩⟩
    have d := (e3' b o hb).2
    refine ⟨d.1, d.2.1, d.2.2.1, fun e => ?_, d.2.2.2.2⟩
    have e : g = b := by simpa [Value.ownBlock] using e
    rw [e1] at e1'
    injection e1' with e4 _ _
    exact far b (e3 b o (by rw [e4]; exact hb)).1 d.2.2.2.1 e.symm
  refine ⟨h.bel.trans (c.below h.bel.size (fun i hi => (h.no i hi).1)), h.map.ch c (fun e => (h.no X e).2.1 rfl), h.row.ch c (fun k hk e => (h.no k e).2.2.1 hk), ?_, h.nX, h.nb, fun k hk => ?_, fun f' hf' => ?_, fun k hk => ⟨(h.rb k hk).1, Nat.lt_of_lt_of_le (h.rb k hk).2 c.size⟩⟩
  · rw [List.length_append, List.flatMap_append]
    subst hm
    simpa using hr
  · have e : g = k := by simpa [Value.ownBlock] using hk
    subst e
    rcases hat with h1 | h1
    · exact h.no g h1
    · exact ⟨by omega, by have := h.map.lt; omega, fun e => by have := h.row.lt g e; omega, fun hk => by have := (h.rb g hk).2; omega⟩
  · rcases List.mem_append.1 hf' with h1 | h1
    · exact hbv f' (h.bars f' h1)
    · obtain rfl : f' = f := by simpa using h1
      exact hbv f' hf
end
end Go.Proofs.Ytedihfcbpgogoaa
namespace Go.Proofs.Ytedihfcbpgogoaa
open Go.RowKit
theorem fAt_app {T : List Fn} {N : List Fn} {i : Nat} (h : i < T.length) : fAt (T ++ N) i = fAt T i := by
  unfold fAt; rw [List.getD_eq_getElem?_getD, List.getD_eq_getElem?_getD, List.getElem?_append_left h]
theorem fAt_new {T : List Fn} (f : Fn) : fAt (T ++ [f]) T.length = f := by
  unfold fAt; rw [List.getD_eq_getElem?_getD, List.getElem?_append_right (Nat.le_refl _)]; simp
theorem vI.app {T N : List Fn} {i : Nat} (h : vI T i) (hi : i < T.length) : vI (T ++ N) i := by
  have hp := h.pa
  refine ⟨by rw [fAt_app hi]; exact h.fn, by rw [fAt_app hi]; exact hp, fun h0 => ?_, fun j hj => ?_⟩
  · rw [fAt_app hi] at h0 ⊢
    rw [fAt_app (by omega)]
    exact h.br h0
  · rw [fAt_app hi, fAt_app (by omega)]
    exact h.un j hj
theorem seen_app {T N : List Fn} : ∀ (i : Nat), i ≤ T.length → seen (T ++ N) i = seen T i := by
  intro i
  induction i with
  | zero => intro _; rw [seen_zero, seen_zero]
  | succ i ih => intro hi; rw [seen_succ, seen_succ, ih (by omega), fAt_app (by omega)]
/-- What holds of a topology under construction. -/
structure TG (Lb : List Int) (T : List Fn) : Prop where
  ok : ∀ i, i < T.length → vI T i
  wf : ∀ f ∈ T, wfF f
  lb : ∀ x ∈ Lb, x = -1 ∨ ∃ k : Nat, x = (k : Int) ∧ k < T.length ∧ (fAt T k).br = true
  ln : 1 ≤ Lb.length ∧ Lb.length ≤ T.length + 1
def vcs : List Int := [0, 1, 2, 4, 16, 32]
def vcv (q : Nat) : Int := vcs.getD q 0
theorem vcv_ok {q : Nat} (h : q < 6) : 0 ≤ vcv q ∧ vcv q ≤ 32 ∧ (bits BinOp.and IntKind.i64 (vcv q) (vcv q - 1) != 0) = false := by
  rcases (by omega : q = 0 ∨ q = 1 ∨ q = 2 ∨ q = 3 ∨ q = 4 ∨ q = 5) with rfl | rfl | rfl | rfl | rfl | rfl <;> decide
structure FG (f : Fn) (q : Nat) : Prop where
  ve : 1 ≤ f.ve ∧ f.ve ≤ 9
  de : 0 ≤ f.de ∧ f.de ≤ 8
  sl : 0 ≤ f.sl ∧ f.sl ≤ 7
  pn : 0 ≤ f.pn ∧ f.pn ≤ 4
  sp : 0 ≤ f.sp ∧ f.sp ≤ 3
  vc : f.vc = vcv q ∧ q < 6
  hs : 0 < f.sp → f.br = true ∧ f.hp = true
  nb : f.br = false → f.pf = false ∧ f.hp = false
  ba : AB f.ba ∧ (f.ba.length : Int) ≤ rgs f.br
theorem FG.vF {f : Fn} {q : Nat} (h : FG f q) : vF f := by
  obtain ⟨v1, v2, v3⟩ := vcv_ok h.vc.2
  have := h.ve; have := h.de; have := h.sl; have := h.pn; have := h.sp; have hv := h.vc.1
  exact ⟨⟨by omega, by omega, by omega, by omega, by omega, by rw [hv]; omega, by rw [hv]; exact v3, h.hs, h.nb⟩, h.ba.2, h.ba.1⟩
theorem TG.push {Lb : List Int} {T : List Fn} {f : Fn} {q : Nat} (h : TG Lb T) (hT : T.length < 30) (g : FG f q) (hp : f.pa ∈ Lb) (hs : seen T T.length f.pa f.sl = false) : TG (if f.br = true then Lb ++ [(T.length : Int)] else Lb) (T ++ [f]) := by
  have hpa : f.pa = -1 ∨ ∃ k : Nat, f.pa = (k : Int) ∧ k < T.length ∧ (fAt T k).br = true := h.lb _ hp
  have hpr : -1 ≤ f.pa ∧ f.pa < (T.length : Int) := by rcases hpa with e | ⟨k, e, hk, _⟩ <;> omega
  refine ⟨fun i hi => ?_, fun f' hf' => ?_, fun x hx => ?_, ?_⟩
  · rw [List.length_append] at hi
    by_cases hil : i < T.length
    · exact (h.ok i hil).app hil
    · obtain rfl : i = T.length := by simp at hi; omega
      refine ⟨by rw [fAt_new]; exact g.vF, by rw [fAt_new]; exact hpr, fun h0 => ?_, fun j hj => ?_⟩
      · rw [fAt_new] at h0 ⊢
        rcases hpa with e | ⟨k, e, hk, hb⟩
        · omega
        · rw [e, Int.toNat_natCast, fAt_app hk]; exact hb
      · rw [fAt_new, fAt_app hj]
        exact seen_false hs j hj
  · rcases List.mem_append.1 hf' with h1 | h1
    · exact h.wf f' h1
    · obtain rfl : f' = f := by simpa using h1
      obtain ⟨v1, v2, _⟩ := vcv_ok g.vc.2
      have := g.ve; have := g.de; have := g.sl; have := g.pn; have := g.sp; have hv := g.vc.1
      unfold wfF InI
      rw [hv]
      omega
  · have hold : ∀ x ∈ Lb, x = -1 ∨ ∃ k : Nat, x = (k : Int) ∧ k < (T ++ [f]).length ∧ (fAt (T ++ [f]) k).br = true := fun x hx => by
      rcases h.lb x hx with e | ⟨k, e, hk, hb⟩
      · exact .inl e
      · exact .inr ⟨k, e, by simp; omega, by rw [fAt_app hk]; exact hb⟩
    by_cases hb : f.br = true
    · rw [if_pos hb] at hx
      rcases List.mem_append.1 hx with h1 | h1
      · exact hold x h1
      · exact .inr ⟨T.length, by simpa using h1, by simp, by rw [fAt_new]; exact hb⟩
    · rw [if_neg hb] at hx; exact hold x hx
  · have := h.ln
    split <;> simp <;> omega
theorem TG.vld {Lb : List Int} {T : List Fn} (h : TG Lb T) (hT : T.length ≤ 30) : Vld T := ⟨by omega, h.ok⟩
end Go.Proofs.Ytedihfcbpgogoaa
