/- Plain law 6: what a change of the store leaves, with and without a loss of power. No condition, no program. -/
import Derived.Test.YtfglopkglnpokaaPE
namespace Go.Proofs.Ytfglopkglnpokaa
open Go.RowKit
/-- Blocks into which the store may be compacted. -/
def elig (fl : FL) (d : Nat) : Prop := blankP (pgsF fl d) = true ∨ fl.er d < fl.E
theorem tgtK_spec (fl : FL) (blk : Nat) : ∀ k,
    ((tgtK fl blk k).2.2 = true → (tgtK fl blk k).1 < k ∧ (tgtK fl blk k).1 ≠ blk ∧ (tgtK fl blk k).2.1 = blankP (pgsF fl (tgtK fl blk k).1) ∧ elig fl (tgtK fl blk k).1 ∧ ∀ d, d < k → d ≠ blk → elig fl d → fl.er (tgtK fl blk k).1 ≤ fl.er d) ∧
    ((tgtK fl blk k).2.2 = false → ∀ d, d < k → d ≠ blk → ¬ elig fl d)
  | 0 => ⟨(fun h => by cases h), fun _ d hd => by omega⟩
  | k + 1 => by
    have ih := tgtK_spec fl blk k
    rw [tgtK_succ]
    generalize tgtK fl blk k = t at *
    unfold tstep
    by_cases h1 : k = blk
    · rw [if_pos (.inl h1)]
      refine ⟨fun h => ?_, fun h d hd hne he => ?_⟩
      · obtain ⟨a, b, c, d, e⟩ := ih.1 h
        exact ⟨by omega, b, c, d, fun x hx hne he => e x (by omega) hne he⟩
      · exact ih.2 h d (by omega) hne he
    · by_cases h2 : t.2.2 = true ∧ fl.er t.1 ≤ fl.er k
      · rw [if_pos (.inr h2)]
        refine ⟨fun h => ?_, fun h => by rw [h2.1] at h; cases h⟩
        obtain ⟨a, b, c, d, e⟩ := ih.1 h
        refine ⟨by omega, b, c, d, fun x hx hne he => ?_⟩
        rcases (by omega : x < k ∨ x = k) with hx | hx
        · exact e x hx hne he
        · rw [hx]; exact h2.2
      · rw [if_neg (fun h => h.elim h1 h2)]
        by_cases h3 : blankP (pgsF fl k) = false ∧ fl.E ≤ fl.er k
        · rw [if_pos h3]
          have hk : ¬ elig fl k := fun h => h.elim (fun h => by rw [h3.1] at h; cases h) (fun h => by omega)
          refine ⟨fun h => ?_, fun h d hd hne he => ?_⟩
          · obtain ⟨a, b, c, d, e⟩ := ih.1 h
            refine ⟨by omega, b, c, d, fun x hx hne he => ?_⟩
            rcases (by omega : x < k ∨ x = k) with hx | hx
            · exact e x hx hne he
            · rw [hx] at he; exact absurd he hk
          · rcases (by omega : d < k ∨ d = k) with hx | hx
            · exact ih.2 h d hx hne he
            · rw [hx] at he; exact hk he
        · rw [if_neg h3]
          have hk : elig fl k := by
            unfold elig
            cases hb : blankP (pgsF fl k)
            · right; rcases Nat.lt_or_ge (fl.er k) fl.E with h | h
              · exact h
              · exact absurd ⟨hb, h⟩ h3
            · left; rfl
          refine ⟨fun _ => ⟨by omega, h1, rfl, hk, fun x hx hne he => ?_⟩, fun h => by cases h⟩
          rcases (by omega : x < k ∨ x = k) with hx | hx
          · cases ht : t.2.2
            · exact absurd he (ih.2 ht x hx hne)
            · have := (ih.1 ht).2.2.2.2 x hx hne he
              have h4 : ¬ fl.er t.1 ≤ fl.er k := fun h => h2 ⟨ht, h⟩
              show fl.er k ≤ fl.er x
              omega
          · rw [hx]; exact Nat.le_refl _
theorem blank_pages {fl : FL} {b : Nat} (h64 : ∀ q, q < fl.P → (fl.pg b q).length = 64) (h : blankP (pgsF fl b) = true) : ∀ q, q < fl.P → fl.pg b q = blank := fun q hq => by
  unfold blankP at h
  rw [List.all_eq_true] at h
  have := h (fl.pg b q) (by unfold pgsF; exact List.mem_map.2 ⟨q, List.mem_range.2 hq, rfl⟩)
  have := zeros_zero (by simpa using this)
  rw [this, h64 q hq]; rfl
theorem pages_blank {fl : FL} {b : Nat} (h : ∀ q, q < fl.P → fl.pg b q = blank) : blankP (pgsF fl b) = true := by
  unfold blankP
  rw [List.all_eq_true]
  intro p hp
  unfold pgsF at hp
  obtain ⟨q, hq, rfl⟩ := List.mem_map.1 hp
  rw [h q (List.mem_range.1 hq)]
  exact beq_iff_eq.2 (zeros_ff 64)
/-- Records of sorted variables, one after another. -/
theorem setV_last {V : Vars} {k v : Str} (h : ∀ p ∈ V, p.1 < k) : setV V k v = V ++ [(k, v)] := by
  induction V with
  | nil => rfl
  | cons p r ih =>
    have h1 := h p (by simp)
    unfold setV
    rw [if_neg (fun h2 => List.lt_irrefl _ (List.lt_trans h1 h2)), if_neg (fun e => by rw [e] at h1; exact List.lt_irrefl _ h1), ih (fun q hq => h q (List.mem_cons_of_mem _ hq))]
    rfl
theorem run_all {ps : List Str} (hl : P64 ps) : ∀ (W U : Vars) (n : Nat), Srt (U ++ W) → (∀ p ∈ W, okLens 1 p.1.length p.2.length = true) → n + sumP (recs W) ≤ ps.length → (ps.drop n).take (sumP (recs W)) = allP (recs W) → Run ps U n (U ++ W) (n + sumP (recs W))
  | [], U, n, _, _, _, _ => by
    rw [List.append_nil]
    exact .refl _ _
  | p :: r, U, n, hs, hok, hin, he => by
    have e0 : recs (p :: r) = recd 1 p.1 p.2 :: recs r := rfl
    have e1 : sumP (recs (p :: r)) = pgs (5 + p.1.length + p.2.length) + sumP (recs r) := by rw [e0]; simp only [sumP, recd_len]
    have e2 : allP (recs (p :: r)) = pagesR (recd 1 p.1 p.2) ++ allP (recs r) := rfl
    rw [e1] at hin he ⊢
    rw [e2] at he
    have hlen : (pagesR (recd 1 p.1 p.2)).length = pgs (5 + p.1.length + p.2.length) := by rw [pagesR_len, recd_len]
    have h1 : (ps.drop n).take (pgs (5 + p.1.length + p.2.length)) = pagesR (recd 1 p.1 p.2) := by
      have := congrArg (List.take (pgs (5 + p.1.length + p.2.length))) he
      rw [List.take_take, Nat.min_eq_left (by omega), List.take_left' hlen] at this
      exact this
    have h2 : (ps.drop (n + pgs (5 + p.1.length + p.2.length))).take (sumP (recs r)) = allP (recs r) := by
      have := congrArg (List.drop (pgs (5 + p.1.length + p.2.length))) he
      rw [List.drop_left' hlen, List.drop_take, List.drop_drop] at this
      rw [← this]
      congr 1
      omega
    have h3 := run_one (V := U) hl (hok p (by simp)) (by omega) h1
    have h4 : appV U 1 p.1 p.2 = U ++ [p] := by
      show setV U p.1 p.2 = _
      rw [setV_last]
      intro q hq
      exact (List.pairwise_append.1 hs).2.2 q hq p (by simp)
    rw [h4] at h3
    have h5 := run_all hl r (U ++ [p]) (n + pgs (5 + p.1.length + p.2.length)) (by rw [List.append_assoc]; exact hs) (fun q hq => hok q (List.mem_cons_of_mem _ hq)) (by omega) h2
    rw [List.append_assoc] at h5
    rw [← Nat.add_assoc]
    exact h3.trans h5
def FL.on (g : FL) : FL := { g with off := false }
/-- A new current block. -/
theorem Inv.fresh {fl g : FL} {st : ST} {V : Vars} {t : Nat} (h : Inv fl st) (hS : Same fl g) (ho : g.off = false) (ht : t < fl.B) (hne : t ≠ st.blk) (hg : st.gen + 1 < 18446744073709551616) (hroom : 1 + sumP (recs V) ≤ fl.P) (hV : Srt V) (hok : ∀ p ∈ V, okLens 1 p.1.length p.2.length = true)
    (h0 : g.pg t 0 = pad (hdr (st.gen + 1))) (hr : ∀ i, i < sumP (recs V) → g.pg t (1 + i) = (allP (recs V)).getD i []) (hb : ∀ q, 1 + sumP (recs V) ≤ q → q < fl.P → g.pg t q = blank) (hother : ∀ c q, c ≠ t → g.pg c q = fl.pg c q) (her : ∀ b, b < fl.B → g.er b ≤ fl.E) :
    Inv g ⟨V, t, st.gen + 1, 1 + sumP (recs V), false⟩ := by
  have hB := h.B2
  have hP := h.P2
  obtain ⟨s1, s2, s3, s4⟩ := hS
  have hl : ∀ b q, b < fl.B → q < fl.P → (g.pg b q).length = 64 := fun b q hb' hq => by
    by_cases e : b = t
    · subst e
      rcases Nat.eq_zero_or_pos q with e | e
      · rw [e, h0, hdr_pad_len]
      · rcases Nat.lt_or_ge q (1 + sumP (recs V)) with e2 | e2
        · rw [show q = 1 + (q - 1) by omega, hr (q - 1) (by omega)]
          have hlt : q - 1 < (allP (recs V)).length := by rw [allP_len]; omega
          rw [List.getD_eq_getElem?_getD, List.getElem?_eq_getElem hlt]
          exact allP_64 _ _ (List.getElem_mem hlt)
        · rw [hb q e2 hq]; rfl
    · rw [hother b q e]; exact h.l64 b q hb' hq
  have h64 : P64 (pgsF g t) := pgsF_64 fun q hq => hl t q ht (by omega)
  refine ⟨by omega, by omega, fun b q hb' hq => hl b q (by omega) (by omega), ho, by rw [s1]; exact ht, hg, h0, ?_, by rw [s2]; exact hroom, fun _ q h1 h2 => hb q h1 (by omega), (fun k => by cases k), Nat.le_refl _, fun b hb' hbt => ?_, hV, hok, fun b hb' => by rw [s3]; exact her b (by omega)⟩
  · have h5 := run_all h64 V [] 1 hV hok (by rw [pgsF_len]; omega) (by
      have := pgsF_drop (fl := g) (b := t) (n := 1) (cs := allP (recs V)) (by rw [allP_len]; omega) (fun i hi => hr i (by rwa [allP_len] at hi))
      rwa [allP_len] at this)
    exact h5
  · have hbt' : b ≠ t := hbt
    rw [hother b 0 hbt']
    by_cases e : b = st.blk
    · subst e
      exact ⟨st.gen, h.g64, by rw [h.hd]; exact Sup.refl _, fun _ => Nat.lt_succ_self _⟩
    · obtain ⟨g1, k1, k2, k3⟩ := h.oth b (by omega) e
      exact ⟨g1, k1, k2, fun k => by have := k3 k; show g1 < st.gen + 1; omega⟩
theorem bump_le (f : Nat → Nat) (b c : Nat) : bump f b c ≤ f c + 1 := by
  unfold bump
  split
  · rename_i e; subst e; exact Nat.le_refl _
  · omega
/-- A change that came to its end. -/
def Done (fl : FL) (st : ST) (V : Vars) (r : Int × FL × ST) : Prop :=
  ∃ g st', r = (0, g, st') ∧ Inv g st' ∧ st'.V = V ∧ Same fl g ∧ (fl.cut = false → g.cut = false) ∧ (∀ c q, c ≠ st'.blk → g.pg c q = fl.pg c q) ∧
    ((st'.blk = st.blk ∧ st'.gen = st.gen ∧ g.er = fl.er) ∨ (∃ bl, tgtF fl st.blk = (st'.blk, bl, true) ∧ st'.gen = st.gen + 1 ∧ g.er = if bl = true then fl.er else bump fl.er st'.blk))
/-- A change in which the power was lost. -/
def Lost (fl : FL) (st : ST) (V : Vars) (r : Int × FL × ST) : Prop :=
  fl.cut = true ∧ ∃ g st', r = (16, g, st) ∧ g.off = true ∧ g.cut = false ∧ Same fl g ∧ Inv g.on st' ∧ (st'.V = st.V ∨ st'.V = V) ∧ st'.gen ≤ st.gen + 1 ∧ ∀ c, g.er c ≤ fl.er c + 1
theorem cmpF_cases {fl : FL} {st : ST} {V : Vars} (h : Inv fl st) (hV : Srt V) (hok : ∀ p ∈ V, okLens 1 p.1.length p.2.length = true) (hg : st.gen + 1 < 18446744073709551616) :
    Done fl st V (cmpF fl st V) ∨ (cmpF fl st V = (8, fl, st) ∧ (fl.P < 1 + sumP (recs V) ∨ ∀ d, d < fl.B → d ≠ st.blk → ¬ elig fl d)) ∨ Lost fl st V (cmpF fl st V) := by
  have hB := h.B2
  have hP := h.P2
  by_cases h1 : fl.P < 1 + sumP (recs V)
  · right; left
    exact ⟨cmp1 rfl h1, .inl h1⟩
  · obtain ⟨t, bl, fo, ht⟩ : ∃ t bl fo, tgtF fl st.blk = (t, bl, fo) := ⟨_, _, _, rfl⟩
    have hsp := tgtK_spec fl st.blk fl.B
    have ht' : tgtK fl st.blk fl.B = (t, bl, fo) := ht
    rw [ht'] at hsp
    cases fo
    · right; left
      exact ⟨cmp2 rfl h1 ht, .inr (hsp.2 rfl)⟩
    · obtain ⟨htB, hne, hbl, hel, _⟩ := hsp.1 rfl
      simp only at htB hne hbl hel
      have hmod : (st.gen + 1) % 18446744073709551616 = st.gen + 1 := Nat.mod_eq_of_lt hg
      have hl64 : ∀ q, q < fl.P → (fl.pg t q).length = 64 := fun q hq => h.l64 t q htB hq
      -- the target made ready
      have hprep : (∃ g, prepF fl (t, bl, true) = (0, g) ∧ g.off = false ∧ Same fl g ∧ g.er = (if bl = true then fl.er else bump fl.er t) ∧ (∀ q, q < fl.P → g.pg t q = blank) ∧ (∀ c q, c ≠ t → g.pg c q = fl.pg c q) ∧ (fl.cut = false → g.cut = false)) ∨
          (fl.cut = true ∧ ∃ g, prepF fl (t, bl, true) = (16, g) ∧ g.off = true ∧ g.cut = false ∧ Same fl g ∧ g.er = (if bl = true then fl.er else bump fl.er t) ∧ (∀ q, q < fl.P → Sup (g.pg t q) (fl.pg t q)) ∧ (∀ c q, c ≠ t → g.pg c q = fl.pg c q)) := by
        cases bl
        · have her : fl.er t < fl.E := hel.elim (fun k => by rw [← hbl] at k; cases k) id
          have := eraseF_cases h.off her hl64
          simpa [prepF] using this
        · left
          exact ⟨fl, rfl, h.off, Same.refl _, rfl, blank_pages hl64 hbl.symm, fun _ _ _ => rfl, id⟩
      have herle : ∀ c, c < fl.B → (if bl = true then fl.er else bump fl.er t) c ≤ fl.E := fun c hc => by
        cases bl
        · have her : fl.er t < fl.E := hel.elim (fun k => by rw [← hbl] at k; cases k) id
          show bump fl.er t c ≤ fl.E
          unfold bump
          split
          · omega
          · exact h.er c hc
        · exact h.er c hc
      have herb : ∀ c, (if bl = true then fl.er else bump fl.er t) c ≤ fl.er c + 1 := fun c => by
        cases bl
        · exact bump_le _ _ _
        · show fl.er c ≤ fl.er c + 1; omega
      obtain ⟨er', her'⟩ : ∃ er', (if bl = true then fl.er else bump fl.er t) = er' := ⟨_, rfl⟩
      rw [her'] at hprep herle herb
      rcases hprep with ⟨f1, p1, p2, p3, p4, p5, p6, p7⟩ | ⟨pc, f1, p1, p2, p2', p3, p4, p5, p6⟩
      · -- the records
        have hw := wrAll_wrL (recs V) f1 t 1
        have hbl1 : ∀ i, i < (allP (recs V)).length → f1.pg t (1 + i) = blank := fun i hi => p5 (1 + i) (by rw [allP_len] at hi; omega)
        rcases wrL_cases (allP (recs V)) f1 t 1 p2 hbl1 (allP_64 _) with ⟨f2, q1, q2, q3, q4, q5, q6⟩ | ⟨qc, f2, j, tp, q1, q2, q2', q3, q4, q5, q6, q7, q8⟩
        · rw [q1] at hw
          have hw3 := hw.2.2 hw.1
          have e2 : wrAll f1 t 1 (recs V) = (0, f2, 1 + sumP (recs V)) := Prod.ext hw.1 (Prod.ext hw.2.1 hw3)
          -- the header
          have hpg := hdr_pages (st.gen + 1)
          have hb0 : ∀ i, i < [pad (hdr (st.gen + 1))].length → f2.pg t (0 + i) = blank := fun i hi => by
            have : i = 0 := by simpa using hi
            subst this
            rw [q5, updP_off (.inl (by omega))]
            exact p5 0 (by omega)
          have hS2 : Same fl f2 := p3.trans q3
          rcases wrL_cases [pad (hdr (st.gen + 1))] f2 t 0 q2 hb0 (fun p hp => by rw [List.mem_singleton.1 hp]; exact hdr_pad_len _) with ⟨f3, r1, r2, r3, r4, r5, r6⟩ | ⟨rc, f3, j, tp, r1, r2, r2', r3, r4, r5, r6, r7, r8⟩
          · left
            have hpg2 : ∀ c q, f3.pg c q = updP (updP f1.pg t 1 (allP (recs V))) t 0 [pad (hdr (st.gen + 1))] c q := fun c q => by rw [r5, q5]
            have hx : ∀ c q, c ≠ t → f3.pg c q = fl.pg c q := fun c q hc => by rw [hpg2, updP_other hc, updP_other hc, p6 c q hc]
            have hI : Inv f3 ⟨V, t, st.gen + 1, 1 + sumP (recs V), false⟩ := h.fresh (hS2.trans r3) r2 htB hne hg (by omega) hV hok (by rw [hpg2]; exact updP_in (f := updP f1.pg t 1 (allP (recs V))) (b := t) (p := 0) (i := 0) (cs := [pad (hdr (st.gen + 1))]) (by simp)) (fun i hi => by
                rw [hpg2, updP_off (.inr (by show 0 + 1 ≤ 1 + i; omega)), updP_in (by rw [allP_len]; exact hi)]) (fun q k1 k2 => by
                rw [hpg2, updP_off (.inr (by simp; omega)), updP_off (.inr (by rw [allP_len]; omega))]
                exact p5 q k2) hx (fun b hb => by rw [r4, q4, p4]; exact herle b hb)
            refine ⟨f3, ⟨V, t, st.gen + 1, 1 + sumP (recs V), false⟩, ?_, hI, rfl, hS2.trans r3, fun hc => r6 (q6 (p7 hc)), hx, .inr ⟨bl, ht, rfl, by rw [r4, q4, p4]; exact her'.symm⟩⟩
            have := cmp6 (fl := fl) (st := st) rfl h1 ht p1 e2 (f3 := f3) (by rw [hmod, hpg]; exact r1)
            rw [hmod] at this
            exact this
          · right; right
            have hj : j = 0 := by simpa using r5
            subst hj
            have hpg2 : ∀ c q, f3.pg c q = updP (updP f1.pg t 1 (allP (recs V))) t 0 [tp] c q := fun c q => by rw [r6, q5]; rfl
            have hx : ∀ c q, c ≠ t → f3.pg c q = fl.pg c q := fun c q hc => by rw [hpg2, updP_other hc, updP_other hc, p6 c q hc]
            have h00 : f3.pg t 0 = tp := by rw [hpg2]; exact updP_in (f := updP f1.pg t 1 (allP (recs V))) (b := t) (p := 0) (i := 0) (cs := [tp]) (by simp)
            have hpq : ∀ q, 1 ≤ q → f3.pg t q = updP f1.pg t 1 (allP (recs V)) t q := fun q hq => by rw [hpg2, updP_off (.inr (by simp; omega))]
            have h8 : Sup tp (pad (hdr (st.gen + 1))) := r8
            have hc0 : fl.cut = true := by
              cases hfc : fl.cut
              · rw [q6 (p7 hfc)] at rc; cases rc
              · rfl
            have hE : cmpF fl st V = (16, f3, st) := cmp5 (fl := fl) (st := st) rfl h1 ht p1 e2 (f3 := f3) (by rw [hmod, hpg]; exact r1) (by decide)
            have hlt : ∀ q, 1 ≤ q → q < fl.P → (f3.pg t q).length = 64 := fun q k1 k2 => by
              rw [hpq q k1]
              rcases Nat.lt_or_ge q (1 + sumP (recs V)) with e | e
              · rw [show q = 1 + (q - 1) by omega, updP_in (by rw [allP_len]; omega)]
                have hlt : q - 1 < (allP (recs V)).length := by rw [allP_len]; omega
                rw [List.getD_eq_getElem?_getD, List.getElem?_eq_getElem hlt]
                exact allP_64 _ _ (List.getElem_mem hlt)
              · rw [updP_off (.inr (by rw [allP_len]; omega)), p5 q k2]; rfl
            by_cases hfull : tp = pad (hdr (st.gen + 1))
            · have hI : Inv f3.on ⟨V, t, st.gen + 1, 1 + sumP (recs V), false⟩ := h.fresh (hS2.trans r3) rfl htB hne hg (by omega) hV hok (h00.trans hfull) (fun i hi => by
                  show f3.pg t (1 + i) = _
                  rw [hpq _ (by omega), updP_in (by rw [allP_len]; exact hi)]) (fun q k1 k2 => by
                  show f3.pg t q = _
                  rw [hpq _ (by omega), updP_off (.inr (by rw [allP_len]; omega))]
                  exact p5 q k2) hx (fun b hb => by show f3.er b ≤ _; rw [r4, q4, p4]; exact herle b hb)
              exact ⟨hc0, f3, _, hE, r2, r2', hS2.trans r3, hI, .inr rfl, Nat.le_refl _, fun c => by rw [r4, q4, p4]; exact herb c⟩
            · have hI : Inv f3.on st := h.keep (hS2.trans r3) rfl (fun q hq => hx _ _ (fun e => hne e.symm)) (fun b q hb hq hbne => by
                  show (f3.pg b q).length = 64
                  by_cases e : b = t
                  · subst e
                    rcases Nat.eq_zero_or_pos q with e | e
                    · rw [e, h00]; exact r7
                    · exact hlt q e hq
                  · rw [hx b q e]; exact h.l64 b q hb hq) (fun b hb hbne => by
                  show ∃ g1, g1 < 18446744073709551616 ∧ Sup (f3.pg b 0) (pad (hdr g1)) ∧ (f3.pg b 0 = pad (hdr g1) → g1 < st.gen)
                  by_cases e : b = t
                  · subst e
                    rw [h00]
                    exact ⟨st.gen + 1, hg, h8, fun k => absurd k hfull⟩
                  · rw [hx b 0 e]; exact h.oth b hb hbne) (fun b hb => by show f3.er b ≤ _; rw [r4, q4, p4]; exact herle b hb)
              exact ⟨hc0, f3, st, hE, r2, r2', hS2.trans r3, hI, .inl rfl, by omega, fun c => by rw [r4, q4, p4]; exact herb c⟩
        · right; right
          rw [q1] at hw
          have hc0 : fl.cut = true := by
            cases hfc : fl.cut
            · rw [p7 hfc] at qc; cases qc
            · rfl
          obtain ⟨p', e2⟩ : ∃ p', wrAll f1 t 1 (recs V) = (16, f2, p') := ⟨_, Prod.ext hw.1 (Prod.ext hw.2.1 rfl)⟩
          have hE : cmpF fl st V = (16, f2, st) := cmp4 rfl h1 ht p1 e2 (by decide)
          have hS2 : Same fl f2 := p3.trans q3
          have hx : ∀ c q, c ≠ t → f2.pg c q = fl.pg c q := fun c q hc => by rw [q6, updP_other hc, p6 c q hc]
          have hlj : ((allP (recs V)).take j ++ [tp]).length = j + 1 := by rw [List.length_append, List.length_take, Nat.min_eq_left (by omega)]; rfl
          rw [allP_len] at q5
          have hI : Inv f2.on st := h.keep hS2 rfl (fun q hq => hx _ _ (fun e => hne e.symm)) (fun b q hb hq hbne => by
              show (f2.pg b q).length = 64
              by_cases e : b = t
              · subst e
                rw [q6]
                rcases (by omega : q < 1 ∨ (1 ≤ q ∧ q < 1 + (j + 1)) ∨ 1 + (j + 1) ≤ q) with e | e | e
                · rw [updP_off (.inl e), p5 q hq]; rfl
                · rw [show q = 1 + (q - 1) by omega, updP_in (by omega)]
                  have hlt : q - 1 < ((allP (recs V)).take j ++ [tp]).length := by omega
                  rw [List.getD_eq_getElem?_getD, List.getElem?_eq_getElem hlt]
                  have hm : ((allP (recs V)).take j ++ [tp])[q - 1] ∈ (allP (recs V)).take j ++ [tp] := List.getElem_mem hlt
                  rcases List.mem_append.1 hm with hm | hm
                  · exact allP_64 _ _ (List.mem_of_mem_take hm)
                  · show List.length (((allP (recs V)).take j ++ [tp])[q - 1]) = 64
                    rw [List.mem_singleton.1 hm]; exact q7
                · rw [updP_off (.inr (by omega)), p5 q hq]; rfl
              · rw [hx b q e]; exact h.l64 b q hb hq) (fun b hb hbne => by
              show ∃ g1, g1 < 18446744073709551616 ∧ Sup (f2.pg b 0) (pad (hdr g1)) ∧ (f2.pg b 0 = pad (hdr g1) → g1 < st.gen)
              by_cases e : b = t
              · subst e
                rw [q6, updP_off (.inl (by omega)), p5 0 (by omega)]
                exact ⟨0, by omega, blank_sup 0, fun k => absurd k.symm (hdr_blank 0)⟩
              · rw [hx b 0 e]; exact h.oth b hb hbne) (fun b hb => by show f2.er b ≤ _; rw [q4, p4]; exact herle b hb)
          exact ⟨hc0, f2, st, hE, q2, q2', hS2, hI, .inl rfl, by omega, fun c => by rw [q4, p4]; exact herb c⟩
      · right; right
        have hE : cmpF fl st V = (16, f1, st) := cmp3 rfl h1 ht p1 (by decide)
        have hI : Inv f1.on st := h.keep p3 rfl (fun q hq => p6 _ _ (fun e => hne e.symm)) (fun b q hb hq hbne => by
            show (f1.pg b q).length = 64
            by_cases e : b = t
            · subst e
              rw [(p5 q hq).len]; exact hl64 q hq
            · rw [p6 b q e]; exact h.l64 b q hb hq) (fun b hb hbne => by
            show ∃ g1, g1 < 18446744073709551616 ∧ Sup (f1.pg b 0) (pad (hdr g1)) ∧ (f1.pg b 0 = pad (hdr g1) → g1 < st.gen)
            by_cases e : b = t
            · subst e
              obtain ⟨g1, k1, k2, k3⟩ := h.oth b hb hbne
              refine ⟨g1, k1, (p5 0 (by omega)).trans k2, fun k => k3 ?_⟩
              refine Sup.antisymm k2 ?_
              rw [← k]; exact p5 0 (by omega)
            · rw [p6 b 0 e]; exact h.oth b hb hbne) (fun b hb => by show f1.er b ≤ _; rw [p4]; exact herle b hb)
        exact ⟨pc, f1, st, hE, p2, p2', p3, hI, .inl rfl, by omega, fun c => by rw [p4]; exact herb c⟩
end Go.Proofs.Ytfglopkglnpokaa
