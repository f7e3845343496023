/- Plain law 7: a record appended, whole or torn; what a call of Set or Delete leaves. No condition, no program. -/
import Derived.Test.YtfglopkglnpokaaPF
namespace Go.Proofs.Ytfglopkglnpokaa
open Go.RowKit
theorem sup_flat : ∀ (ps qs : List Str), ps.length = qs.length → (∀ i, i < ps.length → Sup (ps.getD i []) (qs.getD i [])) → Sup ps.flatten qs.flatten
  | [], [], _, _ => .nil
  | [], _ :: _, h, _ => by simp at h
  | _ :: _, [], h, _ => by simp at h
  | p :: r, q :: s, h, hs => by
    rw [List.flatten_cons, List.flatten_cons]
    refine Sup.append (by have := hs 0 (by simp); simpa using this) (sup_flat r s (by simpa using h) fun i hi => ?_)
    have := hs (i + 1) (by simpa using hi)
    simpa using this
theorem sumP_setV (V : Vars) (n v : Str) : sumP (recs (setV V n v)) ≤ sumP (recs V) + pgs (recd 1 n v).length := by
  induction V with
  | nil => simp [setV, recs, sumP]
  | cons p r ih =>
    have e : ∀ (q : Str × Str) (l : Vars), sumP (recs (q :: l)) = pgs (recd 1 q.1 q.2).length + sumP (recs l) := fun _ _ => rfl
    unfold setV
    split
    · rw [e]; show pgs (recd 1 n v).length + _ ≤ _; omega
    · split
      · rw [e, e]; show pgs (recd 1 n v).length + _ ≤ _; omega
      · rw [e, e]; omega
theorem sumP_delV (V : Vars) (n : Str) : sumP (recs (delV V n)) ≤ sumP (recs V) := by
  induction V with
  | nil => exact Nat.le_refl _
  | cons p r ih =>
    have e : ∀ (q : Str × Str) (l : Vars), sumP (recs (q :: l)) = pgs (recd 1 q.1 q.2).length + sumP (recs l) := fun _ _ => rfl
    unfold delV at *
    rw [List.filter_cons]
    split
    · rw [e, e]; omega
    · rw [e]; omega
theorem setV_same {V : Vars} (hV : Srt V) {n v : Str} (h : getV V n = some v) : setV V n v = V := by
  induction V with
  | nil => cases h
  | cons p r ih =>
    have h' := List.pairwise_cons.1 hV
    by_cases e : p.1 = n
    · have hb : (p.1 == n) = true := by simpa using e
      have h2 : p.2 = v := by simpa [getV, hb] using h
      unfold setV
      rw [if_neg (by rw [e]; exact List.lt_irrefl _), if_pos e.symm, ← e, ← h2]
    · have hb : (p.1 == n) = false := by simpa using e
      have h2 : getV r n = some v := by simpa [getV, hb] using h
      have hm : n ∈ r.map (·.1) := getV_isSome.1 (by rw [h2]; rfl)
      obtain ⟨q, hq, hqn⟩ := List.mem_map.1 hm
      have hlt := h'.1 q hq
      rw [hqn] at hlt
      unfold setV
      rw [if_neg (fun k => List.lt_irrefl _ (List.lt_trans k hlt)), if_neg (fun k => e k.symm), ih h'.2 h2]
theorem chgV_app {V : Vars} {k : Nat} {n v : Str} (hk : k = 1 ∨ k = 2) : chgV V k n v = appV V k n v := by
  rcases hk with rfl | rfl <;> rfl
theorem okLens_1 {k n v : Nat} (hk : k = 1 ∨ k = 2) (h : okLens k n v = true) : okLens 1 n v = true := by
  rcases hk with rfl | rfl
  · exact h
  · unfold okLens at *
    simp at *
    omega
section
variable {fl g : FL} {st : ST} {k : Nat} {n v : Str}
theorem chgV_srtI (h : Inv fl st) (hk : k = 1 ∨ k = 2) : Srt (chgV st.V k n v) := by
  rw [chgV_app hk]; exact appV_srt h.srt k n v
theorem chgV_okI (h : Inv fl st) (hk : k = 1 ∨ k = 2) (hok : okLens k n.length v.length = true) : ∀ p ∈ chgV st.V k n v, okLens 1 p.1.length p.2.length = true := by
  intro p hp
  unfold chgV at hp
  split at hp
  · rcases mem_setV hp with e | e
    · rw [e]; exact okLens_1 hk hok
    · exact h.ok p e
  · exact h.ok p (mem_delV hp)
theorem chgV_cap (hk : k = 1 ∨ k = 2) (V : Vars) : sumP (recs (chgV V k n v)) ≤ sumP (recs V) + pgs (recd k n v).length := by
  rcases hk with rfl | rfl
  · exact sumP_setV V n v
  · have := sumP_delV V n
    show sumP (recs (delV V n)) ≤ _
    omega
/-- A record stands whole behind the others. -/
theorem Inv.appended (h : Inv fl st) (hc : st.clo = false) (hk : k = 1 ∨ k = 2) (hok : okLens k n.length v.length = true) (hroom : st.nxt + pgs (recd k n v).length ≤ fl.P) (hS : Same fl g) (ho : g.off = false) (her : g.er = fl.er)
    (hlow : ∀ q, q < st.nxt → g.pg st.blk q = fl.pg st.blk q) (hrec : ∀ i, i < pgs (recd k n v).length → g.pg st.blk (st.nxt + i) = (pagesR (recd k n v)).getD i []) (hhigh : ∀ q, st.nxt + pgs (recd k n v).length ≤ q → q < fl.P → g.pg st.blk q = blank) (hother : ∀ c q, c ≠ st.blk → g.pg c q = fl.pg c q) :
    Inv g ⟨chgV st.V k n v, st.blk, st.gen, st.nxt + pgs (recd k n v).length, st.clo⟩ := by
  have hB := h.B2
  have hP := h.P2
  have h1 := h.run.le
  obtain ⟨s1, s2, s3, s4⟩ := hS
  have hl : ∀ b q, b < fl.B → q < fl.P → (g.pg b q).length = 64 := fun b q hb hq => by
    by_cases e : b = st.blk
    · subst e
      rcases (by omega : q < st.nxt ∨ (st.nxt ≤ q ∧ q < st.nxt + pgs (recd k n v).length) ∨ st.nxt + pgs (recd k n v).length ≤ q) with e | e | e
      · rw [hlow q e]; exact h.l64 _ q h.blk hq
      · rw [show q = st.nxt + (q - st.nxt) by omega, hrec _ (by omega)]
        have hlt : q - st.nxt < (pagesR (recd k n v)).length := by rw [pagesR_len]; omega
        rw [List.getD_eq_getElem?_getD, List.getElem?_eq_getElem hlt]
        exact pagesR_64 _ _ (List.getElem_mem hlt)
      · rw [hhigh q e hq]; rfl
    · rw [hother b q e]; exact h.l64 b q hb hq
  have h64 : P64 (pgsF g st.blk) := pgsF_64 fun q hq => hl _ q h.blk (by omega)
  have hlen : pgs (recd k n v).length = pgs (5 + n.length + v.length) := by rw [recd_len]
  have hr1 : Run (pgsF g st.blk) [] 1 st.V st.nxt := h.run.ext (h.p64 h.blk) h64 (pgsF_take s2 hlow) (by rw [pgsF_len, s2]; exact h.nx)
  have hr2 : Run (pgsF g st.blk) st.V st.nxt (chgV st.V k n v) (st.nxt + pgs (recd k n v).length) := by
    rw [chgV_app hk, hlen]
    refine run_one h64 hok (by rw [pgsF_len]; omega) ?_
    have := pgsF_drop (fl := g) (b := st.blk) (n := st.nxt) (cs := pagesR (recd k n v)) (by rw [pagesR_len]; omega) (fun i hi => hrec i (by rwa [pagesR_len] at hi))
    rw [pagesR_len, hlen] at this
    exact this
  refine ⟨by omega, by omega, fun b q hb hq => hl b q (by omega) (by omega), ho, by rw [s1]; exact h.blk, h.g64, by rw [hlow 0 (by omega)]; exact h.hd, hr1.trans hr2, by rw [s2]; exact hroom, fun _ q k1 k2 => hhigh q k1 (by omega), (fun e => by have e' : st.clo = true := e; rw [hc] at e'; cases e'), ?_, fun b hb hne => ?_, chgV_srtI h hk, chgV_okI h hk hok, fun b hb => by rw [s3, her]; exact h.er b (by omega)⟩
  · have := chgV_cap (n := n) (v := v) hk st.V
    have := h.cap
    show 1 + sumP (recs (chgV st.V k n v)) ≤ st.nxt + pgs (recd k n v).length
    omega
  · rw [hother b 0 hne]; exact h.oth b (by omega) hne
/-- Something torn stands behind the records. -/
theorem Inv.torn (h : Inv fl st) (hn : st.nxt < fl.P) (hS : Same fl g) (ho : g.off = false) (her : g.er = fl.er) (hlow : ∀ q, q < st.nxt → g.pg st.blk q = fl.pg st.blk q) (hl : ∀ q, q < fl.P → (g.pg st.blk q).length = 64)
    (hz : zeros (g.pg st.blk st.nxt) ≠ 0) (hd : dec ((pgsF g st.blk).drop st.nxt) = none) (hother : ∀ c q, c ≠ st.blk → g.pg c q = fl.pg c q) : Inv g ⟨st.V, st.blk, st.gen, st.nxt, true⟩ := by
  have hB := h.B2
  have hP := h.P2
  have h1 := h.run.le
  obtain ⟨s1, s2, s3, s4⟩ := hS
  have h64 : P64 (pgsF g st.blk) := pgsF_64 fun q hq => hl q (by omega)
  refine ⟨by omega, by omega, fun b q hb hq => ?_, ho, by rw [s1]; exact h.blk, h.g64, by rw [hlow 0 (by omega)]; exact h.hd, h.run.ext (h.p64 h.blk) h64 (pgsF_take s2 hlow) (by rw [pgsF_len, s2]; exact h.nx), by rw [s2]; exact h.nx, (fun e => by cases e), fun _ => ⟨by rw [s2]; exact hn, hz, hd⟩, h.cap, fun b hb hne => by rw [hother b 0 hne]; exact h.oth b (by omega) hne, h.srt, h.ok, fun b hb => by rw [s3, her]; exact h.er b (by omega)⟩
  by_cases e : b = st.blk
  · subst e; exact hl q (by omega)
  · rw [hother b q e]; exact h.l64 b q (by omega) (by omega)
theorem chgF_cases (h : Inv fl st) (hk : k = 1 ∨ k = 2) (hok : okLens k n.length v.length = true) (hg : st.gen + 1 < 18446744073709551616) :
    Done fl st (chgV st.V k n v) (chgF fl st k n v) ∨ (chgF fl st k n v = (8, fl, st) ∧ (fl.P < 1 + sumP (recs (chgV st.V k n v)) ∨ ∀ d, d < fl.B → d ≠ st.blk → ¬ elig fl d)) ∨ Lost fl st (chgV st.V k n v) (chgF fl st k n v) := by
  by_cases hfull : st.clo = true ∨ fl.P < st.nxt + pgs (recd k n v).length
  · rw [chg2 h.off hfull]
    exact cmpF_cases h (chgV_srtI h hk) (chgV_okI h hk hok) hg
  · have hclo : st.clo = false := by
      cases hc : st.clo
      · rfl
      · exact absurd (.inl hc) hfull
    have hroom : st.nxt + pgs (recd k n v).length ≤ fl.P := by
      rcases Nat.lt_or_ge fl.P (st.nxt + pgs (recd k n v).length) with e | e
      · exact absurd (.inr e) hfull
      · exact e
    have hlen := pagesR_len (recd k n v)
    have hbl : ∀ i, i < (pagesR (recd k n v)).length → fl.pg st.blk (st.nxt + i) = blank := fun i hi => h.stp hclo _ (by omega) (by omega)
    rcases wrL_cases (pagesR (recd k n v)) fl st.blk st.nxt h.off hbl (pagesR_64 _) with ⟨g, q1, q2, q3, q4, q5, q6⟩ | ⟨qc, g, j, t, q1, q2, q2', q3, q4, q5, q6, q7, q8⟩
    · left
      have hI := h.appended (g := g) hclo hk hok hroom q3 q2 q4 (fun q hq => by rw [q5, updP_off (.inl hq)]) (fun i hi => by rw [q5, updP_in (by omega)]) (fun q k1 k2 => by rw [q5, updP_off (.inr (by omega))]; exact h.stp hclo q (by omega) k2) (fun c q hc => by rw [q5, updP_other hc])
      exact ⟨g, _, chg4 h.off hfull q1, hI, rfl, q3, q6, fun c q hc => by rw [q5, updP_other hc], .inl ⟨rfl, rfl, q4⟩⟩
    · right; right
      have hE := chg3 (fl := fl) (st := st) (k := k) (nm := n) (v := v) h.off hfull q1 (by decide)
      have hlj : ((pagesR (recd k n v)).take j ++ [t]).length = j + 1 := by rw [List.length_append, List.length_take, Nat.min_eq_left (by omega)]; rfl
      have hother : ∀ c q, c ≠ st.blk → g.pg c q = fl.pg c q := fun c q hc => by rw [q6, updP_other hc]
      have hlow : ∀ q, q < st.nxt → g.pg st.blk q = fl.pg st.blk q := fun q hq => by rw [q6, updP_off (.inl hq)]
      have hat : ∀ i, st.nxt + i < fl.P → g.pg st.blk (st.nxt + i) = if i < j then (pagesR (recd k n v)).getD i [] else if i = j then t else blank := fun i hi => by
        rw [q6]
        rcases (by omega : i < j ∨ i = j ∨ j + 1 ≤ i) with e | e | e
        · rw [if_pos e, updP_in (by omega), List.getD_eq_getElem?_getD, List.getElem?_append_left (by rw [List.length_take]; omega), List.getElem?_take_of_lt e, ← List.getD_eq_getElem?_getD]
        · rw [if_neg (by omega), if_pos e, updP_in (by omega), e, List.getD_eq_getElem?_getD, List.getElem?_append_right (by rw [List.length_take]; omega), List.length_take, Nat.min_eq_left (by omega), Nat.sub_self]
          rfl
        · rw [if_neg (by omega), if_neg (by omega), updP_off (.inr (by omega))]
          exact h.stp hclo _ (by omega) hi
      have hl : ∀ q, q < fl.P → (g.pg st.blk q).length = 64 := fun q hq => by
        rcases Nat.lt_or_ge q st.nxt with e | e
        · rw [hlow q e]; exact h.l64 _ q h.blk hq
        · rw [show q = st.nxt + (q - st.nxt) by omega, hat _ (by omega)]
          split
          · rename_i e2
            have hlt : q - st.nxt < (pagesR (recd k n v)).length := by omega
            rw [List.getD_eq_getElem?_getD, List.getElem?_eq_getElem hlt]
            exact pagesR_64 _ _ (List.getElem_mem hlt)
          · split
            · exact q7
            · rfl
      have herb : ∀ c, g.er c ≤ fl.er c + 1 := fun c => by rw [q4]; omega
      have h64 : P64 (pgsF g st.blk) := pgsF_64 fun q hq => hl q (by rw [q3.2.1] at hq; exact hq)
      have hnP : st.nxt < fl.P := by omega
      have hlen2 : ((pgsF g st.blk).drop st.nxt).length = fl.P - st.nxt := by rw [List.length_drop, pgsF_len, q3.2.1]
      rcases hd : dec ((pgsF g st.blk).drop st.nxt) with _ | x
      · by_cases hz : zeros (g.pg st.blk st.nxt) = 0
        · have h00 := hat 0 (by omega)
          rw [Nat.add_zero] at h00
          have hj : j = 0 := by
            rcases Nat.eq_zero_or_pos j with e | e
            · exact e
            · rw [if_pos e] at h00
              rw [h00] at hz
              exact absurd hz (recd_first hok)
          have hall : ∀ q, q < fl.P → g.pg st.blk q = fl.pg st.blk q := fun q hq => by
            rcases Nat.lt_or_ge q st.nxt with e | e
            · exact hlow q e
            · have e2 : g.pg st.blk q = blank := by
                rcases Nat.eq_or_lt_of_le e with e3 | e3
                · rw [← e3]
                  have := zeros_zero hz
                  rw [hl _ hnP] at this
                  exact this
                · rw [show q = st.nxt + (q - st.nxt) by omega, hat _ (by omega), if_neg (by omega), if_neg (by omega)]
              rw [e2, h.stp hclo q e hq]
          have hI : Inv g.on st := h.keep q3 rfl hall (fun b q hb hq hne => by show (g.pg b q).length = 64; rw [hother b q hne]; exact h.l64 b q hb hq) (fun b hb hne => by show ∃ g1, g1 < 18446744073709551616 ∧ Sup (g.pg b 0) (pad (hdr g1)) ∧ (g.pg b 0 = pad (hdr g1) → g1 < st.gen); rw [hother b 0 hne]; exact h.oth b hb hne) (fun b hb => by show g.er b ≤ _; rw [q4]; exact h.er b hb)
          exact ⟨qc, g, st, hE, q2, q2', q3, hI, .inl rfl, by omega, herb⟩
        · have hI : Inv g.on ⟨st.V, st.blk, st.gen, st.nxt, true⟩ := h.torn hnP q3 rfl q4 hlow hl hz hd hother
          exact ⟨qc, g, _, hE, q2, q2', q3, hI, .inl rfl, Nat.le_succ _, herb⟩
      · have hqs : Sup ((pgsF g st.blk).drop st.nxt).flatten (pagesR (recd k n v) ++ List.replicate (fl.P - st.nxt - pgs (recd k n v).length) blank).flatten := by
          refine sup_flat _ _ (by rw [hlen2, List.length_append, List.length_replicate]; omega) fun i hi => ?_
          rw [hlen2] at hi
          have e1 : ((pgsF g st.blk).drop st.nxt).getD i [] = g.pg st.blk (st.nxt + i) := by
            rw [List.getD_eq_getElem?_getD, List.getElem?_drop, ← List.getD_eq_getElem?_getD]
            exact pgsF_get g st.blk (st.nxt + i) (by rw [q3.2.1]; omega)
          rw [e1, hat i (by omega)]
          have e2 : ∀ i, i < pgs (recd k n v).length → (pagesR (recd k n v) ++ List.replicate (fl.P - st.nxt - pgs (recd k n v).length) blank).getD i [] = (pagesR (recd k n v)).getD i [] := fun i hi => by
            rw [List.getD_eq_getElem?_getD, List.getElem?_append_left (by omega), ← List.getD_eq_getElem?_getD]
          split
          · rw [e2 i (by omega)]; exact Sup.refl _
          · split
            · rename_i e
              rw [e, e2 j (by omega)]; exact q8
            · rcases Nat.lt_or_ge i (pgs (recd k n v).length) with e | e
              · rw [e2 i e]
                have hlt : i < (pagesR (recd k n v)).length := by omega
                have := Sup.blank ((pagesR (recd k n v)).getD i [])
                rw [show ((pagesR (recd k n v)).getD i []).length = 64 by rw [List.getD_eq_getElem?_getD, List.getElem?_eq_getElem hlt]; exact pagesR_64 _ _ (List.getElem_mem hlt)] at this
                exact this
              · rw [List.getD_eq_getElem?_getD, List.getElem?_append_right (by omega), List.getElem?_replicate, if_pos (by omega)]
                exact Sup.refl _
        have hff : ∀ m, (List.replicate m blank).flatten = List.replicate (m * 64) (255 : UInt8) := fun m => by
          induction m with
          | zero => simp
          | succ m ih => rw [List.replicate_succ, List.flatten_cons, ih, show (m + 1) * 64 = 64 + m * 64 by omega, ← List.replicate_append_replicate]; rfl
        have hfl : (pagesR (recd k n v) ++ List.replicate (fl.P - st.nxt - pgs (recd k n v).length) blank).flatten = pad (recd k n v) ++ List.replicate ((fl.P - st.nxt - pgs (recd k n v).length) * 64) 255 := by
          rw [List.flatten_append, pagesR_flat, hff]
        have heq := dec_sup (h64.drop st.nxt) hd hok (by rw [← hfl]; exact hqs)
        rw [← hfl] at heq
        have hpp := flat_inj (h64.drop st.nxt) ((pagesR_64 _).append (fun p hp => by rw [List.eq_of_mem_replicate hp]; rfl)) heq
        have hget : ∀ i, st.nxt + i < fl.P → g.pg st.blk (st.nxt + i) = (pagesR (recd k n v) ++ List.replicate (fl.P - st.nxt - pgs (recd k n v).length) blank).getD i [] := fun i hi => by
          rw [← hpp, List.getD_eq_getElem?_getD, List.getElem?_drop, ← List.getD_eq_getElem?_getD]
          exact (pgsF_get g st.blk (st.nxt + i) (by rw [q3.2.1]; omega)).symm
        have hI : Inv g.on ⟨chgV st.V k n v, st.blk, st.gen, st.nxt + pgs (recd k n v).length, st.clo⟩ := h.appended hclo hk hok hroom q3 rfl q4 hlow (fun i hi => by
            show g.pg st.blk (st.nxt + i) = _
            rw [hget i (by omega), List.getD_eq_getElem?_getD, List.getElem?_append_left (by omega), ← List.getD_eq_getElem?_getD]) (fun q k1 k2 => by
            show g.pg st.blk q = blank
            rw [show q = st.nxt + (q - st.nxt) by omega, hget _ (by omega), List.getD_eq_getElem?_getD, List.getElem?_append_right (by omega), List.getElem?_replicate, if_pos (by omega)]
            rfl) hother
        exact ⟨qc, g, _, hE, q2, q2', q3, hI, .inr rfl, Nat.le_succ _, herb⟩
end
end Go.Proofs.Ytfglopkglnpokaa
