/- Plain law 3: the records of a block. No condition, no program. -/
import Derived.Test.YtfglopkglnpokaaPB
namespace Go.Proofs.Ytfglopkglnpokaa
open Go.RowKit
theorem P64.take {ps : List Str} (h : P64 ps) (n : Nat) : P64 (ps.take n) := fun p hp => h p (List.mem_of_mem_take hp)
theorem P64.drop {ps : List Str} (h : P64 ps) (n : Nat) : P64 (ps.drop n) := fun p hp => h p (List.mem_of_mem_drop hp)
theorem P64.append {ps qs : List Str} (h : P64 ps) (k : P64 qs) : P64 (ps ++ qs) := fun p hp => (List.mem_append.1 hp).elim (h p) (k p)
theorem dec_take {ps : List Str} {k c : Nat} {n v : Str} (hl : P64 ps) (h : dec ps = some (k, n, v, c)) :
    okLens k n.length v.length = true ∧ c = pgs (5 + n.length + v.length) ∧ 1 ≤ c ∧ c ≤ ps.length ∧ ps.take c = pagesR (recd k n v) := by
  have h0 := dec_some hl h
  rw [dec_flat hl] at h
  obtain ⟨h1, h2, h3, h4⟩ := decF_some h
  refine ⟨h1, h2, h0.2.2.1, h0.2.2.2, flat_inj (hl.take c) (pagesR_64 _) ?_⟩
  have hp : (pad (recd k n v)).length = c * 64 := by rw [pad_len, recd_len, h2]
  rw [flat_take hl, pagesR_flat]
  conv => lhs; rw [h3]
  exact List.take_left' hp
theorem dec_of {ps : List Str} {k : Nat} {n v : Str} (hl : P64 ps) (hok : okLens k n.length v.length = true) (ht : ps.take (pgs (5 + n.length + v.length)) = pagesR (recd k n v)) :
    dec ps = some (k, n, v, pgs (5 + n.length + v.length)) := by
  rw [dec_flat hl, ← List.take_append_drop (pgs (5 + n.length + v.length)) ps, List.flatten_append, ht, pagesR_flat]
  exact decF_pad hok _
theorem dec_local {ps qs : List Str} {k c : Nat} {n v : Str} (hl : P64 ps) (hq : P64 qs) (h : dec ps = some (k, n, v, c)) (e : qs.take c = ps.take c) : dec qs = some (k, n, v, c) := by
  obtain ⟨h1, h2, _, _, h5⟩ := dec_take hl h
  rw [h2] at e h5 ⊢
  exact dec_of hq h1 (e.trans h5)
/-- Pages that keep the bits of a record with blanks behind it are it, if they can be decoded. -/
theorem dec_sup {ps : List Str} {k m : Nat} {nm vl : Str} {x : Nat × Str × Str × Nat} (hl : P64 ps) (h : dec ps = some x) (hok : okLens k nm.length vl.length = true) (hs : Sup ps.flatten (pad (recd k nm vl) ++ List.replicate m 255)) :
    ps.flatten = pad (recd k nm vl) ++ List.replicate m 255 := by
  obtain ⟨k', n', v', c'⟩ := x
  rw [dec_flat hl] at h
  obtain ⟨h1, _, h3, _⟩ := decF_some h
  have hb := okLens_le hok
  have hb' := okLens_le h1
  rw [pad_eq, List.append_assoc] at h3 hs ⊢
  exact sup_recd h3 hs (by rw [zeros_append, zeros_ff, zeros_ff]) (by omega) (by omega) (by omega) (by omega)
/-- The records from page n to page n', and what they make of the variables. -/
inductive Run (ps : List Str) : Vars → Nat → Vars → Nat → Prop
  | refl (V : Vars) (n : Nat) : Run ps V n V n
  | step {V V' : Vars} {n n' k c : Nat} {nm v : Str} : n < ps.length → zeros (ps.getD n []) ≠ 0 → dec (ps.drop n) = some (k, nm, v, c) → Run ps (appV V k nm v) (n + c) V' n' → Run ps V n V' n'
theorem Run.trans {ps : List Str} {V V' V'' : Vars} {n n' n'' : Nat} (h : Run ps V n V' n') (k : Run ps V' n' V'' n'') : Run ps V n V'' n'' := by
  induction h with
  | refl => exact k
  | step h1 h2 h3 _ ih => exact .step h1 h2 h3 (ih k)
theorem Run.le {ps : List Str} {V V' : Vars} {n n' : Nat} (h : Run ps V n V' n') : n ≤ n' := by
  induction h with
  | refl => exact Nat.le_refl _
  | step _ _ _ _ ih => omega
theorem Run.in {ps : List Str} (hl : P64 ps) {V V' : Vars} {n n' : Nat} (h : Run ps V n V' n') (hn : n ≤ ps.length) : n' ≤ ps.length := by
  induction h with
  | refl => exact hn
  | step h1 _ h3 _ ih =>
    have := (dec_some (hl.drop _) h3).2.2.2
    rw [List.length_drop] at this
    exact ih (by omega)
theorem getD_take {ps qs : List Str} {n n' : Nat} (h : n < n') (e : qs.take n' = ps.take n') : qs.getD n [] = ps.getD n [] := by
  have : (qs.take n')[n]? = (ps.take n')[n]? := by rw [e]
  rw [List.getElem?_take_of_lt h, List.getElem?_take_of_lt h] at this
  rw [List.getD_eq_getElem?_getD, List.getD_eq_getElem?_getD, this]
/-- Only the pages before the end count. -/
theorem Run.ext {ps qs : List Str} (hl : P64 ps) (hq : P64 qs) {V V' : Vars} {n n' : Nat} (h : Run ps V n V' n') (e : qs.take n' = ps.take n') (hlen : n' ≤ qs.length) : Run qs V n V' n' := by
  induction h with
  | refl => exact .refl _ _
  | step h1 h2 h3 h4 ih =>
    rename_i V1 V2 a b k c nm v
    have hle := h4.le
    have hc := (dec_some (hl.drop _) h3).2.2.1
    refine .step (by omega) (by rw [getD_take (by omega) e]; exact h2) (dec_local (hl.drop _) (hq.drop _) h3 ?_) (ih e hlen)
    have e2 : ∀ l : List Str, (l.drop a).take c = (l.take (a + c)).drop a := fun l => by rw [List.drop_take]; congr 1; omega
    have e3 : ∀ l : List Str, l.take (a + c) = (l.take b).take (a + c) := fun l => by rw [List.take_take, Nat.min_eq_left hle]
    rw [e2, e2, e3 qs, e3 ps, e]
theorem rpl_more {ps : List Str} (hl : P64 ps) : ∀ (f : Nat) (V : Vars) (n : Nat), ps.length - n ≤ f → rpl (f + 1) ps V n = rpl f ps V n
  | 0, V, n, h => by
    rw [rpl_stop (f := 1) (fun k => by have := k.1; omega)]; rfl
  | f + 1, V, n, h => by
    by_cases hc : n < ps.length ∧ zeros (ps.getD n []) ≠ 0
    · rcases hd : dec (ps.drop n) with _ | ⟨k, nm, v, c⟩
      · rw [rpl_none hc hd, rpl_none hc hd]
      · rw [rpl_some hc hd, rpl_some hc hd]
        have := (dec_some (hl.drop _) hd).2.2.1
        exact rpl_more hl f _ _ (by omega)
    · rw [rpl_stop hc, rpl_stop hc]
theorem rpl_fuel {ps : List Str} (hl : P64 ps) {V : Vars} {n : Nat} (f : Nat) (h : ps.length - n ≤ f) (j : Nat) : rpl (f + j) ps V n = rpl f ps V n := by
  induction j with
  | zero => rfl
  | succ j ih => rw [← Nat.add_assoc, rpl_more hl (f + j) V n (by omega), ih]
theorem rpl_any {ps : List Str} (hl : P64 ps) {V : Vars} {n : Nat} {f g : Nat} (hf : ps.length - n ≤ f) (hg : ps.length - n ≤ g) : rpl f ps V n = rpl g ps V n := by
  rcases Nat.le_total f g with h | h
  · obtain ⟨j, rfl⟩ := Nat.le.dest h; exact (rpl_fuel hl f hf j).symm
  · obtain ⟨j, rfl⟩ := Nat.le.dest h; exact rpl_fuel hl g hg j
theorem Run.rpl {ps : List Str} (hl : P64 ps) {V V' : Vars} {n n' : Nat} (h : Run ps V n V' n') {f : Nat} (hf : ps.length - n ≤ f) : rpl f ps V n = rpl f ps V' n' := by
  induction h with
  | refl => rfl
  | step h1 h2 h3 h4 ih =>
    have hc := (dec_some (hl.drop _) h3).2.2.1
    cases f with
    | zero => omega
    | succ f =>
      rw [rpl_some ⟨h1, h2⟩ h3, rpl_any hl (f := f) (g := f + 1) (by omega) (by omega)]
      exact ih (by omega)
theorem recd_first {k : Nat} {n v : Str} (hok : okLens k n.length v.length = true) : zeros ((pagesR (recd k n v)).getD 0 []) ≠ 0 := by
  intro h
  have h1 := pagesR_len (recd k n v)
  have h2 : 0 < (pagesR (recd k n v)).length := by rw [h1, recd_len]; unfold pgs; omega
  have h3 := zeros_zero h
  have h4 := pagesR_flat (recd k n v)
  have h5 : (pagesR (recd k n v)).getD 0 [] = (pagesR (recd k n v))[0] := by rw [List.getD_eq_getElem?_getD, List.getElem?_eq_getElem h2]; rfl
  have h6 : ((pagesR (recd k n v)).getD 0 []).length = 64 := by rw [h5]; exact pagesR_64 _ _ (List.getElem_mem h2)
  rw [h6] at h3
  have h7 : (pad (recd k n v)).getD 0 0 = UInt8.ofNat k := rfl
  rw [← h4] at h7
  have h8 : ((pagesR (recd k n v)).flatten).getD 0 0 = ((pagesR (recd k n v)).getD 0 []).getD 0 0 := by
    cases hc : pagesR (recd k n v) with
    | nil => rw [hc] at h2; cases h2
    | cons p r =>
      rw [hc] at h6
      simp at h6
      rw [List.flatten_cons, List.getD_eq_getElem?_getD (l := p ++ r.flatten), List.getElem?_append_left (by omega)]
      simp
  rw [h8, h3] at h7
  have h9 := congrArg UInt8.toNat h7
  rw [(byte_ok hok).1] at h9
  have h10 := okLens_k hok
  have h11 : ((List.replicate 64 (255 : UInt8)).getD 0 0).toNat = 255 := rfl
  rw [h11] at h9
  omega
/-- A record that stands at page n. -/
theorem run_one {ps : List Str} (hl : P64 ps) {V : Vars} {n k : Nat} {nm v : Str} (hok : okLens k nm.length v.length = true) (hin : n + pgs (5 + nm.length + v.length) ≤ ps.length) (h : (ps.drop n).take (pgs (5 + nm.length + v.length)) = pagesR (recd k nm v)) :
    Run ps V n (appV V k nm v) (n + pgs (5 + nm.length + v.length)) := by
  have h1 : 1 ≤ pgs (5 + nm.length + v.length) := by unfold pgs; omega
  refine .step (by omega) ?_ (dec_of (hl.drop n) hok h) (.refl _ _)
  have e : ps.getD n [] = (pagesR (recd k nm v)).getD 0 [] := by
    rw [← h, List.getD_eq_getElem?_getD, List.getD_eq_getElem?_getD, List.getElem?_take_of_lt (by omega), List.getElem?_drop, Nat.add_zero]
  rw [e]
  exact recd_first hok
end Go.Proofs.Ytfglopkglnpokaa
