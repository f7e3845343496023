/- Plain laws of two boots; help.Equal; two managers side by side. Conditions: those that each theorem names. -/
import Derived.Test.YtdinbpdpalgohaaGreatDoorY19
namespace Go.Proofs.YtdinbpdpalgohaaGreatDoor
open Go.RowKit
/-- Permitted, but for the denied digests. -/
def g0 (V : Vars) (x : Nat) (L : List ByteArray) : Bool := (entO V (x : Int)).isSome && decide (x < L.length) && decide ((L.getD x ⟨#[]⟩).size ≠ 0) && (exE V x).a && decide ((exE V x).d = sumS (L.getD x ⟨#[]⟩)) && decide ((exE V x).u < (exE V x).n)
theorem exC_g0 (V : Vars) (x : Nat) (L : List ByteArray) : exC V x L = 0 ↔ (g0 V x L = true ∧ (exE V x).d ∉ denV V) := by
  rcases hO : entO V (x : Int) with _ | e
  · unfold exC g0
    rw [hO]
    simp
  · have hE : exE V (x : Int) = e := by unfold exE; rw [hO]; rfl
    rw [exC_some hO]
    unfold g0
    rw [hO, hE]
    obtain ⟨ei, ed, ea, en, eu⟩ := e
    generalize sumS (L.getD x ⟨#[]⟩) = D
    generalize (L.getD x ⟨#[]⟩).size = z
    generalize L.length = ll
    simp only [Option.isSome_some, Bool.true_and, Bool.and_eq_true, decide_eq_true_eq]
    by_cases h1 : ll ≤ x ∨ z = 0
    · rw [if_pos h1]
      constructor
      · intro h; cases h
      · rintro ⟨⟨⟨⟨⟨q1, q2⟩, _⟩, _⟩, _⟩, _⟩
        rcases h1 with h1 | h1
        · omega
        · exact absurd h1 q2
    · rw [if_neg h1]
      have q1 : x < ll := by
        by_cases q : x < ll
        · exact q
        · exact absurd (.inl (by omega)) h1
      have q2 : z ≠ 0 := fun q => h1 (.inr q)
      cases ea
      · simp
      · by_cases h2 : D = ed
        · subst h2
          by_cases h3 : D ∈ denV V
          · simp [h3]
          · by_cases h4 : en ≤ eu
            · have h5 : ¬ eu < en := by omega
              simp [h3, h4]
            · have h5 : eu < en := by omega
              simp [h3, h4, q1, q2]
              exact h5
        · have h5 : ¬ ed = D := fun q => h2 q.symm
          simp [h2, h5]
structure FI (k : Nat) (ord : List Int) (V : Vars) (i : Nat) (b : BM) : Prop where
  cal : Cal 1000 k b.fl b.st
  es : b.es = []
  cand : b.cand = ord.drop i
  log : b.log.length ≤ i
  vv : b.st.V = V
  od : ordV V = ord
  last : b.last = -1
/-- The state behind a start. -/
structure FSt (k x u : Nat) (L : List ByteArray) (b : BM) : Prop where
  cal : Cal 1000 k b.fl b.st
  es : b.es = [⟨4, Ms.sumD (L.getD x ⟨#[]⟩).data.toList, bootT⟩]
  cand : b.cand = []
  log : b.log.length ≤ 20
  last : b.last = x
  ent : ∃ d a n, d.length = 32 ∧ n ≤ 255 ∧ entO b.st.V (x : Int) = some ⟨x, d, a, n, u⟩
section
variable {k i x : Nat} {b : BM} {ord : List Int} {V : Vars} {L : List ByteArray}
theorem fi_init (h : SI k b) (hk : k + 2 < 1000) : ∃ b1 b2 : BM, (beginB b = (0, b1) ∧ b1.st.blk < b1.fl.B) ∧ beginB b1 = (0, b2) ∧ FI (k + 2) (ordV b2.st.V) b2.st.V 0 b2 := by
  obtain ⟨b1, e1, c1, v1, d1, l1, t1, s1⟩ := beginB_cal h.cal (by omega)
  have n1 : getV b1.st.V nmN = none := by
    rw [v1]
    split
    · next q => exact q
    · rw [getV_del, if_pos rfl]
  obtain ⟨b2, e2, c2, v2, d2, l2, t2, s2⟩ := beginB_cal c1 (by omega)
  rw [if_pos n1] at v2
  refine ⟨b1, b2, ⟨e1, c1.blk⟩, e2, c2, by rw [s2, s1]; exact h.es, ?_, by rw [l2]; simp, rfl, rfl, t2⟩
  rw [d2, v2]
  unfold cndV nxtV
  rw [n1]
  simp
theorem FI.ids (h : FI k ord V i b) : ∀ x ∈ b.cand, isId x = true := fun x hx => by
  rw [h.cand] at hx
  have h2 := List.mem_of_mem_drop hx
  rw [← h.od] at h2
  exact okO_id (ordV_ok _) x h2
theorem FI.nat (h : FI k ord V i b) (hi : i < ord.length) : ∃ x : Nat, x < 16 ∧ ord[i] = (x : Int) := by
  have h2 : ord[i] ∈ ord := List.getElem_mem hi
  have h3 : ord[i] ∈ ordV V := by rw [h.od]; exact h2
  have := isId_iff.1 (okO_id (ordV_ok _) _ h3)
  exact ⟨(ord[i]).toNat, by omega, by omega⟩
theorem FI.len (h : FI k ord V i b) : ord.length ≤ 16 := by rw [← h.od]; exact okO_len (ordV_ok _)
theorem fi_skip (h : FI k ord V i b) (hi : i < ord.length) (hx : ord[i] = (x : Int)) (hne : exC V x L ≠ 0) : ∃ b', tryB b L = (((x : Int), exC V x L), 0, b') ∧ FI k ord V (i + 1) b' := by
  have hc := h.cand
  rw [List.drop_eq_getElem_cons hi, hx] at hc
  refine ⟨_, tryB_skip hc (by rw [h.vv]; rfl) hne, h.cal, h.es, rfl, ?_, h.vv, h.od, h.last⟩
  show (b.log ++ [_]).length ≤ _
  rw [List.length_append]
  have := h.log
  simp
  omega
theorem fi_start (h : FI k ord V i b) (hk : k < 1000) (hi : i < ord.length) (hx : ord[i] = (x : Int)) (h16 : x < 16) (h0 : exC V x L = 0) : ∃ b', tryB b L = (((x : Int), 0), 0, b') ∧ FSt (k + 1) x ((exE V x).u + 1) L b' := by
  have hc := h.cand
  rw [List.drop_eq_getElem_cons hi, hx] at hc
  obtain ⟨e, hO, _, _, _, _, _, hu⟩ := exC_zero h0
  have hE : exE V (x : Int) = e := by unfold exE; rw [hO]; rfl
  obtain ⟨hi', _, hd, hn, hu'⟩ := entO_some hO
  obtain ⟨b', e1, c, v, d, l, s, t⟩ := tryB_start (l := L) h.cal hk h16 hc (h.vv ▸ hO) (h.vv ▸ h0)
  refine ⟨b', e1, c, by rw [t, h.es]; rfl, d, ?_, s, e.d, e.a, e.n, hd, hn, ?_⟩
  · rw [l, List.length_append]
    have := h.log
    have := h.len
    simp
    omega
  · rw [v, hE]
    exact entO_put h16 hd e.a hn (by omega)
theorem fi_end (h : FI k ord V ord.length b) : tryB b L = ((0, 0), 6, b) ∧ succB b = (9, b) := by
  refine ⟨tryB_none (by rw [h.cand, List.drop_length]), ?_⟩
  unfold succB
  rw [h.last]
  have : entO b.st.V (-1) = none := by
    unfold entO entV
    rw [if_neg (by decide)]
    rfl
  rw [this]
theorem fs_end {u : Nat} (h : FSt k x u L b) (hk : k < 1000) (h16 : x < 16) : tryB b L = ((0, 0), 6, b) ∧ ∃ b', succB b = (0, b') ∧ Cal 1000 (k + 1) b'.fl b'.st ∧ (exE b'.st.V x).u = 0 ∧ (entO b'.st.V (x : Int)).isSome = true := by
  refine ⟨tryB_none h.cand, ?_⟩
  obtain ⟨d, a, n, hd, hn, hO⟩ := h.ent
  obtain ⟨b', e, c, v, kp⟩ := setB_ok h.cal hk (okVar_E h16 hd a n 0)
  have hO' : entO b'.st.V (x : Int) = some ⟨x, d, a, n, 0⟩ := by rw [v]; exact entO_put h16 hd a hn (by omega)
  refine ⟨b', ?_, c, by unfold exE; rw [hO']; rfl, by rw [hO']; rfl⟩
  unfold succB
  rw [h.last, hO]
  exact e
end
end Go.Proofs.YtdinbpdpalgohaaGreatDoor
namespace Go.Proofs.YtdinbpdpalgohaaGreatDoor
open Go.RowKit
/-- A manager behind j calls, k of them on the store. -/
structure GI (k j : Nat) (b : BM) : Prop where
  cal : Cal 1000 k b.fl b.st
  es : b.es.length ≤ j
  log : b.log.length ≤ j
  cand : ∀ x ∈ b.cand, isId x = true
structure Sim (a b : BM) : Prop where
  v : ∀ x, x ≠ nmX → getV a.st.V x = getV b.st.V x
  cand : a.cand = b.cand
  log : a.log = b.log
  last : a.last = b.last
structure Two (k l j : Nat) (a b : BM) : Prop where
  ga : GI k j a
  gb : GI l j b
  s : Sim a b
/-- The same answer, and two such managers again. -/
def Alk (k l j : Nat) (x y : Int × BM) : Prop := x.1 = y.1 ∧ Two k l j x.2 y.2
def Alk3 (k l j : Nat) (x y : (Int × Int) × Int × BM) : Prop := x.1 = y.1 ∧ Alk k l j x.2 y.2
section
variable {k l j : Nat} {a b : BM}
theorem GI.mono (h : GI k j b) {k' j' : Nat} (hk : k ≤ k') (hj : j ≤ j') : GI k' j' b := ⟨h.cal.mono hk, Nat.le_trans h.es hj, Nat.le_trans h.log hj, h.cand⟩
theorem Sim.refl (b : BM) : Sim b b := ⟨fun _ _ => rfl, rfl, rfl, rfl⟩
theorem Two.one (h : GI k j b) : Two k k j b b := ⟨h, h, Sim.refl b⟩
theorem Two.stay (h : Two k l j a b) (c : Int) : Alk (k + 1) (l + 1) (j + 1) (c, a) (c, b) := ⟨rfl, h.ga.mono (Nat.le_succ _) (Nat.le_succ _), h.gb.mono (Nat.le_succ _) (Nat.le_succ _), h.s⟩
theorem Sim.ent (h : Sim a b) (i : Int) : entO a.st.V i = entO b.st.V i := entO_congr (h.v _ (ne_EX _).symm)
theorem Sim.ord (h : Sim a b) : ordV a.st.V = ordV b.st.V := ordV_congr (h.v _ ne_OX)
theorem Sim.den (h : Sim a b) : denV a.st.V = denV b.st.V := denV_congr (h.v _ ne_DX)
theorem Sim.nxt (h : Sim a b) : nxtV a.st.V = nxtV b.st.V := nxtV_congr (h.v _ ne_NX)
theorem Sim.cnd (h : Sim a b) : cndV a.st.V = cndV b.st.V := by unfold cndV; rw [h.ord, h.nxt]
theorem Sim.exe (h : Sim a b) (i : Int) : exE a.st.V i = exE b.st.V i := by unfold exE; rw [h.ent]
theorem Sim.exc (h : Sim a b) (i : Nat) (l : List ByteArray) : exC a.st.V i l = exC b.st.V i l := by unfold exC; rw [h.ent, h.den]
theorem GI.kp {b' : BM} (h : GI k j b) (c : Cal 1000 (k + 1) b'.fl b'.st) (kp : Kp b b') : GI (k + 1) j b' := ⟨c, by rw [kp.2.2.2]; exact h.es, by rw [kp.2.1]; exact h.log, by rw [kp.1]; exact h.cand⟩
theorem Two.set (h : Two k l j a b) (hk : k < 1000) (hl : l < 1000) {n v : Str} (ho : okVar (n, v)) : Alk (k + 1) (l + 1) (j + 1) (setB a n v) (setB b n v) := by
  obtain ⟨a', e1, c1, v1, k1⟩ := setB_ok h.ga.cal hk ho
  obtain ⟨b', e2, c2, v2, k2⟩ := setB_ok h.gb.cal hl ho
  rw [e1, e2]
  refine ⟨rfl, (h.ga.kp c1 k1).mono (Nat.le_refl _) (Nat.le_succ _), (h.gb.kp c2 k2).mono (Nat.le_refl _) (Nat.le_succ _), fun x hx => ?_, by rw [k1.1, k2.1, h.s.cand], by rw [k1.2.1, k2.2.1, h.s.log], by rw [k1.2.2.1, k2.2.2.1, h.s.last]⟩
  show getV a'.st.V x = getV b'.st.V x
  rw [v1, v2, getV_set, getV_set, h.s.v x hx]
theorem Two.begin (h : Two k l j a b) (hk : k < 1000) (hl : l < 1000) : Alk (k + 1) (l + 1) (j + 1) (beginB a) (beginB b) := by
  obtain ⟨a', e1, c1, v1, d1, l1, t1, s1⟩ := beginB_cal h.ga.cal hk
  obtain ⟨b', e2, c2, v2, d2, l2, t2, s2⟩ := beginB_cal h.gb.cal hl
  rw [e1, e2]
  refine ⟨rfl, ⟨c1, by rw [s1]; exact Nat.le_succ_of_le h.ga.es, by rw [l1]; exact Nat.zero_le _, by rw [d1]; exact cndV_id⟩, ⟨c2, by rw [s2]; exact Nat.le_succ_of_le h.gb.es, by rw [l2]; exact Nat.zero_le _, by rw [d2]; exact cndV_id⟩, fun x hx => ?_, by rw [d1, d2, h.s.cnd], by rw [l1, l2], by rw [t1, t2]⟩
  show getV a'.st.V x = getV b'.st.V x
  rw [v1, v2, h.s.v nmN ne_NX]
  split
  · exact h.s.v x hx
  · rw [getV_del, getV_del, h.s.v x hx]
theorem Two.setEntry (h : Two k l j a b) (hk : k < 1000) (hl : l < 1000) (i : Int) {d : Str} (hd : d.length = 32) (x : Bool) (n : Int) : Alk (k + 1) (l + 1) (j + 1) (setEntryB a i d x n) (setEntryB b i d x n) := by
  unfold setEntryB
  split
  · next q =>
    have := isId_iff.1 q.1
    exact h.set hk hl (okVar_E (j := i.toNat) (by omega) hd _ _ _)
  · exact h.stay 1
theorem Two.setOrder (h : Two k l j a b) (hk : k < 1000) (hl : l < 1000) (o : List Int) : Alk (k + 1) (l + 1) (j + 1) (setOrderB a o) (setOrderB b o) := by
  unfold setOrderB
  split
  · next q => exact h.set hk hl (okVar_O q)
  · exact h.stay 1
theorem Two.setNext (h : Two k l j a b) (hk : k < 1000) (hl : l < 1000) (i : Int) : Alk (k + 1) (l + 1) (j + 1) (setNextB a i) (setNextB b i) := by
  unfold setNextB
  split
  · exact h.set hk hl (okVar_N _)
  · exact h.stay 1
theorem Two.deny (h : Two k l j a b) (hk : k < 1000) (hl : l < 1000) {d : Str} (hd : d.length = 32) : Alk (k + 1) (l + 1) (j + 1) (denyB a d) (denyB b d) := by
  unfold denyB
  rw [h.s.den]
  split
  · exact h.stay 0
  · split
    · exact h.stay 8
    · next q =>
      refine h.set hk hl (okVar_D (fun e he => ?_) (by rw [List.length_append]; simp; omega))
      rcases List.mem_append.1 he with q | q
      · exact denV_32 e q
      · rw [List.mem_singleton.1 q]; exact hd
theorem Two.succ (h : Two k l j a b) (hk : k < 1000) (hl : l < 1000) : Alk (k + 1) (l + 1) (j + 1) (succB a) (succB b) := by
  unfold succB
  rw [h.s.ent, h.s.last]
  split
  · exact h.stay 9
  · next e he =>
    obtain ⟨h1, h2, h3, h4, h5⟩ := entO_some he
    have := isId_iff.1 h2
    exact h.set hk hl (okVar_E (j := e.i.toNat) (by omega) h3 _ _ _)
theorem Two.try (h : Two k l j a b) (hk : k < 1000) (hl : l < 1000) (im : List ByteArray) : Alk3 (k + 1) (l + 1) (j + 1) (tryB a im) (tryB b im) := by
  rcases hc : b.cand with _ | ⟨x, r⟩
  · rw [tryB_none hc, tryB_none (h.s.cand.trans hc)]
    exact ⟨rfl, h.stay 6⟩
  · have hca := h.s.cand.trans hc
    have hx := isId_iff.1 (h.gb.cand x (by rw [hc]; exact List.mem_cons_self ..))
    have hids : ∀ y ∈ r, isId y = true := fun y hy => h.gb.cand y (by rw [hc]; exact List.mem_cons_of_mem _ hy)
    obtain ⟨y, rfl⟩ : ∃ y : Nat, x = (y : Int) := ⟨x.toNat, by omega⟩
    by_cases h0 : exC b.st.V y im = 0
    · have h0a := (h.s.exc y im).trans h0
      obtain ⟨e, hO, _⟩ := exC_zero h0
      have hOa := (h.s.ent (y : Int)).trans hO
      obtain ⟨a', e1, c1, v1, d1, l1, t1, s1⟩ := tryB_start h.ga.cal hk (by omega) hca hOa h0a
      obtain ⟨b', e2, c2, v2, d2, l2, t2, s2⟩ := tryB_start h.gb.cal hl (by omega) hc hO h0
      rw [e1, e2]
      refine ⟨rfl, rfl, ⟨c1, ?_, ?_, by rw [d1]; exact fun x hx => (by cases hx)⟩, ⟨c2, ?_, ?_, by rw [d2]; exact fun x hx => (by cases hx)⟩, fun x hx => ?_, by rw [d1, d2], by rw [l1, l2, h.s.log], by rw [t1, t2]⟩
      · rw [s1, List.length_append]; have := h.ga.es; simp; omega
      · rw [l1, List.length_append]; have := h.ga.log; simp; omega
      · rw [s2, List.length_append]; have := h.gb.es; simp; omega
      · rw [l2, List.length_append]; have := h.gb.log; simp; omega
      · show getV a'.st.V x = getV b'.st.V x
        rw [v1, v2, getV_set, getV_set, h.s.v x hx]
    · have h0a : exC a.st.V y im ≠ 0 := by rw [h.s.exc]; exact h0
      rw [tryB_skip hca rfl h0a, tryB_skip hc rfl h0]
      have e : exC a.st.V (y : Int).toNat im = exC b.st.V (y : Int).toNat im := h.s.exc _ im
      refine ⟨by rw [e], rfl, ⟨h.ga.cal.mono (Nat.le_succ _), Nat.le_succ_of_le h.ga.es, ?_, hids⟩, ⟨h.gb.cal.mono (Nat.le_succ _), Nat.le_succ_of_le h.gb.es, ?_, hids⟩, h.s.v, rfl, ?_, h.s.last⟩
      · show (a.log ++ [_]).length ≤ _
        rw [List.length_append]; have := h.ga.log; simp; omega
      · show (b.log ++ [_]).length ≤ _
        rw [List.length_append]; have := h.gb.log; simp; omega
      · show a.log ++ [_] = b.log ++ [_]
        rw [h.s.log, e]
theorem do_two (h : Two k l j a b) (hk : k < 1000) (hl : l < 1000) {m : Nat} (hm : m < 12) (c : BC) : Alk3 (k + 1) (l + 1) (j + 1) (doM m a c) (doM m b c) := by
  have h12 : m = 0 ∨ m = 1 ∨ m = 2 ∨ m = 3 ∨ m = 4 ∨ m = 5 ∨ m = 6 ∨ m = 7 ∨ m = 8 ∨ m = 9 ∨ m = 10 ∨ m = 11 := by omega
  have hE := h.setEntry hk hl (cidV c) (sumS_len (imgB c.im)) (!c.ina) (catV c)
  have hT := h.try hk hl (imgL c)
  rcases h12 with rfl | rfl | rfl | rfl | rfl | rfl | rfl | rfl | rfl | rfl | rfl | rfl
  · exact ⟨rfl, hE⟩
  · exact ⟨rfl, hE⟩
  · exact ⟨rfl, h.setOrder hk hl (ordC c)⟩
  · exact ⟨rfl, h.setNext hk hl (cidV c)⟩
  · exact ⟨rfl, h.deny hk hl (sumS_len (imgB c.im))⟩
  · exact ⟨rfl, h.begin hk hl⟩
  · exact ⟨rfl, h.begin hk hl⟩
  · exact hT
  · exact hT
  · exact hT
  · exact ⟨rfl, h.succ hk hl⟩
  · exact hT
theorem do_two' (h : Two k l j a b) (hk : k < 1000) (hl : l < 1000) (c : BC) : Alk3 (k + 1) (l + 1) (j + 1) (doB a c) (doB b c) := do_two h hk hl (mo_lt c.kd 12 (by omega)) c
/-- The variable of others is set. -/
theorem Two.other (h : Two k l j a b) (hl : l < 1000) {v : Str} (hv : v.length ≤ 50) : ∃ b', setB b nmX v = (0, b') ∧ Two k (l + 1) j a b' := by
  obtain ⟨b', e2, c2, v2, k2⟩ := setB_ok h.gb.cal hl (okVar_X hv)
  refine ⟨b', e2, h.ga, h.gb.kp c2 k2, fun x hx => ?_, by rw [k2.1, h.s.cand], by rw [k2.2.1, h.s.log], by rw [k2.2.2.1, h.s.last]⟩
  rw [v2, get_set_ne hx, h.s.v x hx]
end
end Go.Proofs.YtdinbpdpalgohaaGreatDoor
namespace Go.Proofs.YtdinbpdpalgohaaGreatDoor
open Go.RowKit
/-- v reads as these steps. -/
def RdS (w : World) (v : Value) (l : List (Int × Int)) : Prop := ∃ a c, v = .slice a l.length c ∧ l.length ≤ c ∧ c ≤ maxLen ∧ (∀ g, v.ownBlock = some g → g < w.heap.size) ∧ (l ≠ [] → ∃ g o, a = some ⟨g, o, none⟩ ∧ ∀ i p, l[i]? = some p → w.cell? ⟨g, o + i * 2, none⟩ = some (.int .i64 p.1) ∧ w.cell? ⟨g, o + i * 2 + 1, none⟩ = some (.int .i64 p.2))
theorem stv_at : ∀ (l : List (Int × Int)) (i : Nat) (p : Int × Int), l[i]? = some p → (stv l)[i * 2]? = some (.int .i64 p.1) ∧ (stv l)[i * 2 + 1]? = some (.int .i64 p.2)
  | [], i, p, h => by simp at h
  | q :: r, 0, p, h => by
    have e : q = p := by simpa using h
    subst e
    exact ⟨rfl, rfl⟩
  | q :: r, i + 1, p, h => by
    have ih := stv_at r i p (by simpa using h)
    rw [show (i + 1) * 2 = i * 2 + 2 by omega]
    exact ih
section
variable {w w' : World} {v : Value} {l : List (Int × Int)} {B : Nat}
theorem RdS.of (h : w.ownsRow B 40 2 v l.length (stv l)) : RdS w v l := by
  obtain ⟨_, h1⟩ := h
  rcases h1 with ⟨rfl, e⟩ | ⟨g, cap, cur, rfl, _, hh, h5, h6, _, h7⟩
  · have e : l = [] := List.eq_nil_of_length_eq_zero e
    subst e
    exact ⟨none, 0, rfl, Nat.le_refl _, by decide, (fun _ h => (by cases h)), fun h => absurd rfl h⟩
  · refine ⟨_, _, rfl, h5, h6, fun k hk => ?_, fun _ => ⟨g, 0, rfl, fun i x hx => ?_⟩⟩
    · have e : g = k := by simpa [Value.ownBlock] using hk
      rw [← e]; exact heap_lt hh
    · have hi := (List.getElem?_eq_some_iff.1 hx).1
      obtain ⟨q0, q1⟩ := stv_at l i x hx
      rw [← h7, List.getElem?_take_of_lt (by omega), Array.getElem?_toList] at q0 q1
      rw [Nat.zero_add, cell_of_row w g _ cur _ (0, 0) hh, cell_of_row w g _ cur _ (0, 0) hh]
      exact ⟨q0, q1⟩
theorem RdS.ch {C : Nat → Prop} (h : RdS w v l) (c : Ch C w w') (hC : ∀ g, v.ownBlock = some g → ¬ C g) : RdS w' v l := by
  obtain ⟨a, k, rfl, h1, h2, h3, h4⟩ := h
  refine ⟨a, k, rfl, h1, h2, fun g hg => Nat.lt_of_lt_of_le (h3 g hg) c.size, fun hne => ?_⟩
  obtain ⟨g, o, rfl, hx⟩ := h4 hne
  refine ⟨g, o, rfl, fun i p hp => ?_⟩
  have hg : (Value.slice (some ⟨g, o, none⟩) l.length k).ownBlock = some g := rfl
  exact ⟨(c.cell _ (h3 g hg) (hC g hg)).trans (hx i p hp).1, (c.cell _ (h3 g hg) (hC g hg)).trans (hx i p hp).2⟩
theorem RdS.below (h : RdS w v l) (b : Below w.heap.size w w') : RdS w' v l := h.ch (Ch.of_below b (fun _ => False)) (fun _ _ h => h)
theorem RdS.shape (h : RdS w v l) : ∃ a c, v = .slice a l.length c ∧ l.length ≤ c ∧ c ≤ 9223372036854775807 := by
  obtain ⟨a, c, rfl, h1, h2, _⟩ := h
  exact ⟨a, c, rfl, h1, by unfold maxLen at h2; omega⟩
theorem RdS.at (h : RdS w v l) {i : Nat} (hi : i < l.length) : ∃ g o c, v = .slice (some ⟨g, o, none⟩) l.length c ∧ l.length ≤ c ∧ c ≤ maxLen ∧ w.cell? ⟨g, o + i * 2, none⟩ = some (.int .i64 l[i].1) ∧ w.cell? ⟨g, o + i * 2 + 1, none⟩ = some (.int .i64 l[i].2) := by
  obtain ⟨a, c, rfl, h1, h2, h3, h4⟩ := h
  obtain ⟨g, o, rfl, hx⟩ := h4 (by intro e; rw [e] at hi; cases hi)
  exact ⟨g, o, c, rfl, h1, h2, hx i _ (List.getElem?_eq_getElem hi)⟩
end
section
variable {w : World} {v1 v2 : Value}
set_option maxRecDepth 100000 in
set_option maxHeartbeats 1000000 in
theorem equalI_same {l : List Int} (h1 : RdI w v1 l) (h2 : RdI w v2 l) : Calls Tryz.prog 45 #[v1, v2] w fun e w' => e = .returned (.bool true) ∧ Below w.heap.size w w' := by
  obtain ⟨a1, c1, rfl, x1, y1⟩ := h1.shape
  obtain ⟨a2, c2, rfl, x2, y2⟩ := h2.shape
  have H1 := Lib.hid h1
  have H2 := Lib.hid h2
  have HB0 : Hid (Below w.heap.size w w) := Below.refl _ _
  obtain ⟨L, hL⟩ : ∃ L, l.length = L := ⟨_, rfl⟩
  have HLL := Lib.hid hL
  rw [hL] at H1 H2 x1 x2 ⊢
  clear h1 h2 hL
  go_enter Tryz.func45, Tryz.ntmps45
  go_wp2_with fail
  go_loopw [5] (fun z wr => ∃ i : Nat, i ≤ L ∧ z = .int .i64 (i : Int) ∧ Hid (RdI wr (.slice a1 L c1) l) ∧ Hid (RdI wr (.slice a2 L c2) l) ∧ Hid (Below w.heap.size w wr)) (fun z _ => L - (intOf z).toNat)
  case atStart => exact ⟨0, by omega, rfl, H1, H2, HB0⟩
  case round =>
    clear H1 H2 HB0
    obtain ⟨i, hi, rfl, H1, H2, HB⟩ := hrel
    by_cases hlt : i < L
    · have y0 : (i : Int) < L := by omega
      have hil : i < l.length := by rw [HLL.out]; exact hlt
      obtain ⟨g1, o1, c', e, _, _, k1⟩ := H1.out.cellAt hil
      rw [HLL.out] at e
      injection e with e1 _ e3
      subst e1 e3
      obtain ⟨g2, o2, c', e, _, _, k2⟩ := H2.out.cellAt hil
      rw [HLL.out] at e
      injection e with e1 _ e3
      subst e1 e3
      generalize l[i] = d at *
      have S1 : Hid (wr.drew.cell? ⟨g1, o1 + i, none⟩ = some (.int .i64 d) ∧ wr.drew.cell? ⟨g2, o2 + i, none⟩ = some (.int .i64 d)) := ⟨k1, k2⟩
      clear k1 k2 hil
      go_wp2_with fail
      refine wp_region_pl (fun Y => Y.cell? ⟨g1, o1 + i, none⟩ = some (.int .i64 d) ∧ Y.cell? ⟨g2, o2 + i, none⟩ = some (.int .i64 d)) ((0, 0) :: (1, 0) :: (2, 0) :: (3, 0) :: (4, 0) :: (5, 0) :: (6, 0) :: (7, 0) :: (8, 0) :: []) (by kernel_rfl) (by kernel_rfl) ?_
      iterate 9 (apply wpP_go; (focus rfl); (focus rfl); (focus exact S1.out); (focus (rintro Y ⟨s0, s1⟩; go_simp; exact rfl)); intro K hK; go_simp; refine hK _ ?_; clear hK K)
      refine wpP_done ?_
      clear S1
      have H1n : Hid (RdI wr.drew (.slice (some ⟨g1, o1, none⟩) L c1) l) := H1.out.below ((Below.refl _ _).drew)
      have H2n : Hid (RdI wr.drew (.slice (some ⟨g2, o2, none⟩) L c2) l) := H2.out.below ((Below.refl _ _).drew)
      have HBn : Hid (Below w.heap.size w wr.drew) := HB.out.drew
      clear H1 H2 HB
      generalize wr.drew = wn at *
      go_wp2_with fail
      go_roundw
      case rel => exact ⟨i + 1, by omega, by go_num, H1n, H2n, HBn⟩
      case measure => simp [intOf]; omega
    · have y0 : ¬ (i : Int) < L := by omega
      go_wp2_with fail
      go_ret
      exact ⟨rfl, HB.out⟩
set_option maxRecDepth 100000 in
set_option maxHeartbeats 1000000 in
theorem equalSt_same {l : List (Int × Int)} (h1 : RdS w v1 l) (h2 : RdS w v2 l) : Calls Tryz.prog 46 #[v1, v2] w fun e w' => e = .returned (.bool true) ∧ Below w.heap.size w w' := by
  obtain ⟨a1, c1, rfl, x1, y1⟩ := h1.shape
  obtain ⟨a2, c2, rfl, x2, y2⟩ := h2.shape
  have H1 := Lib.hid h1
  have H2 := Lib.hid h2
  have HB0 : Hid (Below w.heap.size w w) := Below.refl _ _
  obtain ⟨L, hL⟩ : ∃ L, l.length = L := ⟨_, rfl⟩
  have HLL := Lib.hid hL
  rw [hL] at H1 H2 x1 x2 ⊢
  clear h1 h2 hL
  go_enter Tryz.func46, Tryz.ntmps46
  go_wp2_with fail
  go_loopw [5] (fun z wr => ∃ i : Nat, i ≤ L ∧ z = .int .i64 (i : Int) ∧ Hid (RdS wr (.slice a1 L c1) l) ∧ Hid (RdS wr (.slice a2 L c2) l) ∧ Hid (Below w.heap.size w wr)) (fun z _ => L - (intOf z).toNat)
  case atStart => exact ⟨0, by omega, rfl, H1, H2, HB0⟩
  case round =>
    clear H1 H2 HB0
    obtain ⟨i, hi, rfl, H1, H2, HB⟩ := hrel
    by_cases hlt : i < L
    · have y0 : (i : Int) < L := by omega
      have hil : i < l.length := by rw [HLL.out]; exact hlt
      obtain ⟨g1, o1, c', e, _, _, ⟨k1, m1⟩⟩ := H1.out.at hil
      rw [HLL.out] at e
      injection e with e1 _ e3
      subst e1 e3
      obtain ⟨g2, o2, c', e, _, _, ⟨k2, m2⟩⟩ := H2.out.at hil
      rw [HLL.out] at e
      injection e with e1 _ e3
      subst e1 e3
      generalize l[i] = d at *
      obtain ⟨d1, d2⟩ := d
      have hne : ∀ Y, (binOp .neq 40 (.agg #[.int .i64 d1, .int .i64 d2]) (.agg #[.int .i64 d1, .int .i64 d2])).run Tryz.prog Y = .ok (.bool false) Y := fun Y => by rw [neSt]; simp
      have S1 : Hid ((wr.drew.cell? ⟨g1, o1 + i * 2, none⟩ = some (.int .i64 d1) ∧ wr.drew.cell? ⟨g1, o1 + i * 2 + 1, none⟩ = some (.int .i64 d2)) ∧ wr.drew.cell? ⟨g2, o2 + i * 2, none⟩ = some (.int .i64 d1) ∧ wr.drew.cell? ⟨g2, o2 + i * 2 + 1, none⟩ = some (.int .i64 d2)) := ⟨⟨k1, m1⟩, k2, m2⟩
      clear k1 m1 k2 m2 hil
      go_wp2_with fail
      refine wp_region_pl (fun Y => (Y.cell? ⟨g1, o1 + i * 2, none⟩ = some (.int .i64 d1) ∧ Y.cell? ⟨g1, o1 + i * 2 + 1, none⟩ = some (.int .i64 d2)) ∧ Y.cell? ⟨g2, o2 + i * 2, none⟩ = some (.int .i64 d1) ∧ Y.cell? ⟨g2, o2 + i * 2 + 1, none⟩ = some (.int .i64 d2)) ((0, 0) :: (1, 0) :: (2, 0) :: (3, 0) :: (4, 0) :: (5, 0) :: (6, 0) :: (7, 0) :: (8, 0) :: []) (by kernel_rfl) (by kernel_rfl) ?_
      iterate 9 (apply wpP_go; (focus rfl); (focus rfl); (focus exact S1.out); (focus (rintro Y ⟨⟨s0, s1⟩, s2, s3⟩; go_simp; exact rfl)); intro K hK; go_simp; refine hK _ ?_; clear hK K)
      refine wpP_done ?_
      clear S1 hne
      have H1n : Hid (RdS wr.drew (.slice (some ⟨g1, o1, none⟩) L c1) l) := H1.out.below ((Below.refl _ _).drew)
      have H2n : Hid (RdS wr.drew (.slice (some ⟨g2, o2, none⟩) L c2) l) := H2.out.below ((Below.refl _ _).drew)
      have HBn : Hid (Below w.heap.size w wr.drew) := HB.out.drew
      clear H1 H2 HB
      generalize wr.drew = wn at *
      go_wp2_with fail
      go_roundw
      case rel => exact ⟨i + 1, by omega, by go_num, H1n, H2n, HBn⟩
      case measure => simp [intOf]; omega
    · have y0 : ¬ (i : Int) < L := by omega
      go_wp2_with fail
      go_ret
      exact ⟨rfl, HB.out⟩
end
end Go.Proofs.YtdinbpdpalgohaaGreatDoor
namespace Go.Proofs.YtdinbpdpalgohaaGreatDoor
open Go.RowKit
theorem Ch.both {C : Nat → Prop} {w w' : World} {N : Nat} (c : Ch C w w') (b : Below N w w') : Ch (fun k => C k ∧ N ≤ k) w w' :=
  ⟨c.os, c.tape, c.output, c.size, fun k hk h => by
    by_cases hN : k < N
    · exact b.block k hN
    · exact c.block k hk (fun q => h ⟨q, by omega⟩)⟩
theorem BW.N_pos {w : World} {N M S L n : Nat} {O : Nat → Prop} {b : BM} (h : BW w N O M S L n b) : 0 < N := by
  obtain ⟨R, D, DS, X, m, y, ve, vc, vl, h⟩ := h; exact h.h0
/-- Where a manager lies. -/
structure Plc where
  N : Nat
  M : Nat
  S : Nat
  L : Nat
def PB (w : World) (G : Nat → Prop) (p : Plc) (n : Nat) (a : BM) (q : Plc) (m : Nat) (b : BM) : Prop := ∃ O, BF w p.N (fun k => O k ∨ G k) p.M p.S p.L n a ∧ BW w q.N O q.M q.S q.L m b ∧ ∀ k, G k → ¬ O k
section
variable {w w' : World} {p q : Plc} {n m : Nat} {a b : BM} {G : Nat → Prop}
theorem PB.of {O1 O2 : Nat → Prop} {T : Nat} (h1 : BW w p.N O1 p.M p.S p.L n a) (h2 : BW w q.N O2 q.M q.S q.L m b) (d1 : ∀ k, O1 k → k < T) (d2 : ∀ k, O2 k → T ≤ k) : PB w (fun _ => False) p n a q m b :=
  ⟨O2, ⟨O1, h1, fun k hk => by
    rcases hk with hk | hk
    · exact ⟨fun h => by have := d1 k h; have := d2 k hk; omega, (h2.oN k hk).2⟩
    · exact hk.elim⟩, h2, fun _ h => h.elim⟩
theorem PB.swap (h : PB w G p n a q m b) : PB w G q m b p n a := by
  obtain ⟨O2, ⟨O1, q1, q2⟩, r, d⟩ := h
  refine ⟨O1, ⟨O2, r, fun k hk => ?_⟩, q1, fun k hk => (q2 k (.inr hk)).1⟩
  rcases hk with hk | hk
  · exact ⟨fun h => (q2 k (.inl h)).1 hk, (q1.oN k hk).2⟩
  · exact ⟨d k hk, (q2 k (.inr hk)).2⟩
theorem PB.below (h : PB w G p n a q m b) (c : Below w.heap.size w w') : PB w' G p n a q m b := by
  obtain ⟨O2, hf, hw, d⟩ := h
  exact ⟨O2, hf.below c, hw.below c, d⟩
theorem PB.mono (h : PB w G p n a q m b) {n' m' : Nat} (hn : n ≤ n') (hm : m ≤ m') : PB w G p n' a q m' b := by
  obtain ⟨O2, hf, hw, d⟩ := h
  exact ⟨O2, hf.mono hn, hw.mono hm, d⟩
theorem PB.less (h : PB w G p n a q m b) {G' : Nat → Prop} (hG : ∀ k, G' k → G k) : PB w G' p n a q m b := by
  obtain ⟨O2, hf, hw, d⟩ := h
  exact ⟨O2, hf.less (fun k hk => hk.imp id (hG k)), hw, fun k hk => d k (hG k hk)⟩
/-- Blocks made meanwhile. -/
theorem PB.news (h : PB w G p n a q m b) (c : Below w.heap.size w w') : PB w' (fun k => G k ∨ (w.heap.size ≤ k ∧ k < w'.heap.size)) p n a q m b := by
  obtain ⟨O2, hf, hw, d⟩ := h
  refine ⟨O2, (hf.news c).less (fun k hk => ?_), hw.below c, fun k hk ho => ?_⟩
  · rcases hk with hk | hk | hk
    · exact .inl (.inl hk)
    · exact .inl (.inr hk)
    · exact .inr hk
  · rcases hk with hk | hk
    · exact d k hk ho
    · have := (hw.oN k ho).2; omega
theorem PB.one (h : PB w G p n a q m b) : BF w p.N (fun _ => False) p.M p.S p.L n a := by
  obtain ⟨O2, hf, hw⟩ := h
  exact hf.less (fun _ h => h.elim)
theorem PB.two (h : PB w G p n a q m b) : BF w q.N (fun _ => False) q.M q.S q.L m b := h.swap.one
theorem PB.rnd (h : PB w G p n a q m b) : Ms.Rnd w := h.one.rnd
theorem PB.pos (h : PB w G p n a q m b) : 0 < w.heap.size := h.one.pos
theorem PB.Np (h : PB w G p n a q m b) : 0 < p.N := by
  obtain ⟨_, ⟨_, q1, _⟩, _⟩ := h
  exact q1.N_pos
/-- What a call on the first leaves: the second, and the others' blocks. -/
def PL (w w' : World) (G : Nat → Prop) (p : Plc) (n : Nat) (a : BM) (q : Plc) (m : Nat) (b : BM) : Prop := PB w' G p n a q m b ∧ Ch (fun k => ¬ G k) w w' ∧ Below p.N w w'
theorem PB.left {n' : Nat} {a' : BM} (F : Nat → Prop) (hw : BW w q.N F q.M q.S q.L m b) (d : ∀ k, G k → ¬ F k) (bl : BL w w' p.N (fun k => F k ∨ G k) p.M p.S p.L n' a') (hp : 0 < p.N) : PL w w' G p n' a' q m b :=
  ⟨⟨F, bl.bf, hw.ch (Ch.both bl.ch bl.bel) (fun k hk => ⟨fun h => hk.1 (.inl h), by have := hk.2; omega⟩), d⟩, bl.ch.mono (fun i hi _ hG => hi (.inr hG)), bl.bel⟩
theorem PB.callT (h : PB w G p n a q m b) {f : FuncId} {args : Array Value} {n' : Nat} {r : (Int × Int) × Int × BM} (c : ∀ F, BF w p.N F p.M p.S p.L n a → Calls Tryz.prog f args w (LT w p.N F p.M p.S p.L n' r)) :
    Calls Tryz.prog f args w fun e w' => e = .returned (.tuple #[.agg #[.int .i64 r.1.1, .int .i64 r.1.2], .int .i64 r.2.1]) ∧ PL w w' G p n' r.2.2 q m b := by
  have hp := h.Np
  obtain ⟨O2, hf, hw, d⟩ := h
  exact (c _ hf).mono fun e w' k => ⟨k.1, PB.left O2 hw d k.2 hp⟩
theorem PB.callR (h : PB w G p n a q m b) {f : FuncId} {args : Array Value} {n' : Nat} {r : Int × BM} (c : ∀ F, BF w p.N F p.M p.S p.L n a → Calls Tryz.prog f args w (LR w p.N F p.M p.S p.L n' r)) :
    Calls Tryz.prog f args w fun e w' => e = .returned (.int .i64 r.1) ∧ PL w w' G p n' r.2 q m b := by
  have hp := h.Np
  obtain ⟨O2, hf, hw, d⟩ := h
  exact (c _ hf).mono fun e w' k => ⟨k.1, PB.left O2 hw d k.2 hp⟩
end
end Go.Proofs.YtdinbpdpalgohaaGreatDoor
