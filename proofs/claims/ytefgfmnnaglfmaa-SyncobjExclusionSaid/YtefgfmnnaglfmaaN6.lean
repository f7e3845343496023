/- The reference's Waiters, Remove; the state's invariant. Conditions: those that each theorem names. -/
import Derived.Test.YtefgfmnnaglfmaaN5
namespace Go.Proofs.Ytefgfmnnaglfmaa
open Go.RowKit
theorem app_locks {w : World} {v : Value} {n : Nat} {xs : List Value} (ho : w.ownsRow 0 88 7 v n xs) (hn : n ≤ 100000) {a : Option Addr} {m c : Nat} {news : List Value} (hm : m ≤ 100000) (hl : news.length = m * 7)
    (hc : 0 < m → ∃ b o, a = some ⟨b, o, none⟩ ∧ ∀ j u, news[j]? = some u → w.cell? ⟨b, o + j, none⟩ = some u) (h1 : ∀ u ∈ news, u.oneCell' = true) :
    ∃ R w', (Builtin.append_ #[74, 74] 74 #[v, .slice a m c]).run Try.prog w = .ok R w' ∧ w'.ownsRow 0 88 7 R (n + m) (xs ++ news) ∧ Ch (fun k => v.ownBlock = some k) w w' ∧ ∀ g, R.ownBlock = some g → (v.ownBlock = some g ∨ w.heap.size ≤ g) ∧ g < w'.heap.size := by
  obtain ⟨i0, hi0, hx0, hx1, hx2⟩ := info_parts Try.info88
  by_cases hm0 : m = 0
  · subst hm0
    have hnil : news = [] := List.eq_nil_of_length_eq_zero (by omega)
    subst hnil
    obtain ⟨a1, c1, rfl, k1, k2, k3⟩ := own_form ho
    refine ⟨_, w, run_append_nothing w 74 74 74 88 i0 Try.underlying74 hi0 a1 n c1 k1 _ ?_, by simpa using ho, Ch.refl _ _, fun g hg => ⟨.inl hg, (own_ty ho hg).lt⟩⟩
    cases a with
    | none => exact Src.ofNil w Try.underlying74 c
    | some ad => exact Src.ofSlice w Try.underlying74 ad 0 c [] (by simp) (fun j u h => by simp at h) (fun u h => by cases h)
  · obtain ⟨b, o, rfl, h5⟩ := hc (by omega)
    obtain ⟨g, c2, w', hr, ho, hg, hat, hlt⟩ := run_append_lies (P := Try.prog) w 74 74 0 88 i0 _ 7 72 Try.underlying74 hi0 hx0 hx1 hx2 rfl (by omega) v n _ ho ⟨b, o, none⟩ m c news hl (fun j u hu => by
      have hadd : (⟨b, o, none⟩ : Addr).add j = ⟨b, o + j, none⟩ := by unfold Addr.add; split <;> simp_all
      rw [hadd, h5 j u hu]) h1 (by omega) (by unfold maxLen; omega) (by omega) (Nat.zero_le _) w.heap.size rfl
    refine ⟨_, w', hr, ho, Ch.of_grown hg (fun k hk _ => hk), fun k hk => ?_⟩
    have e : g = k := by simpa [Value.ownBlock] using hk
    subst e
    exact ⟨hat.imp id (fun h => by omega), hlt⟩
theorem lcf_one {M : List RL} (h : ∀ x ∈ M, ∃ a n c, x.v = .slice a n c) : ∀ u ∈ M.flatMap lcf, u.oneCell' = true := fun u hu => by
  obtain ⟨x, hx, h1⟩ := List.mem_flatMap.1 hu
  obtain ⟨a, n, c, e⟩ := h x hx
  unfold lcf at h1
  rw [e] at h1
  simp only [List.mem_cons, List.not_mem_nil, or_false] at h1
  rcases h1 with rfl | rfl | rfl | rfl | rfl | rfl | rfl <;> rfl
section
variable {w w1 w' : World} {D D1 : Nat → Prop} {X n : Nat} {s : LK} {vl vw : Value} {M : List RL} {W : List RT}
theorem RM.newL {v : Value} {M' : List RL} (h : RM w D X vl vw M W) (ho : w.ownsRow 0 88 7 v M'.length (M'.flatMap lcf)) (hb : ∀ k, v.ownBlock = some k → k < w.heap.size) (hs : ∀ x ∈ M', x ∈ M) :
    RM (w.setCell ⟨X, 0, none⟩ v) (fun k => D k ∨ v.ownBlock = some k) X v vw M' W := by
  have c2 : Ch (fun k => k = X) w (w.setCell ⟨X, 0, none⟩ v) := (Ch.refl (fun k => k = X) w).setCell (p := ⟨X, 0, none⟩) (fun _ => rfl) _
  refine ⟨(h.top.set (i := 0) (by omega) v).congr fun j hj => ?_, own_ch ho c2 (fun k hk => (own_ty ho hk).ne h.tyX (by omega)), own_ch h.rw c2 (fun k hk => (own_ty h.rw hk).ne h.tyX (by omega)), .inl h.dX, fun k hk => .inr hk, fun k hk => .inl (h.dw k hk), fun z hz => ⟨(h.q z (hs z hz)).1.ch c2 fun b hb e => ?_, fun b hb => .inl ((h.q z (hs z hz)).2 b hb)⟩, fun k hk => Nat.lt_of_lt_of_le (hk.elim (h.fin k) (hb k)) c2.size⟩
  · rcases (by omega : j = 0 ∨ j = 1) with rfl | rfl <;> simp [upd, xcf]
  · obtain ⟨a, cp, _, _, _, h3, _⟩ := (h.q z (hs z hz)).1
    exact (h3 b hb).ne h.tyX (by omega) e
def wq (s : LK) (id : Int) : List Int := match s.o id with
  | some x => x.q
  | none => []
set_option maxRecDepth 100000 in
set_option maxHeartbeats 2000000 in
theorem rwaiters_any (h : RK w D X n s) (hn : n ≤ 80000) (id : Int) (hql : ∀ x, s.o id = some x → x.q.length ≤ 1000) :
    Calls Try.prog 57 #[ptr X, .int .i64 id] w fun e w' => ∃ v, e = .returned v ∧ OI w' v (wq s id) ∧ Below w.heap.size w w' := by
  have HQL := Lib.hid hql
  clear hql
  obtain ⟨vl, vw, M, W, h1, h2, h3, h4, h5⟩ := h
  have HF := Lib.hid (rfind_any h1 (by omega) id)
  have H := Lib.hid h1
  have HO := Lib.hid h4
  have HH := Lib.hid h5
  have HN : Hid (M.length ≤ n ∧ W.length ≤ n) := ⟨h2, h3⟩
  have c0 := h1.c0
  obtain ⟨al, cap, e, hc1, hc2⟩ := h1.fl
  obtain ⟨L, hL⟩ : ∃ L, M.length = L := ⟨_, rfl⟩
  rw [hL] at h2 hc1 e
  rw [e] at c0
  have HE := Lib.hid e
  have HL := Lib.hid hL
  unfold maxLen at hc2
  clear h1 h4 h5 h3 e hL
  go_enter Try.func57, Try.ntmps57
  go_wp2_with fail
  refine HF.out.mono ?_
  rintro e w' ⟨rfl, ⟨i, x, hx, he, rfl⟩ | ⟨rfl, hno⟩⟩
  · obtain ⟨g, cp, e, _, _, hgl, hgD, d0, d1, d2, d3, d4, d5, d6, fr⟩ := H.out.gl hx
    rw [HE.out, HL.out] at e
    injection e with e1 e2 e3
    subst e1 e3
    have hil : i < L := by rw [← HL.out]; exact (List.getElem?_eq_some_iff.1 hx).1
    have hod := HO.out.od hx
    have HS : Hid (s.o id = some x.ob) := by show _ = _; rw [← he]; exact HO.out.at hx
    have hi0 : ¬ (i : Int) < 0 := by omega
    have HX := Lib.hid hx
    have HID := Lib.hid he
    have HEV : Hid (vl = .slice (some ⟨g, 0, none⟩) M.length cap) := by show _ = _; rw [HE.out, HL.out]
    obtain ⟨mx, hmx⟩ : ∃ b, x.mx = b := ⟨_, rfl⟩
    rw [hmx] at d1
    have HMX : Hid (x.mx = mx) := hmx
    have HOD : Hid (x.od = (mx && decide (0 < x.ct))) := by show _ = _; rw [hod, hmx]
    have hi9 : (i : Int) ≥ 0 := by omega
    have HQX : Hid (x.q.length ≤ 1000) := HQL.out x.ob HS.out
    have q0 := (H.out.qv hx).1
    obtain ⟨qa, qc, ev, hqc1, hqc2, _, _⟩ := H.out.qv hx |>.1
    obtain ⟨R, w5, hr, ho, hc, hb⟩ := app_copy q0 (by have := HQX.out; omega)
    rw [ev] at d6 hr
    obtain ⟨ql, hql⟩ : ∃ n, x.q.length = n := ⟨_, rfl⟩
    rw [hql] at d6 hr
    have HRUN := Lib.hid hr
    have HR5 : Hid (OI w5 R (wq s id) ∧ Below w.heap.size w w5) := ⟨by unfold wq; rw [HS.out]; exact ho, hc.below (Nat.le_refl _) (fun _ h => h.elim)⟩
    clear hx he HF hod hmx fr q0 ev hr ho hc hb hqc1 hqc2 hql
    go_wp2_with (at_builtin; refine wpList_append_run rfl _ _ 22 rfl rfl (.slice none 0 0) (.slice qa ql qc) R w5 rfl rfl (by exact HRUN.out) ?_)
    go_ret
    exact ⟨_, rfl, HR5.out⟩
  · have HS : Hid (wq s id = []) := by
      show _ = _
      unfold wq
      rw [HO.out.no hno]
    have hneg : ¬ (-1 : Int) ≥ 0 := by omega
    clear hno HF
    go_wp2_with fail
    go_ret
    rw [HS.out]
    exact ⟨_, rfl, OI.nil _, Below.refl _ _⟩
set_option maxRecDepth 100000 in
set_option maxHeartbeats 4000000 in
theorem rremove_any (h : RK w D X n s) (hI : SI s) (hn : n ≤ 80000) (id : Int) :
    Calls Try.prog 42 #[ptr X, .int .i64 id] w fun e w' => e = .returned (.int .i64 (rmS s id).1) ∧ RP w D X (n + 1) (rmS s id).2 w' := by
  have HI := Lib.hid hI
  clear hI
  have P0 := Lib.hid (RP.same h (show n ≤ n + 1 by omega))
  obtain ⟨vl, vw, M, W, h1, h2, h3, h4, h5⟩ := h
  have HF := Lib.hid (rfind_any h1 (by omega) id)
  have H := Lib.hid h1
  have HO := Lib.hid h4
  have HH := Lib.hid h5
  have HN : Hid (M.length ≤ n ∧ W.length ≤ n) := ⟨h2, h3⟩
  have c0 := h1.c0
  obtain ⟨al, cap, e, hc1, hc2⟩ := h1.fl
  obtain ⟨L, hL⟩ : ∃ L, M.length = L := ⟨_, rfl⟩
  rw [hL] at h2 hc1 e
  rw [e] at c0
  have HE := Lib.hid e
  have HL := Lib.hid hL
  unfold maxLen at hc2
  clear h1 h4 h5 h3 e hL
  go_enter Try.func42, Try.ntmps42
  go_wp2_with fail
  refine HF.out.mono ?_
  rintro e w' ⟨rfl, ⟨i, x, hx, he, rfl⟩ | ⟨rfl, hno⟩⟩
  · obtain ⟨g, cp, e, _, _, hgl, hgD, d0, d1, d2, d3, d4, d5, d6, fr⟩ := H.out.gl hx
    rw [HE.out, HL.out] at e
    injection e with e1 e2 e3
    subst e1 e3
    have hil : i < L := by rw [← HL.out]; exact (List.getElem?_eq_some_iff.1 hx).1
    have hod := HO.out.od hx
    have HS : Hid (s.o id = some x.ob) := by show _ = _; rw [← he]; exact HO.out.at hx
    have hi0 : ¬ (i : Int) < 0 := by omega
    have HX := Lib.hid hx
    have HID := Lib.hid he
    have HEV : Hid (vl = .slice (some ⟨g, 0, none⟩) M.length cap) := by show _ = _; rw [HE.out, HL.out]
    obtain ⟨mx, hmx⟩ : ∃ b, x.mx = b := ⟨_, rfl⟩
    rw [hmx] at d1
    have HMX : Hid (x.mx = mx) := hmx
    have HOD : Hid (x.od = (mx && decide (0 < x.ct))) := by show _ = _; rw [hod, hmx]
    obtain ⟨qa, qc, ev, hqc1, hqc2, _, _⟩ := H.out.qv hx |>.1
    obtain ⟨ql, hql⟩ : ∃ n, x.q.length = n := ⟨_, rfl⟩
    rw [ev, hql] at d6
    have hne : x.q ≠ [] ↔ 0 < ql := by rw [← hql]; exact List.length_pos_iff.symm
    obtain ⟨od, hodv⟩ : ∃ b, x.od = b := ⟨_, rfl⟩
    rw [hodv] at d3
    have hdec : od = true ↔ (x.mx = true ∧ 0 < x.ct) := by rw [← hodv, hod, Bool.and_eq_true, decide_eq_true_iff]
    have HRM1 : Hid (od = true ∨ 0 < ql → rmS s id = (17, s)) := fun h => by
      unfold rmS
      rw [HS.out]
      exact if_pos (h.imp hdec.1 hne.2)
    have HRM2 : Hid (¬ (od = true ∨ 0 < ql) → rmS s id = (0, s.setO id none)) := fun h => by
      unfold rmS
      rw [HS.out]
      exact if_neg (fun h9 => h (h9.imp hdec.2 hne.1))
    clear hx he HF hod hmx fr ev hqc1 hqc2 hql hne hdec hodv
    cases od
    · by_cases hq : 0 < ql
      · have hq2 : (ql : Int) > 0 := by omega
        have HRM := Lib.hid (HRM1.out (.inr hq))
        go_wp2_with fail
        go_ret
        rw [HRM.out]
        exact ⟨rfl, P0.out⟩
      · have hq2 : ¬ (ql : Int) > 0 := by omega
        have HRM := Lib.hid (HRM2.out (by rintro (h | h); cases h; exact hq h))
        have hiw : IntKind.i64.wrap ((i : Int) + 1) = (i : Int) + 1 := IntWalk.i64_in _ ⟨by omega, by omega⟩
        have SR : Hid (w.drew.cell? ⟨X, 0, none⟩ = some (.slice (some ⟨g, 0, none⟩) L cap) ∧ RM w.drew D X vl vw M W) := ⟨c0, H.out.drew⟩
        have HCD : Hid (Ch D w w.drew) := (Ch.refl _ _).drew
        have hLn : L ≤ 100000 := by omega
        go_upto_region 6 with fail
        clear d0 d1 d2 d3 d4 d5 d6 c0
        refine wp_region_tree (fun Y => Y.cell? ⟨X, 0, none⟩ = some (.slice (some ⟨g, 0, none⟩) L cap) ∧ RM Y D X vl vw M W) [18] (PT.ls ((0, 0) :: (1, 0) :: (2, 0) :: (3, 0) :: (4, 0) :: (5, 0) :: (6, 0) :: (8, 0) :: (9, 0) :: (10, 0) :: (11, 0) :: (12, 0) :: (13, 0) :: (14, 0) :: (7, 1) :: (15, 1) :: (16, 0) :: (17, 0) :: (18, 2) :: []) .done) (by kernel_rfl) (by kernel_rfl) (by kernel_rfl) ?_
        unfold PT.ls
        have HS3 : Hid (w.heap.size ≤ w.drew.heap.size) := Nat.le_refl _
        have HD3 : Hid (∀ k, D k → k < w.drew.heap.size) := H.out.fin
        generalize w.drew = w3 at *
        have hic : i ≤ cap := by omega
        have HRL : Hid (i + (L - (i + 1)) = L - 1) := by show _ = _; omega
        have hic3 : 0 ≤ (i : Int) + 1 := by omega
        have hic4 : (i : Int) + 1 ≤ (L : Int) := by omega
        iterate 14 (apply wpT_go; (focus rfl); (focus rfl); (focus exact SR.out); (focus (rintro Q ⟨s0, s1⟩; go_simp; exact rfl)); intro K hK; go_simp; refine hK _ ?_; clear hK K)
        obtain ⟨av, hav⟩ : ∃ a, (if cap = i + 1 then some (⟨g, 0, none⟩ : Addr) else some ⟨g, (i + 1) * 7, none⟩) = a := ⟨_, rfl⟩
        have HAV : Hid (0 < L - (i + 1) → av = some ⟨g, (i + 1) * 7, none⟩) := fun h9 => by rw [← hav, if_neg (by omega)]
        simp only [hav]
        clear hav
        obtain ⟨_, _, e9, _, _, hcl⟩ := own_form SR.out.2.rl
        have HCL : Hid (∀ j u, (M.flatMap lcf)[j]? = some u → w3.cell? ⟨g, j, none⟩ = some u) := by
          obtain ⟨g9, e8, _, hcc, _⟩ := hcl (by rw [HL.out]; omega)
          rw [HEV.out, e8] at e9
          obtain ⟨e7, _, _⟩ := sl_inj e9
          subst e7
          exact hcc
        clear e9 hcl
        have HVS : Hid (∀ x ∈ M, ∃ a n c, x.v = .slice a n c) := fun x hx => by
          obtain ⟨a, c, h9, _⟩ := (SR.out.2.q x hx).1
          exact ⟨a, _, c, h9⟩
        apply wpT_one
        focus rfl
        intro K hK
        obtain ⟨R1, w4, hr, ho1, hc1, hb1⟩ := app_locks (w := w3) (v := .slice none 0 0) (n := 0) (xs := []) ⟨by simp, .inl ⟨rfl, rfl⟩⟩ (by omega) (a := some ⟨g, 0, none⟩) (m := i) (c := cap) (news := (M.take i).flatMap lcf) (by omega) (by rw [flat_len lcf_len, List.length_take, HL.out]; omega) (fun _ => ⟨g, 0, rfl, fun j u hu => by
          rw [Nat.zero_add]
          refine HCL.out j u ?_
          rw [← flat_take lcf_len, List.getElem?_take] at hu
          split at hu
          · exact hu
          · cases hu⟩) (lcf_one fun x hx => HVS.out x (List.mem_of_mem_take hx))
        refine step_append_run rfl _ _ 74 rfl rfl _ _ R1 w4 rfl rfl hr ?_
        have HC4 : Hid (Ch (fun _ => False) w3 w4) := hc1.mono (fun k hk _ => by cases hk)
        have HO4 : Hid (w4.ownsRow 0 88 7 R1 i ((M.take i).flatMap lcf)) := by show World.ownsRow _ _ _ _ _ _ _; simpa using ho1
        have HR4 : Hid (∀ k, R1.ownBlock = some k → w3.heap.size ≤ k ∧ k < w4.heap.size) := fun k hk => ⟨by
          rcases (hb1 k hk).1 with h | h
          · cases h
          · exact h, (hb1 k hk).2⟩
        have hX3 := SR.out.2.fin X SR.out.2.dX
        have S4 : Hid (w4.cell? ⟨X, 0, none⟩ = some (.slice (some ⟨g, 0, none⟩) L cap) ∧ RM w4 D X vl vw M W) := ⟨(HC4.out.cell (p := ⟨X, 0, none⟩) hX3 (fun h => h)).trans SR.out.1, SR.out.2.ch HC4.out (fun _ _ h => h)⟩
        refine hK _ _ S4.out ?_
        clear hK K hr ho1 hc1 hb1 SR
        apply wpT_one
        focus rfl
        intro K hK
        have hs4 := HC4.out.size
        obtain ⟨R2, w5, hr, ho2, hc2', hb2⟩ := app_locks HO4.out (by omega) (a := av) (m := L - (i + 1)) (c := cap - (i + 1)) (news := (M.drop (i + 1)).flatMap lcf) (by omega) (by rw [flat_len lcf_len, List.length_drop, HL.out]) (fun h9 => ⟨g, (i + 1) * 7, HAV.out h9, fun j u hu => by
          have hj : ⟨g, (i + 1) * 7 + j, none⟩ = (⟨g, (i + 1) * 7 + j, none⟩ : Addr) := rfl
          refine (HC4.out.cell (p := ⟨g, (i + 1) * 7 + j, none⟩) ?_ (fun h => h)).trans (HCL.out _ u ?_)
          · exact Nat.lt_of_lt_of_le hgl HS3.out
          · rw [← flat_drop lcf_len, List.getElem?_drop] at hu
            exact hu⟩) (lcf_one fun x hx => HVS.out x (List.mem_of_mem_drop hx))
        obtain ⟨ra, rc, er, _, _, _⟩ := own_form ho2
        rw [HRL.out] at er ho2
        subst er
        refine step_append_run rfl _ _ 74 rfl rfl _ _ (.slice ra (L - 1) rc) w5 rfl rfl hr ?_
        have HC5 : Hid (Ch (fun _ => False) w3 w5) := HC4.out.andThen hc2' (fun k hk hk2 => by have := (HR4.out k hk).1; omega)
        have HR5 : Hid (∀ k, (Value.slice ra (L - 1) rc).ownBlock = some k → w3.heap.size ≤ k ∧ k < w5.heap.size) := fun k hk => ⟨by
          rcases (hb2 k hk).1 with h | h
          · exact (HR4.out k h).1
          · omega, (hb2 k hk).2⟩
        have hM5 := S4.out.2.ch hc2' (fun k hk hk2 => by have := (HR4.out k hk2).1; have := HD3.out k hk; omega)
        have HO5 : Hid (w5.ownsRow 0 88 7 (.slice ra (L - 1) rc) (M.eraseIdx i).length ((M.eraseIdx i).flatMap lcf)) := by
          show World.ownsRow _ _ _ _ _ _ _
          rw [List.length_eraseIdx_of_lt (by rw [HL.out]; exact hil), HL.out, List.eraseIdx_eq_take_drop_succ, List.flatMap_append]
          exact ho2
        have HM5 := Lib.hid hM5
        have c05 : w5.cell? ⟨X, 0, none⟩ = some (.slice (some ⟨g, 0, none⟩) L cap) := by
          have := hM5.c0
          rw [HEV.out, HL.out] at this
          exact this
        have f05 : w5.frozen? ⟨X, 0, none⟩ = false := hM5.top.frozen 0
        refine hK _ _ ⟨c05, hM5⟩ ?_
        clear hK K hr ho2 hc2' hb2 hM5 S4 HO4 HR4 HC4 HAV HCL HVS hs4
        iterate 2 (apply wpT_go; (focus rfl); (focus rfl); (focus exact (by exact ⟨c05, HM5.out⟩)); (focus (rintro Q ⟨s0, s1⟩; go_simp; exact rfl)); intro K hK; go_simp; refine hK _ ?_; clear hK K)
        apply wpT_two
        focus rfl
        intro K hK
        go_simp
        refine hK _ _ ?_
        clear hK K c05 f05
        refine wpT_done ?_
        have hm6 := HM5.out.newL (M' := M.eraseIdx i) HO5.out (fun k hk => (HR5.out k hk).2) (fun x hx => List.mem_of_mem_eraseIdx hx)
        have HM6 := Lib.hid hm6
        have HC6 : Hid (Ch D w (w5.setCell ⟨X, 0, none⟩ (.slice ra (L - 1) rc))) := (HCD.out.trans (HC5.out.mono (fun _ h _ => h.elim))).trans ((Ch.refl D w5).setCell (p := ⟨X, 0, none⟩) (fun _ => HM5.out.dX) _)
        have hs3 := HCD.out.size
        have HD6 : Hid (∀ k, (D k ∨ (Value.slice ra (L - 1) rc).ownBlock = some k) → D k ∨ (w.heap.size ≤ k ∧ k < (w5.setCell ⟨X, 0, none⟩ (.slice ra (L - 1) rc)).heap.size)) := fun k hk => by
          have hss : (w5.setCell ⟨X, 0, none⟩ (.slice ra (L - 1) rc)).heap.size = w5.heap.size := by simp
          rw [hss]
          exact hk.imp (fun h => h) (fun h => ⟨by have := (HR5.out k h).1; omega, (HR5.out k h).2⟩)
        clear hm6 HO5 HR5 HC5 HM5 hs3
        go_wp2_with fail
        go_ret
        rw [HRM.out]
        have hro : RO (M.eraseIdx i) (s.setO id none) := HO.out.erase HX.out (by rw [HID.out])
        have hl1 : (M.eraseIdx i).length ≤ n + 1 := by rw [List.length_eraseIdx_of_lt (by rw [HL.out]; exact hil)]; have := HN.out.1; omega
        exact ⟨rfl, _, RK.mk' HM6.out hl1 (by have := HN.out.2; omega) hro (HH.out.setO _ _), HC6.out, HD6.out⟩
    · have HRM := Lib.hid (HRM1.out (.inl rfl))
      go_wp2_with fail
      go_ret
      rw [HRM.out]
      exact ⟨rfl, P0.out⟩
  · have HS : Hid (s.o id = none) := HO.out.no hno
    clear hno HF
    go_wp2_with fail
    go_ret
    have hE : rmS s id = (6, s) := by unfold rmS; rw [HS.out]
    rw [hE]
    exact ⟨rfl, P0.out⟩
end
end Go.Proofs.Ytefgfmnnaglfmaa
namespace Go.Proofs.Ytefgfmnnaglfmaa
open Go.RowKit
/-- SI without the bounds. -/
structure SIf (O : Int → Option Ob) (T : Int → Th) : Prop where
  hd : ∀ i id, id ∈ (T i).hd ↔ ∃ x, O id = some x ∧ x.mx = true ∧ 0 < x.ct ∧ x.ow = i
  hn : ∀ i, (T i).hd.Nodup
  qn : ∀ id x, O id = some x → x.q.Nodup
  qs : ∀ id x, O id = some x → ∀ t, t ∈ x.q → (T t).st = 2 ∧ (T t).ob = id
  sq : ∀ t, (T t).st = 2 → ∃ x, O (T t).ob = some x ∧ t ∈ x.q
  q0 : ∀ id x, O id = some x → x.mx = true → x.ct = 0 → x.q = []
  ct : ∀ id x, O id = some x → 0 ≤ x.ct ∧ x.ct ≤ 255
  lv : ∀ id x, O id = some x → 0 ≤ x.lv ∧ x.lv ≤ 15
theorem SI.f {s : LK} (h : SI s) : SIf s.o (stT s) := ⟨h.hd, h.hn, h.qn, h.qs, h.sq, h.q0, h.ct, h.lv⟩
theorem SIf.si {s : LK} (h : SIf s.o (stT s)) (h1 : ∀ i, (s.t i).isSome = true → 0 ≤ i ∧ i < 4) (h2 : ∀ i, (s.o i).isSome = true → 0 ≤ i ∧ i < 6) : SI s := ⟨h.hd, h.hn, h.qn, h.qs, h.sq, h.q0, h.ct, h.lv, h1, h2⟩
/-- One object changed, and threads with it. -/
theorem SIf.upd {O O' : Int → Option Ob} {T T' : Int → Th} {id : Int} {x x' : Ob} (h : SIf O T) (hx : O id = some x) (hO : ∀ j, O' j = if j = id then some x' else O j)
    (m1 : ∀ i k, k ≠ id → (k ∈ (T' i).hd ↔ k ∈ (T i).hd)) (m2 : ∀ i, id ∈ (T' i).hd ↔ (x'.mx = true ∧ 0 < x'.ct ∧ x'.ow = i)) (m3 : ∀ i, (T' i).hd.Nodup)
    (m4 : x'.q.Nodup) (m5 : ∀ t ∈ x'.q, (T' t).st = 2 ∧ (T' t).ob = id) (m6 : ∀ t, (T' t).st = 2 → (t ∈ x'.q ∧ (T' t).ob = id) ∨ ((T t).st = 2 ∧ (T' t).ob = (T t).ob ∧ (T t).ob ≠ id))
    (m7 : ∀ k y, k ≠ id → O k = some y → ∀ t ∈ y.q, (T' t).st = 2 ∧ (T' t).ob = k) (m8 : x'.mx = true → x'.ct = 0 → x'.q = []) (m9 : 0 ≤ x'.ct ∧ x'.ct ≤ 255) (m10 : x'.lv = x.lv) : SIf O' T' := by
  have at1 : O' id = some x' := by rw [hO, if_pos rfl]
  have at2 : ∀ k, k ≠ id → O' k = O k := fun k hk => by rw [hO, if_neg hk]
  refine ⟨fun i k => ?_, m3, fun k y hy => ?_, fun k y hy t ht => ?_, fun t ht => ?_, fun k y hy h1 h2 => ?_, fun k y hy => ?_, fun k y hy => ?_⟩
  · by_cases e : k = id
    · subst e
      rw [m2 i, at1]
      constructor
      · intro h9; exact ⟨x', rfl, h9⟩
      · rintro ⟨z, hz, h9⟩; injection hz with hz; subst hz; exact h9
    · rw [m1 i k e, at2 k e]; exact h.hd i k
  · by_cases e : k = id
    · subst e; rw [at1] at hy; injection hy with hy; subst hy; exact m4
    · rw [at2 k e] at hy; exact h.qn k y hy
  · by_cases e : k = id
    · subst e; rw [at1] at hy; injection hy with hy; subst hy; exact m5 t ht
    · rw [at2 k e] at hy; exact m7 k y e hy t ht
  · rcases m6 t ht with ⟨h1, h2⟩ | ⟨h1, h2, h3⟩
    · rw [h2]; exact ⟨x', at1, h1⟩
    · rw [h2, at2 _ h3]; exact h.sq t h1
  · by_cases e : k = id
    · subst e; rw [at1] at hy; injection hy with hy; subst hy; exact m8 h1 h2
    · rw [at2 k e] at hy; exact h.q0 k y hy h1 h2
  · by_cases e : k = id
    · subst e; rw [at1] at hy; injection hy with hy; subst hy; exact m9
    · rw [at2 k e] at hy; exact h.ct k y hy
  · by_cases e : k = id
    · subst e; rw [at1] at hy; injection hy with hy; subst hy; rw [m10]; exact h.lv _ x hx
    · rw [at2 k e] at hy; exact h.lv k y hy
/-- A thread that does not wait gets another status. -/
theorem SIf.st {O : Int → Option Ob} {T T' : Int → Th} {i : Int} (h : SIf O T) (h1 : (T i).st ≠ 2) (h2 : (T' i).st ≠ 2) (h3 : (T' i).hd = (T i).hd) (h4 : ∀ j, j ≠ i → T' j = T j) : SIf O T' := by
  have hH : ∀ j, (T' j).hd = (T j).hd := fun j => by
    by_cases e : j = i
    · rw [e, h3]
    · rw [h4 j e]
  have hne : ∀ t, (T t).st = 2 → t ≠ i := fun t ht e => h1 (by rw [← e]; exact ht)
  refine ⟨fun j k => by rw [hH]; exact h.hd j k, fun j => by rw [hH]; exact h.hn j, h.qn, fun k y hy t ht => ?_, fun t ht => ?_, h.q0, h.ct, h.lv⟩
  · rw [h4 t (hne t (h.qs k y hy t ht).1)]; exact h.qs k y hy t ht
  · have e : t ≠ i := fun e => h2 (by rw [← e]; exact ht)
    rw [h4 t e] at ht ⊢; exact h.sq t ht
/-- A counter changed. -/
theorem SIf.cnt {O O' : Int → Option Ob} {T : Int → Th} {id c : Int} {x : Ob} (h : SIf O T) (hx : O id = some x) (hO : ∀ j, O' j = if j = id then some { x with ct := c } else O j) (h1 : x.mx = true → (0 < c ↔ 0 < x.ct)) (h2 : 0 ≤ c ∧ c ≤ 255) : SIf O' T := by
  refine h.upd hx hO (fun i k _ => Iff.rfl) (fun i => ?_) h.hn (show x.q.Nodup from h.qn _ _ hx) (show ∀ t ∈ x.q, _ from h.qs _ _ hx) (fun t ht => ?_) (fun k y _ hy => h.qs k y hy) (fun h3 h4 => ?_) h2 rfl
  · rw [h.hd]
    constructor
    · rintro ⟨z, hz, a, b, d⟩
      rw [hx] at hz; injection hz with hz; subst hz
      exact ⟨a, (h1 a).2 b, d⟩
    · rintro ⟨a, b, d⟩
      exact ⟨x, hx, a, (h1 a).1 b, d⟩
  · by_cases e : (T t).ob = id
    · obtain ⟨z, hz, hm⟩ := h.sq t ht
      rw [e, hx] at hz; injection hz with hz; subst hz
      exact .inl ⟨hm, e⟩
    · exact .inr ⟨ht, rfl, e⟩
  · have h4 : c = 0 := h4
    refine h.q0 id x hx h3 ?_
    have := (h1 h3).2
    have := (h.ct id x hx).1
    omega
/-- A thread joins a queue. -/
theorem SIf.join {O O' : Int → Option Ob} {T T' : Int → Th} {id t : Int} {x : Ob} (h : SIf O T) (hx : O id = some x) (hO : ∀ j, O' j = if j = id then some { x with q := x.q ++ [t] } else O j) (h1 : (T t).st ≠ 2) (h0 : x.mx = true → x.ct ≠ 0)
    (h2 : (T' t).st = 2 ∧ (T' t).ob = id ∧ (T' t).hd = (T t).hd) (h3 : ∀ j, j ≠ t → T' j = T j) : SIf O' T' := by
  have hH : ∀ j, (T' j).hd = (T j).hd := fun j => by
    by_cases e : j = t
    · rw [e, h2.2.2]
    · rw [h3 j e]
  have hnq : ∀ k y, O k = some y → t ∉ y.q := fun k y hy hm => h1 (h.qs k y hy t hm).1
  refine h.upd hx hO (fun i k _ => by rw [hH]) (fun i => ?_) (fun i => by rw [hH]; exact h.hn i) ?_ (fun a ha => ?_) (fun a ha => ?_) (fun k y e hy a ha => ?_) (fun h4 h5 => absurd h5 (h0 h4)) (show 0 ≤ x.ct ∧ x.ct ≤ 255 from h.ct _ _ hx) rfl
  · rw [hH, h.hd]
    constructor
    · rintro ⟨z, hz, a⟩
      rw [hx] at hz; injection hz with hz; subst hz; exact a
    · intro a; exact ⟨x, hx, a⟩
  · show (x.q ++ [t]).Nodup
    rw [List.nodup_append]
    exact ⟨h.qn _ _ hx, by simp, fun a ha b hb e => by rw [List.mem_singleton.1 hb] at e; exact hnq id x hx (by rw [← e]; exact ha)⟩
  · rcases List.mem_append.1 ha with ha | ha
    · have e : a ≠ t := fun e => hnq id x hx (by rw [← e]; exact ha)
      rw [h3 a e]; exact h.qs id x hx a ha
    · rw [List.mem_singleton.1 ha]; exact ⟨h2.1, h2.2.1⟩
  · by_cases e : a = t
    · rw [e]; exact .inl ⟨by simp, h2.2.1⟩
    · rw [h3 a e] at ha ⊢
      by_cases e2 : (T a).ob = id
      · obtain ⟨z, hz, hm⟩ := h.sq a ha
        rw [e2, hx] at hz; injection hz with hz; subst hz
        exact .inl ⟨List.mem_append_left _ hm, e2⟩
      · exact .inr ⟨ha, rfl, e2⟩
  · have e2 : a ≠ t := fun e2 => hnq k y hy (by rw [← e2]; exact ha)
    rw [h3 a e2]; exact h.qs k y hy a ha
/-- A thread leaves a queue. -/
theorem SIf.leave {O O' : Int → Option Ob} {T T' : Int → Th} {id t : Int} {x : Ob} (h : SIf O T) (hx : O id = some x) (hO : ∀ j, O' j = if j = id then some { x with q := x.q.erase t } else O j) (h1 : t ∈ x.q)
    (h2 : (T' t).st ≠ 2 ∧ (T' t).hd = (T t).hd) (h3 : ∀ j, j ≠ t → T' j = T j) : SIf O' T' := by
  have hH : ∀ j, (T' j).hd = (T j).hd := fun j => by
    by_cases e : j = t
    · rw [e, h2.2]
    · rw [h3 j e]
  have hm : ∀ a, a ∈ x.q.erase t ↔ a ≠ t ∧ a ∈ x.q := fun a => (h.qn id x hx).mem_erase_iff
  have ho := (h.qs id x hx t h1).2
  refine h.upd hx hO (fun i k _ => by rw [hH]) (fun i => ?_) (fun i => by rw [hH]; exact h.hn i) ((h.qn id x hx).erase t) (fun a ha => ?_) (fun a ha => ?_) (fun k y e hy a ha => ?_) (fun h4 h5 => ?_) (show 0 ≤ x.ct ∧ x.ct ≤ 255 from h.ct _ _ hx) rfl
  · rw [hH, h.hd]
    constructor
    · rintro ⟨z, hz, a⟩
      rw [hx] at hz; injection hz with hz; subst hz; exact a
    · intro a; exact ⟨x, hx, a⟩
  · have ha := (hm a).1 ha
    rw [h3 a ha.1]; exact h.qs id x hx a ha.2
  · have e : a ≠ t := fun e => h2.1 (by rw [← e]; exact ha)
    rw [h3 a e] at ha ⊢
    by_cases e2 : (T a).ob = id
    · obtain ⟨z, hz, hm2⟩ := h.sq a ha
      rw [e2, hx] at hz; injection hz with hz; subst hz
      exact .inl ⟨(hm a).2 ⟨e, hm2⟩, e2⟩
    · exact .inr ⟨ha, rfl, e2⟩
  · have e2 : a ≠ t := fun e2 => e (by rw [← (h.qs k y hy a ha).2, e2, ho])
    rw [h3 a e2]; exact h.qs k y hy a ha
  · have := h.q0 id x hx h4 h5
    rw [this] at h1; cases h1
/-- A mutex without owner gets one. -/
theorem SIf.own {O O' : Int → Option Ob} {T T' : Int → Th} {id t : Int} {x : Ob} (h : SIf O T) (hx : O id = some x) (hmx : x.mx = true) (hct : x.ct = 0) (hO : ∀ j, O' j = if j = id then some { x with ow := t, ct := 1 } else O j) (h1 : (T t).st ≠ 2)
    (h2 : (T' t).st ≠ 2 ∧ (T' t).hd = (T t).hd ++ [id]) (h3 : ∀ j, j ≠ t → T' j = T j) : SIf O' T' := by
  have hq := h.q0 id x hx hmx hct
  have hnid : ∀ i, id ∉ (T i).hd := fun i hm => by
    obtain ⟨z, hz, _, h9, _⟩ := (h.hd i id).1 hm
    rw [hx] at hz; injection hz with hz; subst hz; omega
  have hnq : ∀ k y, O k = some y → t ∉ y.q := fun k y hy hm => h1 (h.qs k y hy t hm).1
  refine h.upd hx hO (fun i k hk => ?_) (fun i => ?_) (fun i => ?_) (show x.q.Nodup from h.qn _ _ hx) (fun a ha => ?_) (fun a ha => ?_) (fun k y e hy a ha => ?_) (fun h4 h5 => by cases h5) ⟨by show (0 : Int) ≤ 1; omega, by show (1 : Int) ≤ 255; omega⟩ rfl
  · by_cases e : i = t
    · rw [e, h2.2, List.mem_append, List.mem_singleton]; exact ⟨fun h => h.elim (fun h => h) (fun h => absurd h hk), .inl⟩
    · rw [h3 i e]
  · by_cases e : i = t
    · rw [e, h2.2]; exact ⟨fun _ => ⟨hmx, by show (0 : Int) < 1; omega, rfl⟩, fun _ => by simp⟩
    · rw [h3 i e]; exact ⟨fun h9 => absurd h9 (hnid i), fun h9 => absurd h9.2.2.symm e⟩
  · by_cases e : i = t
    · rw [e, h2.2, List.nodup_append]
      exact ⟨h.hn t, by simp, fun a ha b hb e => by rw [List.mem_singleton.1 hb] at e; exact hnid t (by rw [← e]; exact ha)⟩
    · rw [h3 i e]; exact h.hn i
  · have ha : a ∈ x.q := ha
    rw [hq] at ha; cases ha
  · have e : a ≠ t := fun e => h2.1 (by rw [← e]; exact ha)
    rw [h3 a e] at ha ⊢
    refine .inr ⟨ha, rfl, fun e2 => ?_⟩
    obtain ⟨z, hz, hm2⟩ := h.sq a ha
    rw [e2, hx] at hz; injection hz with hz; subst hz
    rw [hq] at hm2; cases hm2
  · have e2 : a ≠ t := fun e2 => hnq k y hy (by rw [← e2]; exact ha)
    rw [h3 a e2]; exact h.qs k y hy a ha
/-- A mutex is taken from its owner; nobody waits. -/
theorem SIf.drop {O O' : Int → Option Ob} {T T' : Int → Th} {id i : Int} {x : Ob} (h : SIf O T) (hx : O id = some x) (how : x.ow = i) (hq : x.q = []) (hO : ∀ j, O' j = if j = id then some { x with ow := 0, ct := 0 } else O j)
    (h2 : ∀ j, (T' j).st = (T j).st ∧ (T' j).ob = (T j).ob) (h3 : ∀ j, (T' j).hd = if j = i then (T j).hd.erase id else (T j).hd) : SIf O' T' := by
  have hno : ∀ j, j ≠ i → id ∉ (T j).hd := fun j hj hm => by
    obtain ⟨z, hz, _, _, h9⟩ := (h.hd j id).1 hm
    rw [hx] at hz; injection hz with hz; subst hz
    exact hj (by rw [← h9, how])
  refine h.upd hx hO (fun j k hk => ?_) (fun j => ?_) (fun j => ?_) (show x.q.Nodup from h.qn _ _ hx) (fun a ha => ?_) (fun a ha => ?_) (fun k y e hy a ha => ?_) (fun _ _ => hq) ⟨by show (0 : Int) ≤ 0; omega, by show (0 : Int) ≤ 255; omega⟩ rfl
  · rw [h3 j]
    split
    · rw [(h.hn j).mem_erase_iff]; exact ⟨fun h => h.2, fun h => ⟨hk, h⟩⟩
    · rfl
  · rw [h3 j]
    refine ⟨fun h9 => ?_, fun h9 => absurd h9.2.1 (by show ¬ (0 : Int) < 0; omega)⟩
    split at h9
    · rw [(h.hn j).mem_erase_iff] at h9; exact absurd rfl h9.1
    · rename_i e; exact absurd h9 (hno j e)
  · rw [h3 j]
    split
    · exact (h.hn j).erase id
    · exact h.hn j
  · have ha : a ∈ x.q := ha
    rw [hq] at ha; cases ha
  · rw [(h2 a).1] at ha
    rw [(h2 a).2]
    refine .inr ⟨ha, rfl, fun e2 => ?_⟩
    obtain ⟨z, hz, hm2⟩ := h.sq a ha
    rw [e2, hx] at hz; injection hz with hz; subst hz
    rw [hq] at hm2; cases hm2
  · rw [(h2 a).1, (h2 a).2]; exact h.qs k y hy a ha
/-- A mutex goes from its owner to the first that waits. -/
theorem SIf.hand {O O' : Int → Option Ob} {T T' : Int → Th} {id i a : Int} {r : List Int} {x : Ob} (h : SIf O T) (hx : O id = some x) (hmx : x.mx = true) (how : x.ow = i) (hq : x.q = a :: r) (hO : ∀ j, O' j = if j = id then some { x with ow := a, ct := 1, q := r } else O j)
    (h2 : ∀ j, (T' j).st = (if j = a then 1 else (T j).st) ∧ (T' j).ob = (T j).ob) (h3 : ∀ j, (T' j).hd = if j = a then (if j = i then (T j).hd.erase id else (T j).hd) ++ [id] else if j = i then (T j).hd.erase id else (T j).hd) : SIf O' T' := by
  have hno : ∀ j, j ≠ i → id ∉ (T j).hd := fun j hj hm => by
    obtain ⟨z, hz, _, _, h9⟩ := (h.hd j id).1 hm
    rw [hx] at hz; injection hz with hz; subst hz
    exact hj (by rw [← h9, how])
  have hqn := h.qn id x hx
  rw [hq, List.nodup_cons] at hqn
  have hqs := h.qs id x hx
  rw [hq] at hqs
  have hb : ∀ j, id ∉ (if j = i then (T j).hd.erase id else (T j).hd) := fun j => by
    split
    · rw [(h.hn j).mem_erase_iff]; exact fun h => h.1 rfl
    · rename_i e; exact hno j e
  have hbn : ∀ j, (if j = i then (T j).hd.erase id else (T j).hd).Nodup := fun j => by
    split
    · exact (h.hn j).erase id
    · exact h.hn j
  refine h.upd hx hO (fun j k hk => ?_) (fun j => ?_) (fun j => ?_) hqn.2 (fun b hb => ?_) (fun b hb => ?_) (fun k y e hy b hb => ?_) (fun _ h9 => by cases h9) ⟨by show (0 : Int) ≤ 1; omega, by show (1 : Int) ≤ 255; omega⟩ rfl
  · have h9 : k ∈ (if j = i then (T j).hd.erase id else (T j).hd) ↔ k ∈ (T j).hd := by
      split
      · rw [(h.hn j).mem_erase_iff]; exact ⟨fun h => h.2, fun h => ⟨hk, h⟩⟩
      · rfl
    rw [h3 j]
    by_cases e : j = a
    · rw [if_pos e, List.mem_append, List.mem_singleton, h9]; exact ⟨fun h => h.elim (fun h => h) (fun h => absurd h hk), .inl⟩
    · rw [if_neg e, h9]
  · rw [h3 j]
    by_cases e : j = a
    · rw [if_pos e]; exact ⟨fun _ => ⟨hmx, by show (0 : Int) < 1; omega, e.symm⟩, fun _ => by simp⟩
    · rw [if_neg e]; exact ⟨fun h9 => absurd h9 (hb j), fun h9 => absurd h9.2.2.symm e⟩
  · rw [h3 j]
    by_cases e : j = a
    · rw [if_pos e, List.nodup_append]
      exact ⟨hbn j, by simp, fun c hc d hd e => by rw [List.mem_singleton.1 hd] at e; subst e; exact hb j hc⟩
    · rw [if_neg e]; exact hbn j
  · have e : b ≠ a := fun e => hqn.1 (by rw [← e]; exact hb)
    rw [(h2 b).1, (h2 b).2, if_neg e]; exact hqs b (List.mem_cons_of_mem _ hb)
  · rw [(h2 b).1] at hb
    split at hb
    · cases hb
    · rename_i e
      rw [(h2 b).2]
      by_cases e2 : (T b).ob = id
      · obtain ⟨z, hz, hm2⟩ := h.sq b hb
        rw [e2, hx] at hz; injection hz with hz; subst hz
        rw [hq] at hm2
        rcases List.mem_cons.1 hm2 with h9 | h9
        · exact absurd h9 e
        · exact .inl ⟨h9, e2⟩
      · exact .inr ⟨hb, rfl, e2⟩
  · have e2 : b ≠ a := fun e2 => e (by rw [← (h.qs k y hy b hb).2, e2]; exact (hqs a (by simp)).2)
    rw [(h2 b).1, (h2 b).2, if_neg e2]; exact h.qs k y hy b hb
end Go.Proofs.Ytefgfmnnaglfmaa
namespace Go.Proofs.Ytefgfmnnaglfmaa
open Go.RowKit
theorem pigeonT : ∀ (n : Nat) (l : List Int), l.Nodup → (∀ a ∈ l, 0 ≤ a ∧ a < (n : Int)) → l.length ≤ n
  | 0, [], _, _ => Nat.le_refl 0
  | 0, a :: r, _, h => by have := h a (by simp); omega
  | n + 1, l, hn, h => by
    have := pigeonT n (l.erase (n : Int)) (hn.erase _) (fun a ha => by
      rw [hn.mem_erase_iff] at ha
      have := h a ha.2
      omega)
    rw [List.length_erase] at this
    split at this <;> omega
section
variable {s s' : LK} {i id t : Int} {x y : Ob}
theorem ti_upT {B : Int → Prop} {f : Th → Th} (h : ∀ j, (s.t j).isSome = true → B j) (hi : B i) : ∀ j, ((s.upT i f).t j).isSome = true → B j := fun j hj => by
  by_cases e : j = i
  · rw [e]; exact hi
  · refine h j ?_
    have : (s.upT i f).t j = s.t j := by show (if j = i then _ else _) = _; rw [if_neg e]
    rw [← this]; exact hj
theorem oi_setO {B : Int → Prop} {z : Option Ob} (h : ∀ j, (s.o j).isSome = true → B j) (hi : B id) : ∀ j, ((s.setO id z).o j).isSome = true → B j := fun j hj => by
  by_cases e : j = id
  · rw [e]; exact hi
  · refine h j ?_
    have : (s.setO id z).o j = s.o j := by show (if j = id then _ else _) = _; rw [if_neg e]
    rw [← this]; exact hj
theorem SI.io (h : SI s) (hx : s.o id = some x) : 0 ≤ id ∧ id < 6 := h.oi id (by rw [hx]; rfl)
theorem SI.it (h : SI s) (h2 : (stT s i).st = 2) : 0 ≤ i ∧ i < 4 := h.ti i (by
  rcases e : s.t i with _ | z
  · unfold stT at h2; rw [e] at h2; cases h2
  · rfl)
/-- The wait of a thread ends. -/
theorem SI.stop (h : SI s) (h1 : (stT s i).st = 2) {a : Int} (ha : a ≠ 2) : SI (stopS s i a) := by
  obtain ⟨x, hx, hm⟩ := h.sq i h1
  have ho : ∀ j, (stopS s i a).o j = if j = (stT s i).ob then some { x with q := x.q.erase i } else s.o j := fun j => by
    show (if j = (stT s i).ob then (s.o (stT s i).ob).map _ else s.o j) = _
    rw [hx]; rfl
  have hT : ∀ j, stT (stopS s i a) j = if j = i then { stT s i with st := a } else stT s j := fun j => by
    unfold stopS
    rw [stT_upT, stT_upO, stT_upO]
  have := h.f.leave (T' := stT (stopS s i a)) hx ho hm ⟨by rw [hT, if_pos rfl]; exact ha, by rw [hT, if_pos rfl]⟩ (fun j hj => by rw [hT, if_neg hj])
  refine this.si (ti_upT (fun j hj => h.ti j hj) (h.it h1)) (fun j hj => ?_)
  rw [ho] at hj
  split at hj
  · rename_i e; rw [e]; exact h.io hx
  · exact h.oi j hj
/-- The reference's leave does the same to the objects. -/
theorem leave_stop (h : SI s) (h1 : (stT s i).st = 2) (a : Int) : (stopS s i a).o = (lvS s i).o := by
  obtain ⟨x, hx, hm⟩ := h.sq i h1
  funext j
  show (if j = (stT s i).ob then (s.o (stT s i).ob).map _ else s.o j) = (s.o j).map _
  by_cases e : j = (stT s i).ob
  · rw [if_pos e, e, hx]
    show some (Ob.mk x.mx x.lv x.ow x.ct (x.q.erase i)) = some (Ob.mk x.mx x.lv x.ow x.ct (x.q.filter fun a => a != i))
    rw [(h.qn _ x hx).erase_eq_filter]
  · rw [if_neg e]
    rcases hz : s.o j with _ | z
    · rfl
    · have hn : i ∉ z.q := fun hm2 => e (h.qs j z hz i hm2).2.symm
      show some z = some _
      have : z.q.filter (fun a => a != i) = z.q := List.filter_eq_self.2 fun b hb => by
        simp only [bne_iff_ne]; exact fun e => hn (by rw [← e]; exact hb)
      show some z = some (Ob.mk z.mx z.lv z.ow z.ct (z.q.filter fun a => a != i))
      rw [this]
theorem SI.st {a : Int} (h : SI s) (h1 : (stT s i).st ≠ 2) (h2 : a ≠ 2) (hi : 0 ≤ i ∧ i < 4) : SI (s.upT i fun t => { t with st := a }) := by
  refine SIf.si (h.f.st (i := i) h1 ?_ ?_ (fun j hj => ?_)) (ti_upT h.ti hi) h.oi
  · rw [stT_upT, if_pos rfl]; exact h2
  · rw [stT_upT, if_pos rfl]
  · rw [stT_upT, if_neg hj]
theorem SI.wait {now tm : Int} (h : SI s) (h1 : (stT s i).st ≠ 2) (hi : 0 ≤ i ∧ i < 4) (hx : s.o id = some x) (h0 : x.mx = true → x.ct ≠ 0) : SI (waitS s i id now tm).2 := by
  unfold waitS
  split
  · exact h.st h1 (by omega) hi
  · have ho : ∀ j, ((s.upT i fun t => { t with st := 2, ob := id, en := decide (65535 ≤ tm), dl := dlv now tm }).upO id fun x => { x with q := x.q ++ [i] }).o j = if j = id then some { x with q := x.q ++ [i] } else s.o j := fun j => by
      show (if j = id then (s.o id).map _ else s.o j) = _
      rw [hx]; rfl
    refine SIf.si (h.f.join hx ho h1 h0 ?_ (fun j hj => ?_)) (fun j hj => ti_upT (s := s) (i := i) (f := fun t => { t with st := 2, ob := id, en := decide (65535 ≤ tm), dl := dlv now tm }) h.ti hi j hj) (fun j hj => ?_)
    · rw [stT_upO, stT_upT, if_pos rfl]; exact ⟨rfl, rfl, rfl⟩
    · rw [stT_upO, stT_upT, if_neg hj]
    · have hj : (((s.upT i fun t => { t with st := 2, ob := id, en := decide (65535 ≤ tm), dl := dlv now tm }).upO id fun x => { x with q := x.q ++ [i] }).o j).isSome = true := hj
      rw [ho] at hj
      split at hj
      · rename_i e; rw [e]; exact h.io hx
      · exact h.oi j hj
/-- A counter changed, the thread's status too. -/
theorem SI.cnt {c : Int} (h : SI s) (hx : s.o id = some x) (h1 : x.mx = true → (0 < c ↔ 0 < x.ct)) (h2 : 0 ≤ c ∧ c ≤ 255) : SI (s.setO id (some { x with ct := c })) :=
  SIf.si (s := s.setO id (some { x with ct := c })) (h.f.cnt (T := stT s) hx (fun _ => rfl) h1 h2) h.ti (oi_setO h.oi (h.io hx))
theorem SI.cntSt {c a : Int} (h : SI s) (hx : s.o id = some x) (h1 : x.mx = true → (0 < c ↔ 0 < x.ct)) (h2 : 0 ≤ c ∧ c ≤ 255) (h3 : (stT s i).st ≠ 2) (h4 : a ≠ 2) (hi : 0 ≤ i ∧ i < 4) : SI ((s.setO id (some { x with ct := c })).upT i fun t => { t with st := a }) :=
  (h.cnt hx h1 h2).st (i := i) (by rw [setO_o]; exact h3) h4 hi
theorem SI.own (h : SI s) (hx : s.o id = some x) (hmx : x.mx = true) (hct : x.ct = 0) (h1 : (stT s i).st ≠ 2) (hi : 0 ≤ i ∧ i < 4) : SI (ownS s i id) := by
  have ho : ∀ j, (ownS s i id).o j = if j = id then some { x with ow := i, ct := 1 } else s.o j := fun j => by
    show (if j = id then (s.o id).map _ else s.o j) = _
    rw [hx]; rfl
  have hT : ∀ j, stT (ownS s i id) j = if j = i then { stT s i with st := 1, hd := (stT s i).hd ++ [id] } else stT s j := fun j => by
    unfold ownS
    rw [stT_upT, stT_upO, stT_upO]
  refine SIf.si (h.f.own hx hmx hct ho h1 ?_ (fun j hj => by rw [hT, if_neg hj])) (ti_upT h.ti hi) (fun j hj => ?_)
  · rw [hT, if_pos rfl]; exact ⟨by show (1 : Int) ≠ 2; omega, rfl⟩
  · rw [ho] at hj
    split at hj
    · rename_i e; rw [e]; exact h.io hx
    · exact h.oi j hj
/-- A mutex is freed: s' is s but for the counter. -/
theorem SI.free (h : SI s) (hx : s.o id = some x) (hmx : x.mx = true) (hy : s'.o id = some y) (e1 : y.mx = x.mx) (e2 : y.lv = x.lv) (e3 : y.ow = x.ow) (e4 : y.q = x.q) (ho : ∀ j, j ≠ id → s'.o j = s.o j) (ht : s'.t = s.t) (how : 0 ≤ x.ow ∧ x.ow < 4) : SI (freeS s' id) := by
  have hts : ∀ j, stT s' j = stT s j := fun j => by unfold stT; rw [ht]
  have hoT : ∀ j, (takeS s' id y).o j = if j = id then some { x with ow := 0, ct := 0 } else s.o j := fun j => by
    show (if j = id then some { y with ow := 0, ct := 0 } else s'.o j) = _
    by_cases e : j = id
    · rw [if_pos e, if_pos e]; show some (Ob.mk y.mx y.lv 0 0 y.q) = some (Ob.mk x.mx x.lv 0 0 x.q); rw [e1, e2, e4]
    · rw [if_neg e, if_neg e, ho j e]
  have hT : ∀ j, stT (takeS s' id y) j = if j = x.ow then { stT s j with hd := (stT s j).hd.erase id } else stT s j := fun j => by
    unfold takeS
    rw [setO_o, stT_upT, e3]
    by_cases e : j = x.ow
    · rw [if_pos e, if_pos e, ← e, hts]
    · rw [if_neg e, if_neg e, hts]
  have hti : ∀ j, ((takeS s' id y).t j).isSome = true → 0 ≤ j ∧ j < 4 := fun j hj => ti_upT (s := s') (i := y.ow) (f := fun t => { t with hd := t.hd.erase id }) (B := fun j => 0 ≤ j ∧ j < 4) (fun j hj => h.ti j (by rw [← ht]; exact hj)) (by rw [e3]; exact how) j hj
  unfold freeS
  rw [hy]
  show SI (giveS (takeS s' id y) id { y with ow := 0, ct := 0 })
  rcases hq : x.q with _ | ⟨a, r⟩
  · have hg : giveS (takeS s' id y) id { y with ow := 0, ct := 0 } = takeS s' id y := by unfold giveS; simp only [e4, hq]
    rw [hg]
    refine SIf.si (h.f.drop hx rfl hq hoT (fun j => ?_) (fun j => ?_)) hti (fun j hj => ?_)
    · rw [hT]; split <;> exact ⟨rfl, rfl⟩
    · rw [hT]; split <;> rfl
    · rw [hoT] at hj
      split at hj
      · rename_i e; rw [e]; exact h.io hx
      · exact h.oi j hj
  · have hg : giveS (takeS s' id y) id { y with ow := 0, ct := 0 } = ownS ((takeS s' id y).setO id (some { y with ow := 0, ct := 0, q := r })) a id := by unfold giveS; simp only [e4, hq]
    rw [hg]
    have hoG : ∀ j, (ownS ((takeS s' id y).setO id (some { y with ow := 0, ct := 0, q := r })) a id).o j = if j = id then some { x with ow := a, ct := 1, q := r } else s.o j := fun j => by
      show (if j = id then ((if id = id then some { y with ow := 0, ct := 0, q := r } else (takeS s' id y).o id : Option Ob)).map _ else if j = id then _ else (takeS s' id y).o j) = _
      by_cases e : j = id
      · rw [if_pos e, if_pos e, if_pos rfl]; show some (Ob.mk y.mx y.lv a 1 r) = some (Ob.mk x.mx x.lv a 1 r); rw [e1, e2]
      · rw [if_neg e, if_neg e, if_neg e, hoT, if_neg e]
    have hTG : ∀ j, stT (ownS ((takeS s' id y).setO id (some { y with ow := 0, ct := 0, q := r })) a id) j = if j = a then { stT (takeS s' id y) j with st := 1, hd := (stT (takeS s' id y) j).hd ++ [id] } else stT (takeS s' id y) j := fun j => by
      unfold ownS
      rw [stT_upT, stT_upO, setO_o, stT_upO, setO_o]
      by_cases e : j = a
      · rw [if_pos e, if_pos e, e]
      · rw [if_neg e, if_neg e]
    have ha2 := (h.qs id x hx a (by rw [hq]; simp)).1
    refine SIf.si (h.f.hand hx hmx rfl hq hoG (fun j => ?_) (fun j => ?_)) (ti_upT (s := ((takeS s' id y).setO id (some { y with ow := 0, ct := 0, q := r })).upO id fun x => { x with ow := a, ct := 1 }) hti (h.it ha2)) (fun j hj => ?_)
    · rw [hTG]
      by_cases e : j = a
      · rw [if_pos e, if_pos e]; refine ⟨rfl, ?_⟩; show (stT (takeS s' id y) j).ob = _; rw [hT]; split <;> rfl
      · rw [if_neg e, if_neg e, hT]; split <;> exact ⟨rfl, rfl⟩
    · rw [hTG]
      by_cases e : j = a
      · rw [if_pos e, if_pos e]
        show (stT (takeS s' id y) j).hd ++ [id] = _
        rw [hT]; split <;> rfl
      · rw [if_neg e, if_neg e, hT]; split <;> rfl
    · rw [hoG] at hj
      split at hj
      · rename_i e; rw [e]; exact h.io hx
      · exact h.oi j hj
theorem setO_self (h : s.o id = some x) : s.setO id (some x) = s := by
  unfold LK.setO
  have : (fun j => if j = id then some x else s.o j) = s.o := by
    funext j
    by_cases e : j = id
    · rw [if_pos e, e, h]
    · rw [if_neg e]
  rw [this]
theorem SI.acq {now tm : Int} (h : SI s) (hi : 0 ≤ i ∧ i < 4) : SI (acqS s i id now tm).2.2 := by
  unfold acqS
  rcases hx : s.o id with _ | x
  · exact h
  · dsimp only
    split
    · exact h
    · rename_i hmx
      have hmx : x.mx = true := by simpa using hmx
      split
      · exact h
      · rename_i h2
        rw [stat_eq] at h2
        split
        · rename_i hc
          split
          · exact h
          · exact h.cntSt hx (fun _ => by omega) (by omega) h2 (by omega) hi
        · split
          · exact h
          · split
            · rename_i hc; exact h.own hx hmx hc h2 hi
            · rename_i hc; exact h.wait h2 hi hx (fun _ => hc)
theorem SI.rel (h : SI s) (hi : 0 ≤ i ∧ i < 4) : SI (relS s i id).2 := by
  unfold relS
  rcases hx : s.o id with _ | x
  · exact h
  · dsimp only
    have hct := h.ct id x hx
    split
    · exact h
    · rename_i hmx
      have hmx : x.mx = true := by simpa using hmx
      split
      · exact h
      · rename_i hc
        have hc0 : x.ct ≠ 0 := fun e => hc (.inl e)
        have how : x.ow = i := Classical.byContradiction fun e => hc (.inr (.inl e))
        split
        · exact h.free hx hmx (LK.at_o s id _) rfl rfl rfl rfl (fun j hj => by show (if j = id then _ else _) = _; rw [if_neg hj]) rfl (by rw [how]; exact hi)
        · exact h.cnt hx (fun _ => by omega) (by omega)
theorem SI.wt {now tm : Int} (h : SI s) (hi : 0 ≤ i ∧ i < 4) : SI (wtS s i id now tm).2.2 := by
  unfold wtS
  rcases hx : s.o id with _ | x
  · exact h
  · dsimp only
    have hct := h.ct id x hx
    split
    · exact h
    · rename_i hmx
      split
      · exact h
      · rename_i h2
        rw [stat_eq] at h2
        split
        · exact h.cntSt hx (fun e => absurd e hmx) (by omega) h2 (by omega) hi
        · exact h.wait h2 hi hx (fun e => absurd e hmx)
theorem SI.sig (h : SI s) : SI (sigS s id).2 := by
  unfold sigS
  rcases hx : s.o id with _ | x
  · exact h
  · dsimp only
    have hct := h.ct id x hx
    split
    · exact h
    · rename_i hmx
      rcases hq : x.q with _ | ⟨a, r⟩
      · dsimp only
        split
        · exact h
        · have := h.cnt (c := x.ct + 1) hx (fun e => absurd e hmx) (by omega)
          rw [hq] at this
          exact this
      · dsimp only
        obtain ⟨h1, h2⟩ := h.qs id x hx a (by rw [hq]; simp)
        have he : x.q.erase a = r := by rw [hq]; simp
        refine SIf.si (h.f.leave (t := a) hx (fun j => ?_) (by rw [hq]; simp) ?_ (fun j hj => ?_)) (ti_upT h.ti (h.it h1)) (oi_setO h.oi (h.io hx))
        · show (if j = id then _ else _) = _; rw [he]
        · rw [stT_upT, if_pos rfl]; exact ⟨by show (1 : Int) ≠ 2; omega, rfl⟩
        · rw [stT_upT, if_neg hj]; rfl
theorem SI.rst (h : SI s) : SI (rstS s id).2 := by
  unfold rstS
  rcases hx : s.o id with _ | x
  · exact h
  · dsimp only
    split
    · exact h
    · rename_i hmx
      exact h.cnt hx (fun e => absurd e hmx) (by omega)
theorem SI.rm (h : SI s) : SI (rmS s id).2 := by
  unfold rmS
  rcases hx : s.o id with _ | x
  · exact h
  · dsimp only
    split
    · exact h
    · rename_i hc
      have hq : x.q = [] := Classical.byContradiction fun e => hc (.inr e)
      have hO : ∀ j y, (s.setO id none).o j = some y → j ≠ id ∧ s.o j = some y := fun j y hy => by
        by_cases e : j = id
        · rw [e] at hy; simp [LK.setO] at hy
        · exact ⟨e, by simpa [LK.setO, e] using hy⟩
      refine ⟨fun i k => ?_, h.hn, fun k y hy => h.qn k y (hO k y hy).2, fun k y hy => h.qs k y (hO k y hy).2, fun t ht => ?_, fun k y hy => h.q0 k y (hO k y hy).2, fun k y hy => h.ct k y (hO k y hy).2, fun k y hy => h.lv k y (hO k y hy).2, h.ti, fun j hj => ?_⟩
      · rw [setO_o, h.hd]
        constructor
        · rintro ⟨z, hz, a, b, d⟩
          have e : k ≠ id := fun e => by rw [e, hx] at hz; injection hz with hz; subst hz; exact hc (.inl ⟨a, b⟩)
          exact ⟨z, by simpa [LK.setO, e] using hz, a, b, d⟩
        · rintro ⟨z, hz, a⟩; exact ⟨z, (hO k z hz).2, a⟩
      · obtain ⟨z, hz, hm⟩ := h.sq t ht
        have e : (stT s t).ob ≠ id := fun e => by rw [e, hx] at hz; injection hz with hz; subst hz; rw [hq] at hm; cases hm
        exact ⟨z, by rw [setO_o]; simpa [LK.setO, e] using hz, hm⟩
      · rcases hz : (s.setO id none).o j with _ | z
        · rw [hz] at hj; cases hj
        · exact h.oi j (by rw [(hO j z hz).2]; rfl)
theorem SI.add (h : SI s) (hn : s.o id = none) (hid : 0 ≤ id ∧ id < 6) {mx : Bool} {lv : Int} (hlv : 0 ≤ lv ∧ lv ≤ 15) : SI (s.setO id (some ⟨mx, lv, 0, 0, []⟩)) := by
  have hO : ∀ j y, (s.setO id (some ⟨mx, lv, 0, 0, []⟩)).o j = some y → (j = id ∧ y = ⟨mx, lv, 0, 0, []⟩) ∨ (j ≠ id ∧ s.o j = some y) := fun j y hy => by
    by_cases e : j = id
    · refine .inl ⟨e, ?_⟩
      rw [e] at hy; simpa [LK.setO, eq_comm] using hy
    · exact .inr ⟨e, by simpa [LK.setO, e] using hy⟩
  have hat : ∀ j y, s.o j = some y → (s.setO id (some ⟨mx, lv, 0, 0, []⟩)).o j = some y := fun j y hy => by
    have e : j ≠ id := fun e => by rw [e, hn] at hy; cases hy
    simpa [LK.setO, e] using hy
  refine ⟨fun i k => ?_, h.hn, fun k y hy => ?_, fun k y hy t ht => ?_, fun t ht => ?_, fun k y hy h1 h2 => ?_, fun k y hy => ?_, fun k y hy => ?_, h.ti, oi_setO h.oi hid⟩
  · rw [setO_o, h.hd]
    constructor
    · rintro ⟨z, hz, a⟩; exact ⟨z, hat k z hz, a⟩
    · rintro ⟨z, hz, a, b, d⟩
      rcases hO k z hz with ⟨_, rfl⟩ | ⟨_, h9⟩
      · exact absurd b (by show ¬ (0 : Int) < 0; omega)
      · exact ⟨z, h9, a, b, d⟩
  · rcases hO k y hy with ⟨_, rfl⟩ | ⟨_, h9⟩
    · exact List.nodup_nil
    · exact h.qn k y h9
  · rcases hO k y hy with ⟨_, rfl⟩ | ⟨_, h9⟩
    · cases ht
    · exact h.qs k y h9 t ht
  · obtain ⟨z, hz, hm⟩ := h.sq t ht
    exact ⟨z, hat _ z hz, hm⟩
  · rcases hO k y hy with ⟨_, rfl⟩ | ⟨_, h9⟩
    · rfl
    · exact h.q0 k y h9 h1 h2
  · rcases hO k y hy with ⟨_, rfl⟩ | ⟨_, h9⟩
    · exact ⟨by show (0 : Int) ≤ 0; omega, by show (0 : Int) ≤ 255; omega⟩
    · exact h.ct k y h9
  · rcases hO k y hy with ⟨_, rfl⟩ | ⟨_, h9⟩
    · exact hlv
    · exact h.lv k y h9
theorem SI.addM {lv : Int} (h : SI s) (hid : 0 ≤ id ∧ id < 6) : SI (addM s id lv).2 := by
  unfold Ytefgfmnnaglfmaa.addM
  split
  · exact h
  · split
    · exact h
    · rename_i h1 h2
      exact h.add (by rcases e : s.o id with _ | z; rfl; rw [e] at h2; exact absurd rfl h2) hid (by omega)
theorem SI.addE (h : SI s) (hid : 0 ≤ id ∧ id < 6) : SI (addE s id).2 := by
  unfold Ytefgfmnnaglfmaa.addE
  split
  · exact h
  · rename_i h2
    exact h.add (by rcases e : s.o id with _ | z; rfl; rw [e] at h2; exact absurd rfl h2) hid (by omega)
theorem SI.zero : SI ⟨fun _ => none, fun _ => none⟩ := by
  have hT : ∀ i, stT ⟨fun _ => none, fun _ => none⟩ i = th0 := fun _ => rfl
  refine ⟨fun i id => ?_, fun i => by rw [hT]; exact List.nodup_nil, (fun _ _ h => by cases h), (fun _ _ h => by cases h), fun t ht => ?_, (fun _ _ h => by cases h), (fun _ _ h => by cases h), (fun _ _ h => by cases h), (fun _ h => by cases h), (fun _ h => by cases h)⟩
  · rw [hT]; exact ⟨(fun h => by cases h), (fun ⟨_, h, _⟩ => by cases h)⟩
  · rw [hT] at ht; cases ht
theorem SI.ql (h : SI s) (hx : s.o id = some x) : x.q.length ≤ 4 := pigeonT 4 x.q (h.qn id x hx) fun a ha => h.it (h.qs id x hx a ha).1
theorem SI.hl (h : SI s) (i : Int) : (stT s i).hd.length ≤ 6 := pigeonT 6 _ (h.hn i) fun a ha => by
  obtain ⟨x, hx, _⟩ := (h.hd i a).1 ha
  exact h.io hx
end
end Go.Proofs.Ytefgfmnnaglfmaa
