/- The reference's Acquire, Release, leave. Conditions: those that each theorem names. -/
import Derived.Test.YtefgfmnnaglfmaaN3
namespace Go.Proofs.Ytefgfmnnaglfmaa
open Go.RowKit
section
variable {w w1 w' : World} {D D1 : Nat → Prop} {X n : Nat} {s : LK}
set_option maxRecDepth 100000 in
set_option maxHeartbeats 8000000 in
theorem racquire_any (h : RK w D X n s) (hI : SI s) (hn : n ≤ 80000) (t id now tm : Int) (hnow : 0 ≤ now ∧ now ≤ 18446744073709551615) (htm : 0 ≤ tm ∧ tm ≤ 18446744073709551615) (hql : ∀ x, s.o id = some x → x.q.length ≤ 1000) :
    Calls Try.prog 51 #[ptr X, .int .i64 t, .int .i64 id, .int .u64 now, .int .u64 tm] w fun e w' => e = .returned (.tuple #[.int .i64 (acqS s t id now tm).1, .int .i64 (acqS s t id now tm).2.1]) ∧ RP w D X (n + 2) (acqS s t id now tm).2.2 w' := by
  have HI := Lib.hid hI
  have HQL := Lib.hid hql
  clear hI hql
  have P0 := Lib.hid (RP.same h (show n ≤ n + 2 by omega))
  obtain ⟨vl, vw, M, W, h1, h2, h3, h4, h5⟩ := h
  have HF := Lib.hid (rfind_any h1 (by omega) id)
  have H := Lib.hid h1
  have HO := Lib.hid h4
  have HH := Lib.hid h5
  have HN : Hid (M.length ≤ n ∧ W.length ≤ n) := ⟨h2, h3⟩
  have c0 := h1.c0
  obtain ⟨al, cap, e, hc1, hc2⟩ := h1.fl
  obtain ⟨L, hL⟩ : ∃ L, M.length = L := ⟨_, rfl⟩
  rw [hL] at h2 hc1 e
  rw [e] at c0
  have HE := Lib.hid e
  have HL := Lib.hid hL
  unfold maxLen at hc2
  clear h1 h4 h5 h3 e hL
  go_enter Try.func51, Try.ntmps51
  go_wp2_with fail
  refine HF.out.mono ?_
  rintro e w' ⟨rfl, ⟨i, x, hx, he, rfl⟩ | ⟨rfl, hno⟩⟩
  · obtain ⟨g, cp, e, _, _, hgl, hgD, d0, d1, d2, d3, d4, d5, d6, fr⟩ := H.out.gl hx
    rw [HE.out, HL.out] at e
    injection e with e1 e2 e3
    subst e1 e3
    have hil : i < L := by rw [← HL.out]; exact (List.getElem?_eq_some_iff.1 hx).1
    have hod := HO.out.od hx
    have HS : Hid (s.o id = some x.ob) := by show _ = _; rw [← he]; exact HO.out.at hx
    have hi0 : ¬ (i : Int) < 0 := by omega
    have HX := Lib.hid hx
    have HID := Lib.hid he
    have HEV : Hid (vl = .slice (some ⟨g, 0, none⟩) M.length cap) := by show _ = _; rw [HE.out, HL.out]
    obtain ⟨mx, hmx⟩ : ∃ b, x.mx = b := ⟨_, rfl⟩
    rw [hmx] at d1
    have HMX : Hid (x.mx = mx) := hmx
    have HOD : Hid (x.od = (mx && decide (0 < x.ct))) := by show _ = _; rw [hod, hmx]
    have HQX : Hid (x.q.length ≤ 1000) := HQL.out x.ob HS.out
    have HTH := Lib.hid (rthread_any H.out (by have := HN.out.2; omega) t)
    clear hx he HF hod hmx fr
    cases mx
    · go_wp2_with fail
      go_ret2
      have hE : acqS s t id now tm = (0, 6, s) := by
        unfold acqS
        rw [HS.out]
        exact if_pos (show x.mx = false from HMX.out)
      rw [hE]
      exact ⟨rfl, P0.out⟩
    · have HWT : Hid (acqS s t id now tm = if stat s t = 2 then (0, 9, s) else if 0 < x.ct ∧ x.ow = t then (if 255 ≤ x.ct then (0, 11, s) else (1, 0, (s.setO id (some { x.ob with ct := x.ct + 1 })).upT t fun t => { t with st := 1 })) else if above s t x.lv = true then (0, 13, s) else if x.ct = 0 then (1, 0, ownS s t id) else ((waitS s t id now tm).1, 0, (waitS s t id now tm).2)) := by
        show _ = _
        unfold acqS
        rw [HS.out]
        exact if_neg (by rw [show x.ob.mx = true from HMX.out]; simp)
      go_wp2_with fail
      refine HTH.out.mono ?_
      rintro e w1 ⟨gw, cw, iw, y, D1, rfl, hy, hya, hm1, hc1, hD1⟩
      obtain ⟨gw', cw', ew, hcw1, hcw2, hgwl, hDgw, t0, t1, t2, t3, t4, frw⟩ := hm1.gt hy
      obtain ⟨e1, _, e3⟩ := sl_inj ew
      subst e1 e3
      have ft1 := frw (iw * 5 + 1)
      obtain ⟨LW, hLW⟩ : ∃ n, (thrW W t).length = n := ⟨_, rfl⟩
      have hlw : LW ≤ W.length + 1 := by rw [← hLW]; exact thr_len W t
      rw [hLW] at hm1 hcw1
      have HLW : Hid ((thrW W t).length = LW) := hLW
      have HEW : Hid ((Value.slice (some ⟨gw, 0, none⟩) LW cw) = .slice (some ⟨gw, 0, none⟩) (thrW W t).length cw) := by show _ = _; rw [hLW]
      have HD1 : Hid (∀ k, D1 k → D k ∨ (w.heap.size ≤ k ∧ k < w1.heap.size)) := hD1
      have HC1 := Lib.hid hc1
      have HM1 := Lib.hid hm1
      have HY : Hid ((thrW W t)[iw]? = some y ∧ y.th = t) := ⟨hy, hya⟩
      have HRT : Hid (RH (thrW W t) s) := HH.out.thr t
      have HYT : Hid (y.st = stat s t) := by show _ = _; rw [(HRT.out.is y (List.mem_of_getElem? hy)).1, hya]
      have HCT : Hid (∀ w2, Ch D1 w1 w2 → Ch D w w2) := fun w2 c => HC1.out.andThen c (fun k hk hk2 => by
        rcases HD1.out k hk with h | h
        · exact h
        · omega)
      have HNW : Hid (M.length ≤ n + 1 ∧ LW ≤ n + 1) := ⟨by have := HN.out.1; omega, by have := HN.out.2; omega⟩
      clear ew frw hm1 hc1 hD1 hy hya HTH hLW
      obtain ⟨st, hst⟩ : ∃ z, y.st = z := ⟨_, rfl⟩
      rw [hst] at t1
      have HST : Hid (stat s t = st) := by show _ = _; rw [← HYT.out, hst]
      rw [HST.out] at HWT
      clear hst
      by_cases h2 : st = 2
      · subst h2
        rw [if_pos rfl] at HWT
        clear d0 d1 d2 d3 d4 d5 d6 c0 t0 t2 t3 t4 ft1
        go_wp2_with fail
        go_ret2
        rw [HWT.out]
        exact ⟨rfl, D1, RK.mk' HM1.out (by have := HN.out.1; omega) (by rw [HLW.out]; have := HNW.out.2; omega) HO.out HRT.out, HC1.out, HD1.out⟩
      · rw [if_neg h2] at HWT
        have h2b : (st == 2) = false := by simpa using h2
        clear d0 d1 d2 d3 d4 d5 d6 c0
        obtain ⟨g', cp', e, _, _, hgl1, _, d0, d1, d2, d3, d4, d5, d6, fr⟩ := HM1.out.gl HX.out
        rw [HEV.out] at e
        obtain ⟨e1, _, e3⟩ := sl_inj e
        subst e1 e3
        have c0 := HM1.out.c0
        rw [HEV.out, HL.out] at c0
        clear e
        have hct : 0 ≤ x.ct ∧ x.ct ≤ 255 := HI.out.ct id x.ob HS.out
        obtain ⟨od, hodv⟩ : ∃ b, x.od = b := ⟨_, rfl⟩
        rw [hodv] at d3
        have HODV : Hid (x.od = od) := hodv
        have hdec : od = decide (0 < x.ct) := by rw [← hodv, HOD.out]; rfl
        clear hodv
        cases od
        · have hctz : x.ct = 0 := by have := of_decide_eq_false hdec.symm; omega
          rw [if_neg (fun h => by have := h.1; omega)] at HWT
          clear hdec
          have HAB := Lib.hid (hiM_above HO.out HI.out t x.lv (by have := (HI.out.lv id x.ob HS.out).1; have h9 : 0 ≤ x.lv := this; omega))
          have SH : Hid (w1.drew.cell? ⟨g, i * 7 + 2, none⟩ = some (.int .i64 x.lv) ∧ RM w1.drew D1 X vl (.slice (some ⟨gw, 0, none⟩) LW cw) M (thrW W t)) := ⟨d2, HM1.out.drew⟩
          have HCD : Hid (Ch D w w1.drew) := HCT.out _ (Ch.refl _ _).drew
          obtain ⟨hi, hhi⟩ : ∃ z, hiM M t = z := ⟨_, rfl⟩
          have HHI : Hid (hiM M t = hi) := hhi
          rw [hhi] at HAB
          clear fr t0 t2 t3 t4 ft1 d0 d1 d5 d6 c0 hhi
          go_wp2_with fail
          refine wp_region_pl (fun Y => Y.cell? ⟨g, i * 7 + 2, none⟩ = some (.int .i64 x.lv) ∧ RM Y D1 X vl (.slice (some ⟨gw, 0, none⟩) LW cw) M (thrW W t)) ((0, 0) :: (1, 0) :: (2, 0) :: (3, 0) :: (4, 0) :: (5, 0) :: (6, 0) :: (7, 0) :: (8, 0) :: []) (by kernel_rfl) (by kernel_rfl) ?_
          iterate 2 (apply wpP_go; (focus rfl); (focus rfl); (focus exact SH.out); (focus (rintro Q ⟨s0, s1⟩; go_simp; exact rfl)); intro K hK; go_simp; refine hK _ ?_; clear hK K)
          apply wpP_call
          focus rfl
          focus rfl
          focus exact SH.out
          focus (rintro Q ⟨s0, s1⟩; go_simp; exact ⟨rfl, rfl⟩)
          focus (rintro Q ⟨s0, s1⟩; have := rhighest_any s1 (by have := HN.out.1; omega) t; rw [HHI.out] at this; exact this)
          intro K hK
          go_simp
          refine hK _ ?_
          clear hK K
          iterate 6 (apply wpP_go; (focus rfl); (focus rfl); (focus exact SH.out); (focus (rintro Q ⟨s0, s1⟩; go_simp; exact rfl)); intro K hK; go_simp; refine hK _ ?_; clear hK K)
          refine wpP_done ?_
          have HD1 : Hid (∀ k, D1 k → D k ∨ (w.heap.size ≤ k ∧ k < w1.drew.heap.size)) := HD1.out
          have HCT : Hid (∀ w2, Ch D1 w1.drew w2 → Ch D w w2) := fun w2 c => HCT.out _ (((Ch.refl D1 w1).drew).trans c)
          have HM1 := Lib.hid SH.out.2
          have HC1 := HCD
          clear SH HCD d2 d3 d4 t1
          generalize w1.drew = w1 at *
          by_cases hlv : x.lv < hi
          · have hlv2 : hi > x.lv := hlv
            have hA : above s t x.lv = true := by rw [← HAB.out]; exact decide_eq_true hlv
            rw [if_pos hA] at HWT
            clear hA
            go_wp2_with fail
            go_ret2
            rw [HWT.out]
            exact ⟨rfl, D1, RK.mk' HM1.out (by have := HN.out.1; omega) (by rw [HLW.out]; have := HNW.out.2; omega) HO.out HRT.out, HC1.out, HD1.out⟩
          · have hlv2 : ¬ hi > x.lv := hlv
            have hA : ¬ above s t x.lv = true := by rw [← HAB.out]; simpa using hlv
            rw [if_neg hA] at HWT
            clear hA HAB
            obtain ⟨g', cp', e, _, _, hgl1, _, d0, d1, d2, d3, d4, d5, d6, fr⟩ := HM1.out.gl HX.out
            rw [HEV.out] at e
            obtain ⟨e1, _, e3⟩ := sl_inj e
            subst e1 e3
            have c0 := HM1.out.c0
            rw [HEV.out, HL.out] at c0
            clear e
            obtain ⟨gx, cx, ew, _, _, _, _, t0, t1, t2, t3, t4, frw⟩ := HM1.out.gt HY.out.1
            obtain ⟨e1, _, e3⟩ := sl_inj ew
            subst e1 e3
            have ft1 := frw (iw * 5 + 1)
            have f3 := fr (i * 7 + 3)
            have f4 := fr (i * 7 + 4)
            have f5 := fr (i * 7 + 5)
            clear ew frw
            rw [if_pos (show x.ct = 0 from hctz)] at HWT
            rw [HODV.out] at d3
            have m1 := HM1.out.sOd HEV.out HX.out true
            have k1 : Ch D1 w1 (w1.setCell ⟨g, i * 7 + 3, none⟩ (.bool true)) := HM1.out.chL HEV.out _
            have x1 := at_set (y := { x with od := true }) HX.out
            have e1 : vl = .slice (some ⟨g, 0, none⟩) (M.set i { x with od := true }).length cap := by rw [List.length_set]; exact HEV.out
            have m2 := m1.sOw e1 x1 t
            have k2 : Ch D1 (w1.setCell ⟨g, i * 7 + 3, none⟩ (.bool true)) ((w1.setCell ⟨g, i * 7 + 3, none⟩ (.bool true)).setCell ⟨g, i * 7 + 4, none⟩ (.int .i64 t)) := m1.chL e1 _
            have x2 := at_set (y := { x with od := true, ow := t }) x1
            rw [List.set_set] at m2 x2
            have e2 : vl = .slice (some ⟨g, 0, none⟩) (M.set i { x with od := true, ow := t }).length cap := by rw [List.length_set]; exact HEV.out
            have m3 := m2.sCt e2 x2 1
            have k3 : Ch D1 ((w1.setCell ⟨g, i * 7 + 3, none⟩ (.bool true)).setCell ⟨g, i * 7 + 4, none⟩ (.int .i64 t)) (((w1.setCell ⟨g, i * 7 + 3, none⟩ (.bool true)).setCell ⟨g, i * 7 + 4, none⟩ (.int .i64 t)).setCell ⟨g, i * 7 + 5, none⟩ (.int .i64 1)) := m2.chL e2 _
            have x3 := at_set (y := { x with od := true, ow := t, ct := 1 }) x2
            rw [List.set_set] at m3 x3
            have e3 : vl = .slice (some ⟨g, 0, none⟩) (M.set i { x with od := true, ow := t, ct := 1 }).length cap := by rw [List.length_set]; exact HEV.out
            have HM2 := Lib.hid m3
            have HC2 := Lib.hid ((k1.trans k2).trans k3)
            clear fr t0 t2 t3 t4 ft1 m1 k1 x1 e1 m2 k2 x2 e2 m3 k3 x3 e3
            go_upto_region 18 with fail
            clear t1
            have hs2 : w1.heap.size = (((w1.setCell ⟨g, i * 7 + 3, none⟩ (.bool true)).setCell ⟨g, i * 7 + 4, none⟩ (.int .i64 t)).setCell ⟨g, i * 7 + 5, none⟩ (.int .i64 1)).heap.size := by simp
            rw [hs2] at HD1
            clear hs2
            generalize (((w1.setCell ⟨g, i * 7 + 3, none⟩ (.bool true)).setCell ⟨g, i * 7 + 4, none⟩ (.int .i64 t)).setCell ⟨g, i * 7 + 5, none⟩ (.int .i64 1)) = w2 at *
            obtain ⟨gx, cx, ew, _, _, _, _, t0, t1, t2, t3, t4, frw⟩ := HM2.out.gt HY.out.1
            obtain ⟨e1, _, e3⟩ := sl_inj ew
            subst e1 e3
            have ft1 := frw (iw * 5 + 1)
            have HM3 := Lib.hid (HM2.out.tSt HEW.out HY.out.1 1)
            have HC3 := Lib.hid (HC2.out.trans (HM2.out.chT rfl (i := iw * 5 + 1) (.int .i64 1)))
            have hs2 : w2.heap.size = (w2.setCell ⟨gw, iw * 5 + 1, none⟩ (.int .i64 1)).heap.size := by simp
            rw [hs2] at HD1
            clear ew frw t0 t2 t3 t4 c0 d0 d1 d2 d3 d4 d5 d6 f3 f4 f5 hs2
            go_upto_region 19 with fail
            generalize w2.setCell ⟨gw, iw * 5 + 1, none⟩ (.int .i64 1) = w3 at *
            obtain ⟨gx, cx, ew, _, _, _, _, _, t1, _, _, _, _⟩ := HM3.out.gt (at_set HY.out.1)
            obtain ⟨e1, _, e3⟩ := sl_inj ew
            subst e1 e3
            clear ew ft1
            go_wp2_with fail
            go_ret2
            rw [HWT.out]
            have hro : RO (M.set i { x with od := true, ow := t, ct := 1 }) (ownS s t id) := HO.out.set HX.out rfl (by show true = (x.mx && _); rw [HMX.out]; rfl) (by
              rw [HID.out]
              show (fun j => if j = id then (s.o id).map _ else s.o j) = fun j => if j = id then some _ else s.o j
              rw [HS.out]; rfl)
            have hrh : RH ((thrW W t).set iw { y with st := 1 }) (ownS s t id) := by
              refine HRT.out.set HY.out.1 rfl ?_ ?_ (fun h => by cases h)
              · intro j hj
                show stT (LK.upT _ _ _) _ = _
                rw [stT_upT, if_neg (by rw [← HY.out.2]; exact hj)]; rfl
              · show (stT (LK.upT _ _ _) _).st = _
                rw [stT_upT, if_pos HY.out.2]
            exact ⟨rfl, D1, RK.mk' HM3.out (by rw [List.length_set]; have := HN.out.1; omega) (by rw [List.length_set, HLW.out]; have := HNW.out.2; omega) hro hrh, HCT.out _ HC3.out, HD1.out⟩
        · have hct0 : 0 < x.ct := of_decide_eq_true hdec.symm
          clear hdec
          by_cases how : x.ow = t
          · have howb : (x.ow == t) = true := by simpa using how
            rw [if_pos ⟨hct0, how⟩] at HWT
            have HOW := Lib.hid how
            clear how
            by_cases hb : 255 ≤ x.ct
            · have hb2 : x.ct ≥ 255 := hb
              rw [if_pos hb] at HWT
              clear fr t0 t2 t3 t4 ft1
              go_wp2_with fail
              go_ret2
              rw [HWT.out]
              exact ⟨rfl, D1, RK.mk' HM1.out (by have := HN.out.1; omega) (by rw [HLW.out]; have := HNW.out.2; omega) HO.out HRT.out, HC1.out, HD1.out⟩
            · have hb2 : ¬ x.ct ≥ 255 := hb
              rw [if_neg hb] at HWT
              have hcw : IntKind.i64.wrap (x.ct + 1) = x.ct + 1 := IntWalk.i64_in _ ⟨by omega, by omega⟩
              have f3 := fr (i * 7 + 3)
              have f4 := fr (i * 7 + 4)
              have f5 := fr (i * 7 + 5)
              have m1 := HM1.out.sCt HEV.out HX.out (x.ct + 1)
              have k1 : Ch D1 w1 (w1.setCell ⟨g, i * 7 + 5, none⟩ (.int .i64 (x.ct + 1))) := HM1.out.chL HEV.out _
              have x1 := at_set (y := { x with ct := x.ct + 1 }) HX.out
              have e1 : vl = .slice (some ⟨g, 0, none⟩) (M.set i { x with ct := x.ct + 1 }).length cap := by rw [List.length_set]; exact HEV.out
              have HM2 := Lib.hid m1
              have HC2 := Lib.hid k1
              clear fr t0 t2 t3 t4 ft1 m1 k1 x1 e1
              go_upto_region 12 with fail
              clear t1
              have hs2 : w1.heap.size = (w1.setCell ⟨g, i * 7 + 5, none⟩ (.int .i64 (x.ct + 1))).heap.size := by simp
              rw [hs2] at HD1
              clear hs2
              generalize (w1.setCell ⟨g, i * 7 + 5, none⟩ (.int .i64 (x.ct + 1))) = w2 at *
              obtain ⟨gx, cx, ew, _, _, _, _, t0, t1, t2, t3, t4, frw⟩ := HM2.out.gt HY.out.1
              obtain ⟨e1, _, e3⟩ := sl_inj ew
              subst e1 e3
              have ft1 := frw (iw * 5 + 1)
              have HM3 := Lib.hid (HM2.out.tSt HEW.out HY.out.1 1)
              have HC3 := Lib.hid (HC2.out.trans (HM2.out.chT rfl (i := iw * 5 + 1) (.int .i64 1)))
              have hs2 : w2.heap.size = (w2.setCell ⟨gw, iw * 5 + 1, none⟩ (.int .i64 1)).heap.size := by simp
              rw [hs2] at HD1
              clear ew frw t0 t2 t3 t4 c0 d0 d1 d2 d3 d4 d5 d6 f3 f4 f5 hs2
              go_upto_region 13 with fail
              generalize w2.setCell ⟨gw, iw * 5 + 1, none⟩ (.int .i64 1) = w3 at *
              obtain ⟨gx, cx, ew, _, _, _, _, _, t1, _, _, _, _⟩ := HM3.out.gt (at_set HY.out.1)
              obtain ⟨e1, _, e3⟩ := sl_inj ew
              subst e1 e3
              clear ew ft1
              go_wp2_with fail
              go_ret2
              rw [HWT.out]
              have hro : RO (M.set i { x with ct := x.ct + 1 }) ((s.setO id (some { x.ob with ct := x.ct + 1 })).upT t fun t => { t with st := 1 }) := HO.out.set HX.out rfl (by show x.od = (x.mx && decide (0 < x.ct + 1)); rw [HOD.out, HMX.out, decide_eq_true hct0, decide_eq_true (by omega)]) (by rw [HID.out]; rfl)
              have hrh : RH ((thrW W t).set iw { y with st := 1 }) ((s.setO id (some { x.ob with ct := x.ct + 1 })).upT t fun t => { t with st := 1 }) := by
                refine (HRT.out.setO id (some { x.ob with ct := x.ct + 1 })).set HY.out.1 rfl ?_ ?_ (fun h => by cases h)
                · intro j hj
                  rw [stT_upT, if_neg (by rw [← HY.out.2]; exact hj)]
                · rw [stT_upT, if_pos HY.out.2]
              exact ⟨rfl, D1, RK.mk' HM3.out (by rw [List.length_set]; have := HN.out.1; omega) (by rw [List.length_set, HLW.out]; have := HNW.out.2; omega) hro hrh, HCT.out _ HC3.out, HD1.out⟩
          · have howb : (x.ow == t) = false := by simpa using how
            rw [if_neg (fun h => how h.2)] at HWT
            clear how
            have HAB := Lib.hid (hiM_above HO.out HI.out t x.lv (by have := (HI.out.lv id x.ob HS.out).1; have h9 : 0 ≤ x.lv := this; omega))
            have SH : Hid (w1.drew.cell? ⟨g, i * 7 + 2, none⟩ = some (.int .i64 x.lv) ∧ RM w1.drew D1 X vl (.slice (some ⟨gw, 0, none⟩) LW cw) M (thrW W t)) := ⟨d2, HM1.out.drew⟩
            have HCD : Hid (Ch D w w1.drew) := HCT.out _ (Ch.refl _ _).drew
            obtain ⟨hi, hhi⟩ : ∃ z, hiM M t = z := ⟨_, rfl⟩
            have HHI : Hid (hiM M t = hi) := hhi
            rw [hhi] at HAB
            clear fr t0 t2 t3 t4 ft1 d0 d1 d5 d6 c0 hhi
            go_wp2_with fail
            refine wp_region_pl (fun Y => Y.cell? ⟨g, i * 7 + 2, none⟩ = some (.int .i64 x.lv) ∧ RM Y D1 X vl (.slice (some ⟨gw, 0, none⟩) LW cw) M (thrW W t)) ((0, 0) :: (1, 0) :: (2, 0) :: (3, 0) :: (4, 0) :: (5, 0) :: (6, 0) :: (7, 0) :: (8, 0) :: []) (by kernel_rfl) (by kernel_rfl) ?_
            iterate 2 (apply wpP_go; (focus rfl); (focus rfl); (focus exact SH.out); (focus (rintro Q ⟨s0, s1⟩; go_simp; exact rfl)); intro K hK; go_simp; refine hK _ ?_; clear hK K)
            apply wpP_call
            focus rfl
            focus rfl
            focus exact SH.out
            focus (rintro Q ⟨s0, s1⟩; go_simp; exact ⟨rfl, rfl⟩)
            focus (rintro Q ⟨s0, s1⟩; have := rhighest_any s1 (by have := HN.out.1; omega) t; rw [HHI.out] at this; exact this)
            intro K hK
            go_simp
            refine hK _ ?_
            clear hK K
            iterate 6 (apply wpP_go; (focus rfl); (focus rfl); (focus exact SH.out); (focus (rintro Q ⟨s0, s1⟩; go_simp; exact rfl)); intro K hK; go_simp; refine hK _ ?_; clear hK K)
            refine wpP_done ?_
            have HD1 : Hid (∀ k, D1 k → D k ∨ (w.heap.size ≤ k ∧ k < w1.drew.heap.size)) := HD1.out
            have HCT : Hid (∀ w2, Ch D1 w1.drew w2 → Ch D w w2) := fun w2 c => HCT.out _ (((Ch.refl D1 w1).drew).trans c)
            have HM1 := Lib.hid SH.out.2
            have HC1 := HCD
            clear SH HCD d2 d3 d4 t1
            generalize w1.drew = w1 at *
            by_cases hlv : x.lv < hi
            · have hlv2 : hi > x.lv := hlv
              have hA : above s t x.lv = true := by rw [← HAB.out]; exact decide_eq_true hlv
              rw [if_pos hA] at HWT
              clear hA
              go_wp2_with fail
              go_ret2
              rw [HWT.out]
              exact ⟨rfl, D1, RK.mk' HM1.out (by have := HN.out.1; omega) (by rw [HLW.out]; have := HNW.out.2; omega) HO.out HRT.out, HC1.out, HD1.out⟩
            · have hlv2 : ¬ hi > x.lv := hlv
              have hA : ¬ above s t x.lv = true := by rw [← HAB.out]; simpa using hlv
              rw [if_neg hA] at HWT
              clear hA HAB
              obtain ⟨g', cp', e, _, _, hgl1, _, d0, d1, d2, d3, d4, d5, d6, fr⟩ := HM1.out.gl HX.out
              rw [HEV.out] at e
              obtain ⟨e1, _, e3⟩ := sl_inj e
              subst e1 e3
              have c0 := HM1.out.c0
              rw [HEV.out, HL.out] at c0
              clear e
              obtain ⟨gx, cx, ew, _, _, _, _, t0, t1, t2, t3, t4, frw⟩ := HM1.out.gt HY.out.1
              obtain ⟨e1, _, e3⟩ := sl_inj ew
              subst e1 e3
              have ft1 := frw (iw * 5 + 1)
              have f3 := fr (i * 7 + 3)
              have f4 := fr (i * 7 + 4)
              have f5 := fr (i * 7 + 5)
              clear ew frw
              rw [if_neg (by have h9 : 0 < x.ct := hct0; show ¬ x.ct = 0; omega)] at HWT
              rw [HODV.out] at d3
              have HEQ := Lib.hid (renqueue_any HM1.out HNW.out.1 (by rw [HLW.out]; exact HNW.out.2) (by omega) HX.out HO.out HRT.out HQX.out t now tm hnow htm)
              rw [HID.out] at HEQ
              clear fr t0 t2 t3 t4 t1 ft1 f3 f4 f5 d0 d1 d2 d4 d5 d6
              go_wp2_with fail
              refine HEQ.out.mono ?_
              rintro e w5 ⟨rfl, h5⟩
              have HP5 := Lib.hid (RP.after HC1.out HD1.out h5)
              clear h5 HEQ
              go_wp2_with fail
              go_ret2
              rw [HWT.out]
              exact ⟨rfl, HP5.out⟩
  · have HS : Hid (s.o id = none) := HO.out.no hno
    clear hno HF
    go_wp2_with fail
    go_ret2
    have hE : acqS s t id now tm = (0, 6, s) := by unfold acqS; rw [HS.out]
    rw [hE]
    exact ⟨rfl, P0.out⟩
end
end Go.Proofs.Ytefgfmnnaglfmaa
namespace Go.Proofs.Ytefgfmnnaglfmaa
open Go.RowKit
theorem pass_free {s s' : LK} {x : RL} {y : Ob} {id : Int} (hid : x.id = id) (hs : s'.o id = some y) (h1 : y.mx = x.mx) (h2 : y.lv = x.lv) (h3 : y.q = x.q) (ho : ∀ j, j ≠ id → s'.o j = s.o j) (ht : ∀ t, stT s' t = stT s t) :
    (freeS s' id).o = (passS s x).o ∧ ∀ t, (stT (freeS s' id) t).st = (stT (passS s x) t).st ∧ (stT (freeS s' id) t).en = (stT (passS s x) t).en ∧ (stT (freeS s' id) t).dl = (stT (passS s x) t).dl := by
  subst hid
  have hT : ∀ t, (stT (takeS s' x.id y) t).st = (stT s t).st ∧ (stT (takeS s' x.id y) t).en = (stT s t).en ∧ (stT (takeS s' x.id y) t).dl = (stT s t).dl := fun t => by
    unfold takeS
    rw [setO_o, stT_upT]
    by_cases e : t = y.ow
    · rw [if_pos e, ← e, ht]; exact ⟨rfl, rfl, rfl⟩
    · rw [if_neg e, ht]; exact ⟨rfl, rfl, rfl⟩
  unfold freeS
  rw [hs]
  show (giveS (takeS s' x.id y) x.id { y with ow := 0, ct := 0 }).o = _ ∧ ∀ t, (stT (giveS (takeS s' x.id y) x.id { y with ow := 0, ct := 0 }) t).st = _ ∧ (stT (giveS (takeS s' x.id y) x.id { y with ow := 0, ct := 0 }) t).en = _ ∧ (stT (giveS (takeS s' x.id y) x.id { y with ow := 0, ct := 0 }) t).dl = _
  have hoT : ∀ j, (takeS s' x.id y).o j = if j = x.id then some { y with ow := 0, ct := 0 } else s.o j := fun j => by
    show (if j = x.id then _ else s'.o j) = _
    by_cases e : j = x.id
    · rw [if_pos e, if_pos e]
    · rw [if_neg e, if_neg e, ho j e]
  rcases hq : x.q with _ | ⟨a, r⟩
  · unfold giveS passS
    simp only [h3, hq]
    refine ⟨funext fun j => ?_, fun t => hT t⟩
    rw [hoT]
    show _ = if j = x.id then _ else s.o j
    by_cases e : j = x.id
    · rw [if_pos e, if_pos e]; show some _ = some _; rw [h1, h2, h3]; rfl
    · rw [if_neg e, if_neg e]
  · unfold giveS passS
    simp only [h3, hq]
    refine ⟨funext fun j => ?_, fun t => ?_⟩
    · show (if j = x.id then ((if x.id = x.id then _ else _ : Option Ob)).map _ else if j = x.id then _ else (takeS s' x.id y).o j) = if j = x.id then _ else s.o j
      by_cases e : j = x.id
      · rw [if_pos e, if_pos e, if_pos rfl]; show some _ = some _; rw [h1, h2]
      · rw [if_neg e, if_neg e, if_neg e, hoT, if_neg e]
    · show (stT (LK.upT _ _ _) t).st = (stT (LK.upT _ _ _) t).st ∧ (stT (LK.upT _ _ _) t).en = (stT (LK.upT _ _ _) t).en ∧ (stT (LK.upT _ _ _) t).dl = (stT (LK.upT _ _ _) t).dl
      rw [stT_upT, stT_upT]
      by_cases e : t = a
      · rw [if_pos e, if_pos e]; exact ⟨rfl, (hT a).2.1, (hT a).2.2⟩
      · rw [if_neg e, if_neg e]; exact hT t
section
variable {w w1 w' : World} {D D1 : Nat → Prop} {X n : Nat} {s : LK}
set_option maxRecDepth 100000 in
set_option maxHeartbeats 8000000 in
theorem rrelease_any (h : RK w D X n s) (hI : SI s) (hn : n ≤ 80000) (t id : Int) :
    Calls Try.prog 43 #[ptr X, .int .i64 t, .int .i64 id] w fun e w' => e = .returned (.int .i64 (relS s t id).1) ∧ RP w D X (n + 1) (relS s t id).2 w' := by
  have HI := Lib.hid hI
  clear hI
  have P0 := Lib.hid (RP.same h (show n ≤ n + 1 by omega))
  obtain ⟨vl, vw, M, W, h1, h2, h3, h4, h5⟩ := h
  have HF := Lib.hid (rfind_any h1 (by omega) id)
  have H := Lib.hid h1
  have HO := Lib.hid h4
  have HH := Lib.hid h5
  have HN : Hid (M.length ≤ n ∧ W.length ≤ n) := ⟨h2, h3⟩
  have c0 := h1.c0
  obtain ⟨al, cap, e, hc1, hc2⟩ := h1.fl
  obtain ⟨L, hL⟩ : ∃ L, M.length = L := ⟨_, rfl⟩
  rw [hL] at h2 hc1 e
  rw [e] at c0
  have HE := Lib.hid e
  have HL := Lib.hid hL
  unfold maxLen at hc2
  clear h1 h4 h5 h3 e hL
  go_enter Try.func43, Try.ntmps43
  go_wp2_with fail
  refine HF.out.mono ?_
  rintro e w' ⟨rfl, ⟨i, x, hx, he, rfl⟩ | ⟨rfl, hno⟩⟩
  · obtain ⟨g, cp, e, _, _, hgl, hgD, d0, d1, d2, d3, d4, d5, d6, fr⟩ := H.out.gl hx
    rw [HE.out, HL.out] at e
    injection e with e1 e2 e3
    subst e1 e3
    have hil : i < L := by rw [← HL.out]; exact (List.getElem?_eq_some_iff.1 hx).1
    have hod := HO.out.od hx
    have HS : Hid (s.o id = some x.ob) := by show _ = _; rw [← he]; exact HO.out.at hx
    have hi0 : ¬ (i : Int) < 0 := by omega
    have HX := Lib.hid hx
    have HID := Lib.hid he
    have HEV : Hid (vl = .slice (some ⟨g, 0, none⟩) M.length cap) := by show _ = _; rw [HE.out, HL.out]
    obtain ⟨mx, hmx⟩ : ∃ b, x.mx = b := ⟨_, rfl⟩
    rw [hmx] at d1
    have HMX : Hid (x.mx = mx) := hmx
    have HOD : Hid (x.od = (mx && decide (0 < x.ct))) := by show _ = _; rw [hod, hmx]
    clear hx he HF hod hmx fr
    cases mx
    · go_wp2_with fail
      go_ret
      have hE : relS s t id = (6, s) := by
        unfold relS
        rw [HS.out]
        exact if_pos (show x.mx = false from HMX.out)
      rw [hE]
      exact ⟨rfl, P0.out⟩
    · have HREL : Hid (relS s t id = if x.ct = 0 ∨ x.ow ≠ t ∨ above s t x.lv = true then (13, s) else if x.ct = 1 then (0, freeS (s.setO id (some { x.ob with ct := x.ct - 1 })) id) else (0, s.setO id (some { x.ob with ct := x.ct - 1 }))) := by
        show _ = _
        unfold relS
        rw [HS.out]
        exact if_neg (by rw [show x.ob.mx = true from HMX.out]; simp)
      have hct : 0 ≤ x.ct ∧ x.ct ≤ 255 := HI.out.ct id x.ob HS.out
      obtain ⟨od, hodv⟩ : ∃ b, x.od = b := ⟨_, rfl⟩
      rw [hodv] at d3
      have HODV : Hid (x.od = od) := hodv
      have hdec : od = decide (0 < x.ct) := by rw [← hodv, HOD.out]; rfl
      clear hodv
      cases od
      · have hctz : x.ct = 0 := by have := of_decide_eq_false hdec.symm; omega
        rw [if_pos (.inl hctz)] at HREL
        clear hdec
        have SR : Hid (w.drew.cell? ⟨X, 0, none⟩ = some (.slice (some ⟨g, 0, none⟩) L cap) ∧ w.drew.cell? ⟨g, i * 7 + 2, none⟩ = some (.int .i64 x.lv) ∧ w.drew.cell? ⟨g, i * 7 + 3, none⟩ = some (.bool false) ∧ w.drew.cell? ⟨g, i * 7 + 4, none⟩ = some (.int .i64 x.ow) ∧ RM w.drew D X vl vw M W) := ⟨c0, d2, d3, d4, H.out.drew⟩
        have HCD : Hid (Ch D w w.drew) := (Ch.refl _ _).drew
        go_wp2_with fail
        refine wp_region_pl (fun Y => Y.cell? ⟨X, 0, none⟩ = some (.slice (some ⟨g, 0, none⟩) L cap) ∧ Y.cell? ⟨g, i * 7 + 2, none⟩ = some (.int .i64 x.lv) ∧ Y.cell? ⟨g, i * 7 + 3, none⟩ = some (.bool false) ∧ Y.cell? ⟨g, i * 7 + 4, none⟩ = some (.int .i64 x.ow) ∧ RM Y D X vl vw M W) ((0, 0) :: (1, 0) :: (2, 0) :: (3, 0) :: (4, 0) :: (5, 0) :: (6, 0) :: (7, 0) :: (8, 0) :: (9, 0) :: (10, 0) :: (11, 0) :: (12, 0) :: (13, 0) :: (14, 0) :: (15, 0) :: (16, 0) :: (17, 0) :: (18, 0) :: (19, 0) :: (20, 0) :: (21, 0) :: (22, 0) :: (23, 0) :: (24, 0) :: (25, 0) :: (26, 0) :: (27, 0) :: (28, 0) :: (29, 0) :: (30, 0) :: (31, 0) :: (32, 0) :: (33, 0) :: (34, 0) :: (35, 0) :: []) (by kernel_rfl) (by kernel_rfl) ?_
        iterate 10 (apply wpP_go; (focus rfl); (focus rfl); (focus exact SR.out); (focus (rintro Q ⟨s0, s1, s2, s3, s4⟩; go_simp; exact rfl)); intro K hK; go_simp; refine hK _ ?_; clear hK K)
        iterate 10 (apply wpP_not; (focus rfl); (focus rfl); (focus exact SR.out); intro K hK; go_simp; refine hK _ ?_; clear hK K)
        iterate 2 (apply wpP_go; (focus rfl); (focus rfl); (focus exact SR.out); (focus (rintro Q ⟨s0, s1, s2, s3, s4⟩; go_simp; exact rfl)); intro K hK; go_simp; refine hK _ ?_; clear hK K)
        iterate 12 (apply wpP_not; (focus rfl); (focus rfl); (focus exact SR.out); intro K hK; go_simp; refine hK _ ?_; clear hK K)
        iterate 2 (apply wpP_go; (focus rfl); (focus rfl); (focus exact SR.out); (focus (rintro Q ⟨s0, s1, s2, s3, s4⟩; go_simp; exact rfl)); intro K hK; go_simp; refine hK _ ?_; clear hK K)
        refine wpP_done ?_
        clear c0 d0 d1 d2 d3 d4 d5 d6
        go_wp2_with fail
        go_ret
        rw [HREL.out]
        exact ⟨rfl, RP.of (RK.mk' SR.out.2.2.2.2 (by have := HN.out.1; omega) (by have := HN.out.2; omega) HO.out HH.out) HCD.out⟩
      · have hct0 : 0 < x.ct := of_decide_eq_true hdec.symm
        clear hdec
        by_cases how : x.ow = t
        · have howb : (x.ow != t) = false := by simpa using how
          have HAB := Lib.hid (hiM_above HO.out HI.out t x.lv (by have := (HI.out.lv id x.ob HS.out).1; have h9 : 0 ≤ x.lv := this; omega))
          obtain ⟨hi, hhi⟩ : ∃ z, hiM M t = z := ⟨_, rfl⟩
          have HHI : Hid (hiM M t = hi) := hhi
          rw [hhi] at HAB
          have HOW := Lib.hid how
          clear hhi how
          have SR : Hid (w.drew.cell? ⟨X, 0, none⟩ = some (.slice (some ⟨g, 0, none⟩) L cap) ∧ w.drew.cell? ⟨g, i * 7 + 2, none⟩ = some (.int .i64 x.lv) ∧ w.drew.cell? ⟨g, i * 7 + 3, none⟩ = some (.bool true) ∧ w.drew.cell? ⟨g, i * 7 + 4, none⟩ = some (.int .i64 x.ow) ∧ RM w.drew D X vl vw M W) := ⟨c0, d2, d3, d4, H.out.drew⟩
          have HCD : Hid (Ch D w w.drew) := (Ch.refl _ _).drew
          go_wp2_with fail
          refine wp_region_pl (fun Y => Y.cell? ⟨X, 0, none⟩ = some (.slice (some ⟨g, 0, none⟩) L cap) ∧ Y.cell? ⟨g, i * 7 + 2, none⟩ = some (.int .i64 x.lv) ∧ Y.cell? ⟨g, i * 7 + 3, none⟩ = some (.bool true) ∧ Y.cell? ⟨g, i * 7 + 4, none⟩ = some (.int .i64 x.ow) ∧ RM Y D X vl vw M W) ((0, 0) :: (1, 0) :: (2, 0) :: (3, 0) :: (4, 0) :: (5, 0) :: (6, 0) :: (7, 0) :: (8, 0) :: (9, 0) :: (10, 0) :: (11, 0) :: (12, 0) :: (13, 0) :: (14, 0) :: (15, 0) :: (16, 0) :: (17, 0) :: (18, 0) :: (19, 0) :: (20, 0) :: (21, 0) :: (22, 0) :: (23, 0) :: (24, 0) :: (25, 0) :: (26, 0) :: (27, 0) :: (28, 0) :: (29, 0) :: (30, 0) :: (31, 0) :: (32, 0) :: (33, 0) :: (34, 0) :: (35, 0) :: []) (by kernel_rfl) (by kernel_rfl) ?_
          iterate 24 (apply wpP_go; (focus rfl); (focus rfl); (focus exact SR.out); (focus (rintro Q ⟨s0, s1, s2, s3, s4⟩; go_simp; exact rfl)); intro K hK; go_simp; refine hK _ ?_; clear hK K)
          apply wpP_call
          focus rfl
          focus rfl
          focus exact SR.out
          focus (rintro Q ⟨s0, s1, s2, s3, s4⟩; go_simp; exact ⟨rfl, rfl⟩)
          focus (rintro Q ⟨s0, s1, s2, s3, s4⟩; have := rhighest_any s4 (by have := HN.out.1; omega) t; rw [HHI.out] at this; exact this)
          intro K hK
          go_simp
          refine hK _ ?_
          clear hK K
          iterate 11 (apply wpP_go; (focus rfl); (focus rfl); (focus exact SR.out); (focus (rintro Q ⟨s0, s1, s2, s3, s4⟩; go_simp; exact rfl)); intro K hK; go_simp; refine hK _ ?_; clear hK K)
          by_cases hlv : x.lv < hi
          · have hlv2 : hi > x.lv := hlv
            have hA : above s t x.lv = true := by rw [← HAB.out]; exact decide_eq_true hlv
            rw [if_pos (.inr (.inr hA))] at HREL
            clear hA
            refine wpP_done ?_
            clear c0 d0 d1 d2 d3 d4 d5 d6
            go_wp2_with fail
            go_ret
            rw [HREL.out]
            exact ⟨rfl, RP.of (RK.mk' SR.out.2.2.2.2 (by have := HN.out.1; omega) (by have := HN.out.2; omega) HO.out HH.out) HCD.out⟩
          · have hlv2 : ¬ hi > x.lv := hlv
            have hA : ¬ above s t x.lv = true := by rw [← HAB.out]; simpa using hlv
            rw [if_neg (by rintro (h | h | h); omega; exact h HOW.out; exact hA h)] at HREL
            clear hA HAB
            refine wpP_done ?_
            clear c0 d0 d1 d2 d3 d4 d5 d6
            have HM1 := Lib.hid SR.out.2.2.2.2
            clear SR
            generalize w.drew = w1 at *
            obtain ⟨g', cp', e, _, _, hgl1, _, d0, d1, d2, d3, d4, d5, d6, fr⟩ := HM1.out.gl HX.out
            rw [HEV.out] at e
            obtain ⟨e1, _, e3⟩ := sl_inj e
            subst e1 e3
            have c0 := HM1.out.c0
            rw [HEV.out, HL.out] at c0
            clear e
            have f5 := fr (i * 7 + 5)
            have hcw : IntKind.i64.wrap (x.ct - 1) = x.ct - 1 := IntWalk.i64_in _ ⟨by omega, by omega⟩
            have HM2 := Lib.hid (HM1.out.sCt HEV.out HX.out (x.ct - 1))
            have HX2 := Lib.hid (at_set (y := { x with ct := x.ct - 1 }) HX.out)
            have HC2 : Hid (Ch D w _) := HCD.out.trans (HM1.out.chL HEV.out (i := i * 7 + 5) (.int .i64 (x.ct - 1)))
            clear fr
            go_upto_region 7 with fail
            generalize w1.setCell ⟨g, i * 7 + 5, none⟩ (.int .i64 (x.ct - 1)) = w2 at *
            have c02 := HM2.out.c0
            obtain ⟨g', cp', e, _, _, _, _, _, _, _, _, _, k5, _, _⟩ := HM2.out.gl HX2.out
            rw [HEV.out] at e c02
            have e1 : g = g' := by injection e with h1; injection h1 with h1; injection h1
            subst e1
            rw [HL.out] at c02
            clear e c0 d0 d1 d2 d3 d4 d5 d6 f5
            by_cases hc1 : x.ct = 1
            · rw [if_pos hc1] at HREL
              have hz : (x.ct - 1 == 0) = true := by simp; omega
              have HPA := Lib.hid (rpass_any HM2.out (by rw [List.length_set]; exact HN.out.1) HN.out.2 (by omega) HX2.out HMX.out (s := s) (fun x' h1 h2 => by rw [List.set_set]; exact HO.out.set HX.out h1 h2 rfl) HH.out)
              go_wp2_with fail
              refine HPA.out.mono ?_
              rintro e w5 ⟨rfl, h5⟩
              have HP5 := Lib.hid (RP.after HC2.out (fun k hk => .inl hk) h5)
              clear h5 HPA
              go_wp2_with fail
              go_ret
              rw [HREL.out]
              refine ⟨rfl, ?_⟩
              obtain ⟨hf1, hf2⟩ := pass_free (s := s) (s' := s.setO id (some { x.ob with ct := x.ct - 1 })) (x := { x with ct := x.ct - 1 }) (y := { x.ob with ct := x.ct - 1 }) (id := id) HID.out (by simp [LK.setO]) rfl rfl rfl (fun j hj => by simp [LK.setO, hj]) (fun _ => rfl)
              exact HP5.out.congr hf1 (fun t => ⟨(hf2 t).1, fun _ => (hf2 t).2⟩)
            · rw [if_neg hc1] at HREL
              have hz : (x.ct - 1 == 0) = false := by rw [beq_eq_false_iff_ne]; omega
              go_wp2_with fail
              go_ret
              rw [HREL.out]
              have hro : RO (M.set i { x with ct := x.ct - 1 }) (s.setO id (some { x.ob with ct := x.ct - 1 })) := HO.out.set HX.out rfl (by show x.od = (x.mx && decide (0 < x.ct - 1)); rw [HOD.out, HMX.out, decide_eq_true hct0, decide_eq_true (by omega)]) (by rw [HID.out]; rfl)
              exact ⟨rfl, RP.of (RK.mk' HM2.out (by rw [List.length_set]; have := HN.out.1; omega) (by have := HN.out.2; omega) hro (HH.out.setO _ _)) HC2.out⟩
        · have howb : (x.ow != t) = true := by simpa using how
          rw [if_pos (.inr (.inl how))] at HREL
          clear how
          have SR : Hid (w.drew.cell? ⟨X, 0, none⟩ = some (.slice (some ⟨g, 0, none⟩) L cap) ∧ w.drew.cell? ⟨g, i * 7 + 2, none⟩ = some (.int .i64 x.lv) ∧ w.drew.cell? ⟨g, i * 7 + 3, none⟩ = some (.bool true) ∧ w.drew.cell? ⟨g, i * 7 + 4, none⟩ = some (.int .i64 x.ow) ∧ RM w.drew D X vl vw M W) := ⟨c0, d2, d3, d4, H.out.drew⟩
          have HCD : Hid (Ch D w w.drew) := (Ch.refl _ _).drew
          go_wp2_with fail
          refine wp_region_pl (fun Y => Y.cell? ⟨X, 0, none⟩ = some (.slice (some ⟨g, 0, none⟩) L cap) ∧ Y.cell? ⟨g, i * 7 + 2, none⟩ = some (.int .i64 x.lv) ∧ Y.cell? ⟨g, i * 7 + 3, none⟩ = some (.bool true) ∧ Y.cell? ⟨g, i * 7 + 4, none⟩ = some (.int .i64 x.ow) ∧ RM Y D X vl vw M W) ((0, 0) :: (1, 0) :: (2, 0) :: (3, 0) :: (4, 0) :: (5, 0) :: (6, 0) :: (7, 0) :: (8, 0) :: (9, 0) :: (10, 0) :: (11, 0) :: (12, 0) :: (13, 0) :: (14, 0) :: (15, 0) :: (16, 0) :: (17, 0) :: (18, 0) :: (19, 0) :: (20, 0) :: (21, 0) :: (22, 0) :: (23, 0) :: (24, 0) :: (25, 0) :: (26, 0) :: (27, 0) :: (28, 0) :: (29, 0) :: (30, 0) :: (31, 0) :: (32, 0) :: (33, 0) :: (34, 0) :: (35, 0) :: []) (by kernel_rfl) (by kernel_rfl) ?_
          iterate 22 (apply wpP_go; (focus rfl); (focus rfl); (focus exact SR.out); (focus (rintro Q ⟨s0, s1, s2, s3, s4⟩; go_simp; exact rfl)); intro K hK; go_simp; refine hK _ ?_; clear hK K)
          iterate 12 (apply wpP_not; (focus rfl); (focus rfl); (focus exact SR.out); intro K hK; go_simp; refine hK _ ?_; clear hK K)
          iterate 2 (apply wpP_go; (focus rfl); (focus rfl); (focus exact SR.out); (focus (rintro Q ⟨s0, s1, s2, s3, s4⟩; go_simp; exact rfl)); intro K hK; go_simp; refine hK _ ?_; clear hK K)
          refine wpP_done ?_
          clear c0 d0 d1 d2 d3 d4 d5 d6
          go_wp2_with fail
          go_ret
          rw [HREL.out]
          exact ⟨rfl, RP.of (RK.mk' SR.out.2.2.2.2 (by have := HN.out.1; omega) (by have := HN.out.2; omega) HO.out HH.out) HCD.out⟩
  · have HS : Hid (s.o id = none) := HO.out.no hno
    clear hno HF
    go_wp2_with fail
    go_ret
    have hE : relS s t id = (6, s) := by unfold relS; rw [HS.out]
    rw [hE]
    exact ⟨rfl, P0.out⟩
end
end Go.Proofs.Ytefgfmnnaglfmaa
namespace Go.Proofs.Ytefgfmnnaglfmaa
open Go.RowKit
/-- A thread taken out of every queue. -/
def lvS (s : LK) (t : Int) : LK := { s with o := fun j => (s.o j).map fun x => { x with q := x.q.filter fun a => a != t } }
/-- The first i locks have lost thread t. -/
def LV (M Mr : List RL) (t : Int) (i : Nat) : Prop := Mr.length = M.length ∧ ∀ j x, M[j]? = some x → ∃ v, Mr[j]? = some (if j < i then { x with q := x.q.filter (fun a => a != t), v := v } else x)
theorem LV.start (M : List RL) (t : Int) : LV M M t 0 := ⟨rfl, fun j x hx => ⟨x.v, by rw [if_neg (by omega)]; exact hx⟩⟩
theorem LV.at {M Mr : List RL} {t : Int} {i : Nat} {x : RL} (h : LV M Mr t i) (hx : M[i]? = some x) : Mr[i]? = some x := by
  obtain ⟨v, hv⟩ := h.2 i x hx
  rw [if_neg (by omega)] at hv
  exact hv
theorem LV.step {M Mr : List RL} {t : Int} {i : Nat} {x : RL} (h : LV M Mr t i) (hx : M[i]? = some x) (v : Value) : LV M (Mr.set i { x with v := v, q := x.q.filter fun a => a != t }) t (i + 1) := by
  refine ⟨by rw [List.length_set]; exact h.1, fun j z hz => ?_⟩
  by_cases e : j = i
  · subst e
    rw [hx] at hz
    injection hz with hz
    subst hz
    refine ⟨v, ?_⟩
    rw [if_pos (by omega)]
    exact at_set (h.at hx)
  · obtain ⟨u, hu⟩ := h.2 j z hz
    refine ⟨u, ?_⟩
    rw [List.getElem?_set, if_neg (fun h => e h.symm), hu]
    by_cases h1 : j < i
    · rw [if_pos h1, if_pos (by omega)]
    · rw [if_neg h1, if_neg (by omega)]
theorem LV.ro {M Mr : List RL} {t : Int} {s : LK} (h : LV M Mr t M.length) (hO : RO M s) : RO Mr (lvS s t) := by
  have hat : ∀ (j : Nat) (z : RL), Mr[j]? = some z → ∃ x v, M[j]? = some x ∧ z = { x with q := x.q.filter (fun a => a != t), v := v } := fun j z hz => by
    obtain ⟨hj, _⟩ := List.getElem?_eq_some_iff.1 hz
    have hj2 : j < M.length := by rw [← h.1]; exact hj
    obtain ⟨v, hv⟩ := h.2 j _ (List.getElem?_eq_getElem hj2)
    rw [if_pos hj2, hz] at hv
    injection hv with hv
    exact ⟨_, v, List.getElem?_eq_getElem hj2, hv⟩
  have hid : Mr.map (·.id) = M.map (·.id) := by
    apply List.ext_getElem?
    intro j
    rw [List.getElem?_map, List.getElem?_map]
    rcases hz : Mr[j]? with _ | z
    · have : M[j]? = none := by rw [List.getElem?_eq_none_iff] at hz ⊢; rw [← h.1]; exact hz
      rw [this]
    · obtain ⟨x, v, hx, rfl⟩ := hat j z hz
      simp [hx]
  refine ⟨by rw [hid]; exact hO.nd, fun z hz => ?_, fun k hk => ?_⟩
  · obtain ⟨j, hj⟩ := List.mem_iff_getElem?.1 hz
    obtain ⟨x, v, hx, rfl⟩ := hat j z hj
    refine ⟨?_, (hO.od hx : x.od = (x.mx && decide (0 < x.ct)))⟩
    show (s.o x.id).map _ = _
    rw [hO.at hx]; rfl
  · have hk2 : (s.o k).isSome = true := by
      have : ((s.o k).map fun x => { x with q := x.q.filter fun a => a != t }).isSome = true := hk
      rwa [Option.isSome_map] at this
    obtain ⟨x, hx, e⟩ := hO.all k hk2
    have : k ∈ Mr.map (·.id) := by rw [hid]; exact List.mem_map.2 ⟨x, hx, e⟩
    obtain ⟨z, hz, e2⟩ := List.mem_map.1 this
    exact ⟨z, hz, e2⟩
theorem own_lt' {w : World} {v : Value} {q : List Int} (h : OI w v q) {g : Nat} (e : v.ownBlock = some g) : g < w.heap.size := (own_ty h e).lt
section
variable {w w1 w' : World} {D D1 : Nat → Prop} {X n : Nat} {s : LK} {vl vw : Value} {M : List RL} {W : List RT}
set_option maxRecDepth 100000 in
set_option maxHeartbeats 4000000 in
theorem rleave_any (h : RM w D X vl vw M W) (hn : M.length ≤ 80000) (hql : ∀ x ∈ M, x.q.length ≤ 1000) (t : Int) :
    Calls Try.prog 67 #[ptr X, .int .i64 t] w fun e w' => e = .returned (.tuple #[]) ∧ ∃ D' M', RM w' D' X vl vw M' W ∧ LV M M' t M.length ∧ Ch D w w' ∧ ∀ k, D' k → D k ∨ (w.heap.size ≤ k ∧ k < w'.heap.size) := by
  obtain ⟨al, cap, e, hc1, hc2⟩ := h.fl
  obtain ⟨L, hL⟩ : ∃ L, M.length = L := ⟨_, rfl⟩
  have HL := Lib.hid hL
  have HE := Lib.hid e
  have HQL := Lib.hid hql
  rw [hL] at hc1 hn
  unfold maxLen at hc2
  have HW0 : Hid (∃ Dr Mr, RM w Dr X vl vw Mr W ∧ LV M Mr t 0 ∧ Ch D w w ∧ ∀ k, Dr k → D k ∨ (w.heap.size ≤ k ∧ k < w.heap.size)) := ⟨D, M, h, LV.start M t, Ch.refl _ _, fun k hk => .inl hk⟩
  have c0 := h.c0
  clear h hL e hql
  go_enter Try.func67, Try.ntmps67
  go_wp2_with fail
  go_loopw [4] (fun z wr => ∃ i : Nat, i ≤ L ∧ z = .int .i64 (i : Int) ∧ Hid (∃ Dr Mr, RM wr Dr X vl vw Mr W ∧ LV M Mr t i ∧ Ch D w wr ∧ ∀ k, Dr k → D k ∨ (w.heap.size ≤ k ∧ k < wr.heap.size))) (fun z _ => L - (intOf z).toNat)
  case atStart => exact ⟨0, by omega, rfl, HW0⟩
  case round =>
    clear HW0 c0
    obtain ⟨i, hi, rfl, HW⟩ := hrel
    obtain ⟨Dr, Mr, hrm, hlv, hch, hDr⟩ := HW.out
    have c0 := hrm.c0
    rw [HE.out, HL.out] at c0
    by_cases hlt : i < L
    · have y0 : (i : Int) < L := by omega
      obtain ⟨x, hx⟩ : ∃ x, M[i]? = some x := ⟨_, List.getElem?_eq_getElem (by rw [HL.out]; exact hlt)⟩
      have hxr := hlv.at hx
      obtain ⟨g, cp, e, _, _, hgl, hgD, d0, d1, d2, d3, d4, d5, d6, fr⟩ := hrm.gl hxr
      rw [HE.out, HL.out] at e
      have e1 : al = some ⟨g, 0, none⟩ := by injection e
      subst e1
      have hqv := (hrm.qv hxr).1
      have hq1 : x.q.length ≤ 1000 := HQL.out x (List.mem_of_getElem? hx)
      obtain ⟨qa, qc, ev, hqc1, hqc2, hqt, hqx⟩ := hqv
      obtain ⟨ql, hql⟩ : ∃ n, x.q.length = n := ⟨_, rfl⟩
      rw [ev] at d6
      rw [hql] at d6 hqc1 hq1
      have HQ : Hid (x.q ≠ [] → ∃ b o, qa = some ⟨b, o, none⟩ ∧ b < wr.heap.size ∧ ∀ j, j < x.q.length → wr.cell? ⟨b, o + j, none⟩ = some (.int .i64 (x.q.getD j 0))) := fun h9 => by
        obtain ⟨b, o, e9, h10⟩ := hqx h9
        exact ⟨b, o, e9, (hqt b (by rw [ev, e9]; rfl)).lt, h10⟩
      have HQl := Lib.hid hql
      have HX := Lib.hid hx
      have HR : Hid (RM wr Dr X vl vw Mr W ∧ LV M Mr t i ∧ Ch D w wr ∧ ∀ k, Dr k → D k ∨ (w.heap.size ≤ k ∧ k < wr.heap.size)) := ⟨hrm, hlv, hch, hDr⟩
      have hXl : X < wr.heap.size := hrm.fin X hrm.dX
      have C0 : Hid (wr.cell? ⟨X, 0, none⟩ = some (.slice (some ⟨g, 0, none⟩) L cap) ∧ wr.cell? ⟨g, i * 7 + 6, none⟩ = some (.slice qa ql qc)) := ⟨c0, d6⟩
      have HI0 : Hid (OI wr (.slice none 0 0) ((x.q.take 0).filter fun a => a != t) ∧ Below wr.heap.size wr wr ∧ ∀ g, (Value.slice none 0 0).ownBlock = some g → wr.heap.size ≤ g) := ⟨by simpa using OI.nil wr, Below.refl _ _, fun g hg => by cases hg⟩
      clear hx hxr e d0 d1 d2 d3 d4 d5 fr hqx hqt ev hql hrm hlv hch hDr HW
      unfold maxLen at hqc2
      go_wp2_with fail
      obtain ⟨wi, hwi⟩ : ∃ z : World, z = wr := ⟨_, rfl⟩
      subst hwi
      go_loopw [5, 6] (fun v z wk => ∃ (k : Nat) (vq : Value), k ≤ ql ∧ vq = v ∧ z = .int .i64 (k : Int) ∧ Hid (OI wk vq ((x.q.take k).filter fun a => a != t) ∧ Below wi.heap.size wi wk ∧ ∀ g, vq.ownBlock = some g → wi.heap.size ≤ g)) (fun _ z _ => ql - (intOf z).toNat)
      case atStart => exact ⟨0, _, by omega, rfl, rfl, HI0⟩
      case round =>
        clear HI0 c0 d6
        obtain ⟨k, vq, hk, hvq, rfl, HK⟩ := hrel
        subst hvq
        have c0 := (HK.out.2.1.cell (p := ⟨X, 0, none⟩) hXl).trans C0.out.1
        have d6 := (HK.out.2.1.cell (p := ⟨g, i * 7 + 6, none⟩) hgl).trans C0.out.2
        by_cases hkl : k < ql
        · have y1 : (k : Int) < ql := by omega
          obtain ⟨b, o, rfl, hbl, hqc⟩ := HQ.out (by intro e; have := HQl.out; rw [e] at this; simp at this; omega)
          have kc := (HK.out.2.1.cell (p := ⟨b, o + k, none⟩) hbl).trans (hqc k (by rw [HQl.out]; exact hkl))
          obtain ⟨a, ha⟩ : ∃ a, x.q.getD k 0 = a := ⟨_, rfl⟩
          rw [ha] at kc
          have HT : Hid (x.q.take (k + 1) = x.q.take k ++ [a]) := by
            show _ = _
            have hkq : k < x.q.length := by rw [HQl.out]; exact hkl
            rw [List.take_succ_eq_append_getElem hkq, ← ha, List.getD_eq_getElem?_getD, List.getElem?_eq_getElem hkq]; rfl
          have hfl : ((x.q.take k).filter fun a => a != t).length ≤ 1000 := Nat.le_trans (List.length_filter_le _ _) (by rw [List.length_take]; omega)
          clear ha hqc
          by_cases heq : a = t
          · have hb : (a != t) = false := by simpa using heq
            have HK2 : Hid (OI wr vq ((x.q.take (k + 1)).filter fun a => a != t) ∧ Below wi.heap.size wi wr ∧ ∀ g, vq.ownBlock = some g → wi.heap.size ≤ g) := ⟨by rw [HT.out, List.filter_append, List.filter_cons_of_neg (by simpa using heq), List.filter_nil, List.append_nil]; exact HK.out.1, HK.out.2⟩
            clear heq
            go_wp2_with fail
            go_roundw
            case rel => exact ⟨k + 1, vq, by omega, rfl, by go_num, HK2⟩
            case measure => simp [intOf]; omega
          · have hb : (a != t) = true := by simpa using heq
            have HA : Hid (((x.q.take (k + 1)).filter fun a => a != t) = ((x.q.take k).filter fun a => a != t) ++ [a]) := by show _ = _; rw [HT.out, List.filter_append, List.filter_cons_of_pos (by simpa using heq), List.filter_nil]
            have b1 : Below wr.heap.size wr (wr.alloc (.cells #[.int .i64 a] 3)) := (Below.refl _ _).alloc (Nat.le_refl _) _
            have hs0 := HK.out.2.1.size
            obtain ⟨R, w5, hr, ho, hc, ⟨g5, cap5, eR⟩, hb5⟩ := app_push (B := wr.heap.size) (t := a) (HK.out.1.below b1) (by omega) (Row.cell (Row.new wr 3 #[.int .i64 a] (fun _ => .int .i64 a) (fun j hj => by rcases (by simpa using hj : j = 0) with rfl; rfl)) (i := 0) (by simp))
            have HK2 : Hid (OI w5 R ((x.q.take (k + 1)).filter fun a => a != t) ∧ Below wi.heap.size wi w5 ∧ ∀ g, R.ownBlock = some g → wi.heap.size ≤ g) := by
              refine ⟨by rw [HA.out]; exact ho, (HK.out.2.1.trans (b1.mono hs0)).trans (hc.below (Nat.le_trans hs0 b1.size) (fun k hk => HK.out.2.2 k hk)), fun g hg => ?_⟩
              rcases (hb5 g hg).1 with h1 | h1
              · exact HK.out.2.2 g h1
              · have := b1.size; omega
            have HRUN : Hid ((Builtin.append_ #[22, 22] 22 #[vq, .slice (some ⟨wr.heap.size, 0, none⟩) 1 1]).run Try.prog (wr.alloc (.cells #[.int .i64 a] 3)) = .ok R w5) := hr
            clear heq hr ho hc hb5 eR b1 hs0 HK
            go_wp2_with (at_builtin; refine wpList_append_run rfl _ _ 22 rfl rfl vq (.slice (some ⟨wr.heap.size, 0, none⟩) 1 1) R w5 rfl rfl (by exact HRUN.out) ?_)
            go_roundw
            case rel => exact ⟨k + 1, R, by omega, rfl, by go_num, HK2⟩
            case measure => simp [intOf]; omega
        · have y1 : ¬ (k : Int) < ql := by omega
          obtain ⟨hoi, hbw, hob⟩ := HK.out
          rw [List.take_of_length_le (by rw [HQl.out]; omega)] at hoi
          obtain ⟨ra, rc, er, _, _, _⟩ := own_form hoi
          obtain ⟨rl, hrl⟩ : ∃ m, (x.q.filter fun a => a != t).length = m := ⟨_, rfl⟩
          rw [hrl] at er
          subst er
          have hrm2 := HR.out.1.below hbw
          have hwid := hrm2.widen (D' := fun k => Dr k ∨ (Value.slice ra rl rc).ownBlock = some k) (fun k h => .inl h) (fun k hk => hk.elim (hrm2.fin k) (fun h => own_lt' hoi h))
          have hxr := HR.out.2.1.at HX.out
          have HEV : Hid (vl = .slice (some ⟨g, 0, none⟩) Mr.length cap) := by show _ = _; rw [HE.out, HL.out, HR.out.2.1.1, HL.out]
          have HM5 := Lib.hid (hwid.sQu HEV.out hxr ⟨hoi.qv, fun b hb => .inr hb⟩)
          have hfr : wr.frozen? ⟨g, i * 7 + 6, none⟩ = false := by
            obtain ⟨_, _, e9, _, _, _, _, _, _, _, _, _, _, _, fr5⟩ := hrm2.gl hxr
            rw [HEV.out] at e9
            obtain ⟨e9, _, _⟩ := sl_inj e9
            subst e9
            exact fr5 _
          have HC5 : Hid (Ch D w (wr.setCell ⟨g, i * 7 + 6, none⟩ (.slice ra rl rc))) := (HR.out.2.2.1.trans (Ch.of_below hbw _)).andThen (hrm2.chL HEV.out (.slice ra rl rc)) (fun k hk hk2 => by
            rcases HR.out.2.2.2 k hk with h | h
            · exact h
            · omega)
          have hsw := HR.out.2.2.1.size
          have hsb := hbw.size
          have HD5 : Hid (∀ k, (Dr k ∨ (Value.slice ra rl rc).ownBlock = some k) → D k ∨ (w.heap.size ≤ k ∧ k < (wr.setCell ⟨g, i * 7 + 6, none⟩ (.slice ra rl rc)).heap.size)) := fun k hk => by
            have hss : (wr.setCell ⟨g, i * 7 + 6, none⟩ (.slice ra rl rc)).heap.size = wr.heap.size := by simp
            rw [hss]
            rcases hk with hk | hk
            · exact (HR.out.2.2.2 k hk).imp id (fun h => ⟨h.1, by omega⟩)
            · exact .inr ⟨by have := hob k hk; omega, own_lt' hoi hk⟩
          have HLV := Lib.hid (HR.out.2.1.step HX.out (.slice ra rl rc))
          clear hoi hbw hob hrl hrm2 hwid hxr hsw hsb HK
          go_wp2_with fail
          go_roundw
          case rel => exact ⟨i + 1, by omega, by go_num, ⟨_, _, HM5.out, HLV.out, HC5.out, HD5.out⟩⟩
          case measure => simp [intOf]; omega
    · have y0 : ¬ (i : Int) < L := by omega
      have HF : Hid (∃ D' M', RM wr D' X vl vw M' W ∧ LV M M' t M.length ∧ Ch D w wr ∧ ∀ k, D' k → D k ∨ (w.heap.size ≤ k ∧ k < wr.heap.size)) := ⟨Dr, Mr, hrm, by rw [HL.out, show L = i by omega]; exact hlv, hch, hDr⟩
      clear hrm hlv hch hDr HW
      go_wp2_with fail
      go_end0
      exact ⟨rfl, HF.out⟩
end
end Go.Proofs.Ytefgfmnnaglfmaa
