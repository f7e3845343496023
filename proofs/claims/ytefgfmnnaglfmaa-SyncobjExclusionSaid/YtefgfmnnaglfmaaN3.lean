/- The reference's Wait. Conditions: those that each theorem names. -/
import Derived.Deep.Upon
import Derived.Deep.DeepCutAuto
import Derived.Test.YtefgfmnnaglfmaaN2
import Derived.Test.YtefgfmnnaglfmaaPf
namespace Go.Proofs.Ytefgfmnnaglfmaa
open Go.RowKit
theorem wp_append_run {P : Program} {w : World} {o : Oper} {a : Act} {K : Act → World → Prop} {Q : Exit → Act → World → Prop} (s x : Operand) (t : TypeId)
    (ho : o.op = .call { callee := .builtin .append, args := #[s, x], argTypes := #[t, t] }) (hty : o.type = t) (v1 v2 R : Value) (W' : World) (hs : a.eval s = v1) (hx : a.eval x = v2)
    (hr : (Builtin.append_ #[t, t] t #[v1, v2]).run P w = .ok R W') (h : K (a.put o.dst R) W') : o.wp P a w K Q := by
  unfold Oper.wp execOp
  simp only [ho, hty, resolve, invoke, builtin, Sem.run_bind, Sem.run_pure, Result.andThen_ok, List.map_toArray, List.map_cons, List.map_nil, hs, hx, hr]
  exact h
theorem step_append_run {P : Program} {w : World} {ops : Array Oper} {o : Oper} {a : Act} {K : Act → World → Prop} {Q : Exit → Act → World → Prop} {E : Prop} (hgd : o.guard = none) (s x : Operand) (t : TypeId)
    (ho : o.op = .call { callee := .builtin .append, args := #[s, x], argTypes := #[t, t] }) (hty : o.type = t) (v1 v2 R : Value) (W' : World) (hs : a.eval s = v1) (hx : a.eval x = v2)
    (hr : (Builtin.append_ #[t, t] t #[v1, v2]).run P w = .ok R W') (h : K (a.put o.dst R) W') : if Region.wanted o (yielded ops a.tmps) = true then o.wp P a w K Q else E := by
  rw [if_pos (by simp [Region.wanted, hgd])]
  exact wp_append_run s x t ho hty v1 v2 R W' hs hx hr h
theorem wpList_append_run {P : Program} {w : World} {ops : Array Oper} {rest : List Oper} {o : Oper} {a : Act} {Q : Exit → Act → World → Prop} (hgd : o.guard = none) (s x : Operand) (t : TypeId)
    (ho : o.op = .call { callee := .builtin .append, args := #[s, x], argTypes := #[t, t] }) (hty : o.type = t) (v1 v2 R : Value) (W' : World) (hs : a.eval s = v1) (hx : a.eval x = v2)
    (hr : (Builtin.append_ #[t, t] t #[v1, v2]).run P w = .ok R W') (h : wpList P ops Q rest (a.put o.dst R) W') : wpList P ops Q (o :: rest) a w :=
  wpList_plain hgd fun _ hK => wp_append_run s x t ho hty v1 v2 R W' hs hx hr (hK _ _ h)
/-- Ints of the call's own. -/
def OI (w : World) (v : Value) (q : List Int) : Prop := w.ownsRow 0 3 1 v q.length (q.map (Value.int .i64))
theorem OI.ch {C : Nat → Prop} {w w' : World} {v : Value} {q : List Int} (h : OI w v q) (c : Ch C w w') (hC : ∀ b, v.ownBlock = some b → ¬ C b) : OI w' v q := own_ch h c hC
theorem OI.below {w w' : World} {v : Value} {q : List Int} (h : OI w v q) (c : Below w.heap.size w w') : OI w' v q := own_ch h (Ch.of_below c (fun _ => False)) (fun _ _ h => h)
theorem OI.nil (w : World) : OI w (.slice none 0 0) [] := ⟨by simp, .inl ⟨rfl, rfl⟩⟩
theorem OI.qv {w : World} {v : Value} {q : List Int} (h : OI w v q) : QV w v q := by
  have hty : ∀ b, v.ownBlock = some b → TY w b 3 := fun b hb => own_ty h hb
  obtain ⟨a, cap, rfl, h1, h2, h3⟩ := own_form h
  refine ⟨a, cap, rfl, h1, h2, hty, fun hq => ?_⟩
  obtain ⟨g, rfl, _, hc, _⟩ := h3 (List.length_pos_iff.2 hq)
  refine ⟨g, 0, rfl, fun j hj => hc _ _ ?_⟩
  rw [Nat.zero_add, List.getElem?_map, List.getD_eq_getElem?_getD, List.getElem?_eq_getElem hj]; rfl
theorem app_copy {w : World} {v : Value} {q : List Int} (hq : QV w v q) (hl : q.length ≤ 100000) :
    ∃ R w', (Builtin.append_ #[22, 22] 22 #[.slice none 0 0, v]).run Try.prog w = .ok R w' ∧ OI w' R q ∧ Ch (fun _ => False) w w' ∧ ∀ g, R.ownBlock = some g → w.heap.size ≤ g ∧ g < w'.heap.size := by
  obtain ⟨i0, hi0, hx0, hx1, hx2⟩ := info_parts Try.info3
  obtain ⟨a, cap, rfl, h1, h2, h3, h4⟩ := hq
  by_cases hn : q = []
  · subst hn
    refine ⟨_, w, run_append_nothing w 22 22 22 3 i0 Try.underlying22 hi0 none 0 0 (Nat.le_refl _) _ ?_, OI.nil w, Ch.refl _ _, fun g hg => by cases hg⟩
    cases a with
    | none => exact Src.ofNil w Try.underlying22 cap
    | some ad => exact Src.ofSlice w Try.underlying22 ad 0 cap [] (by simp) (fun j u h => by simp at h) (fun u h => by cases h)
  · obtain ⟨b, o, rfl, h5⟩ := h4 hn
    have hn0 : 0 < q.length := List.length_pos_iff.2 hn
    obtain ⟨g, c2, w', hr, ho, hg, hat, hlt⟩ := run_append_lies (P := Try.prog) w 22 22 0 3 i0 _ 1 8 Try.underlying22 hi0 hx0 hx1 hx2 rfl (by omega) (.slice none 0 0) 0 [] ⟨by simp, .inl ⟨rfl, rfl⟩⟩ ⟨b, o, none⟩ q.length cap (q.map (Value.int .i64)) (by simp) (fun j u hu => by
      have hj : j < q.length := by
        rcases Nat.lt_or_ge j q.length with h | h
        · exact h
        · rw [List.getElem?_eq_none (by simpa using h)] at hu; cases hu
      have hadd : (⟨b, o, none⟩ : Addr).add j = ⟨b, o + j, none⟩ := by unfold Addr.add; split <;> simp_all
      rw [hadd, h5 j hj, ← hu, List.getElem?_map, List.getD_eq_getElem?_getD, List.getElem?_eq_getElem hj]; rfl) (fun u hu => by
      obtain ⟨z, _, rfl⟩ := List.mem_map.1 hu; rfl) hn0 (by unfold maxLen; omega) (by omega) (Nat.zero_le _) w.heap.size rfl
    rw [Nat.zero_add] at hr ho
    refine ⟨_, w', hr, by simpa [OI] using ho, Ch.of_grown hg (fun k hk _ => by cases hk), fun k hk => ?_⟩
    have e : g = k := by simpa [Value.ownBlock] using hk
    subst e
    rcases hat with h | h
    · cases h
    · exact ⟨by omega, hlt⟩
theorem app_push {w : World} {v : Value} {q : List Int} (ho : OI w v q) (hl : q.length ≤ 100000) {B : Nat} {t : Int} (hB : w.cell? ⟨B, 0, none⟩ = some (.int .i64 t)) :
    ∃ R w', (Builtin.append_ #[22, 22] 22 #[v, .slice (some ⟨B, 0, none⟩) 1 1]).run Try.prog w = .ok R w' ∧ OI w' R (q ++ [t]) ∧ Ch (fun k => v.ownBlock = some k) w w' ∧ (∃ g cap, R = .slice (some ⟨g, 0, none⟩) (q.length + 1) cap) ∧ ∀ g, R.ownBlock = some g → (v.ownBlock = some g ∨ w.heap.size ≤ g) ∧ g < w'.heap.size := by
  obtain ⟨i0, hi0, hx0, hx1, hx2⟩ := info_parts Try.info3
  obtain ⟨g, c2, w', hr, ho, hg, hat, hlt⟩ := run_append_lies (P := Try.prog) w 22 22 0 3 i0 _ 1 8 Try.underlying22 hi0 hx0 hx1 hx2 rfl (by omega) v q.length _ ho ⟨B, 0, none⟩ 1 1 [.int .i64 t] rfl (fun j u hu => by
      rcases j with _ | j
      · have : Value.int .i64 t = u := by simpa using hu
        rw [← this]; exact hB
      · simp at hu) (fun u hu => by rw [List.mem_singleton.1 hu]; rfl) (by omega) (by unfold maxLen; omega) (by omega) (Nat.zero_le _) w.heap.size rfl
  refine ⟨_, w', hr, ?_, Ch.of_grown hg (fun k hk _ => hk), ⟨g, c2, rfl⟩, fun k hk => ?_⟩
  · unfold OI
    rw [List.length_append, List.map_append]; exact ho
  · have e : g = k := by simpa [Value.ownBlock] using hk
    subst e
    exact ⟨hat.imp id (fun h => by omega), hlt⟩
end Go.Proofs.Ytefgfmnnaglfmaa
namespace Go.Proofs.Ytefgfmnnaglfmaa
open Go.RowKit
section
variable {w : World} {D : Nat → Prop} {X n : Nat} {s : LK} {vl vw : Value} {M : List RL} {W : List RT}
theorem RM.widen (h : RM w D X vl vw M W) {D' : Nat → Prop} (h1 : ∀ k, D k → D' k) (h2 : ∀ k, D' k → k < w.heap.size) : RM w D' X vl vw M W :=
  ⟨h.top, h.rl, h.rw, h1 _ h.dX, fun g e => h1 g (h.dl g e), fun g e => h1 g (h.dw g e), fun x hx => ⟨(h.q x hx).1, fun b e => h1 b ((h.q x hx).2 b e)⟩, h2⟩
set_option maxRecDepth 100000 in
set_option maxHeartbeats 8000000 in
theorem renqueue_any (h : RM w D X vl vw M W) (hM : M.length ≤ n) (hW : W.length ≤ n) (hn : n ≤ 90000) {i : Nat} {x : RL} (hx : M[i]? = some x) (hO : RO M s) (hH : RH W s) (hql : x.q.length ≤ 1000) (t now tm : Int) (hnow : 0 ≤ now ∧ now ≤ 18446744073709551615) (htm : 0 ≤ tm ∧ tm ≤ 18446744073709551615) :
    Calls Try.prog 66 #[ptr X, .int .i64 t, .int .i64 (i : Nat), .int .u64 now, .int .u64 tm] w fun e w' => e = .returned (.int .i64 (waitS s t x.id now tm).1) ∧ RP w D X (n + 1) (waitS s t x.id now tm).2 w' := by
  have HTH := Lib.hid (rthread_any h (by omega) t)
  have HH := Lib.hid hH
  have HO := Lib.hid hO
  have HX := Lib.hid hx
  have HN : Hid (M.length ≤ n ∧ W.length ≤ n) := ⟨hM, hW⟩
  have HS : Hid (s.o x.id = some x.ob) := hO.at hx
  have HODX : Hid (x.od = (x.mx && decide (0 < x.ct))) := hO.od hx
  clear h hM hW hx hO hH
  go_enter Try.func66, Try.ntmps66
  go_wp2_with fail
  refine HTH.out.mono ?_
  rintro e w1 ⟨gw, cw, iw, y, D1, rfl, hy, hya, hm1, hc1, hD1⟩
  obtain ⟨gw', cw', ew, hcw1, hcw2, _, hDgw, t0, t1, t2, t3, t4, frw⟩ := hm1.gt hy
  obtain ⟨e1, _, e3⟩ := sl_inj ew
  subst e1 e3
  have ft1 := frw (iw * 5 + 1)
  have ft2 := frw (iw * 5 + 2)
  have ft3 := frw (iw * 5 + 3)
  have ft4 := frw (iw * 5 + 4)
  obtain ⟨LW, hLW⟩ : ∃ n, (thrW W t).length = n := ⟨_, rfl⟩
  have hlw : LW ≤ W.length + 1 := by rw [← hLW]; exact thr_len W t
  rw [hLW] at hm1 hcw1
  have HLW : Hid ((thrW W t).length = LW) := hLW
  have HEW : Hid ((Value.slice (some ⟨gw, 0, none⟩) LW cw) = .slice (some ⟨gw, 0, none⟩) (thrW W t).length cw) := by show _ = _; rw [hLW]
  have HD1 : Hid (∀ k, D1 k → D k ∨ (w.heap.size ≤ k ∧ k < w1.heap.size)) := hD1
  have HC1 := Lib.hid hc1
  have HM1 := Lib.hid hm1
  have HY : Hid ((thrW W t)[iw]? = some y ∧ y.th = t) := ⟨hy, hya⟩
  have HCT : Hid (∀ w2, Ch D1 w1 w2 → Ch D w w2) := fun w2 c => HC1.out.andThen c (fun k hk hk2 => by
    rcases HD1.out k hk with h | h
    · exact h
    · omega)
  clear ew frw hm1 hc1 hD1 hy hya HTH hLW
  by_cases hz : tm = 0
  · subst hz
    have HM2 := Lib.hid (HM1.out.tSt HEW.out HY.out.1 3)
    have HC2 : Hid (Ch D w _) := HCT.out _ (HM1.out.chT HEW.out (i := iw * 5 + 1) (.int .i64 3))
    clear t0 t2 t3 t4 ft2 ft3 ft4
    go_upto_region 4 with fail
    obtain ⟨gw', cw', ew, _, _, _, _, _, t1', _, _, _, _⟩ := HM2.out.gt (at_set HY.out.1)
    have e1 : gw = gw' := by injection ew with h1; injection h1 with h1; injection h1
    subst e1
    clear ew t1 ft1
    have hs2 : w1.heap.size = (w1.setCell ⟨gw, iw * 5 + 1, none⟩ (.int .i64 3)).heap.size := by simp
    rw [hs2] at HD1
    clear hs2
    generalize w1.setCell ⟨gw, iw * 5 + 1, none⟩ (.int .i64 3) = w2 at *
    go_wp2_with fail
    go_ret
    have hE : waitS s t x.id now 0 = (3, s.upT t fun t => { t with st := 3 }) := by unfold waitS; rw [if_pos rfl]
    rw [hE]
    have hrh : RH ((thrW W t).set iw { y with st := 3 }) (s.upT t fun t => { t with st := 3 }) := by
      refine (HH.out.thr t).set HY.out.1 rfl ?_ ?_ (fun h => by cases h)
      · intro j hj
        rw [stT_upT, if_neg (by rw [← HY.out.2]; exact hj)]
      · rw [stT_upT, if_pos HY.out.2]
    exact ⟨rfl, D1, RK.mk' HM2.out (by have := HN.out.1; omega) (by rw [List.length_set]; have := thr_len W t; have := HN.out.2; omega) (HO.out.congr rfl) hrh, HC2.out, HD1.out⟩
  · have htz : (tm == 0) = false := by simpa using hz
    obtain ⟨g, cap, e, hcl1, hcl2, hgl, hgD, d0, d1, d2, d3, d4, d5, d6, fr⟩ := HM1.out.gl HX.out
    have HEV := Lib.hid e
    obtain ⟨L, hL⟩ : ∃ n, M.length = n := ⟨_, rfl⟩
    have hil : i < L := by rw [← hL]; exact (List.getElem?_eq_some_iff.1 HX.out).1
    have c0 := HM1.out.c0
    rw [e, hL] at c0
    rw [hL] at hcl1
    obtain ⟨li, hli⟩ : ∃ b, decide (tm < 65535) = b := ⟨_, rfl⟩
    have hsub : IntKind.u64.wrap (18446744073709551615 - tm) = 18446744073709551615 - tm := by rw [IntKind.wrap_u64]; omega
    have HDL : Hid (dlv now tm = if now ≤ 18446744073709551615 - tm then now + tm else 18446744073709551615) := by
      show _ = _
      unfold dlv
      rw [IntKind.wrap_u64]
      by_cases h9 : now ≤ 18446744073709551615 - tm
      · rw [if_pos h9, Int.emod_eq_of_lt (by omega) (by omega), if_neg (by omega)]
      · rw [if_neg h9, if_pos (by omega)]
    have m2 := HM1.out.tSt HEW.out HY.out.1 2
    have x2 := at_set (y := { y with st := 2 }) HY.out.1
    have e2 : (Value.slice (some ⟨gw, 0, none⟩) LW cw) = .slice (some ⟨gw, 0, none⟩) ((thrW W t).set iw { y with st := 2 }).length cw := by rw [List.length_set]; exact HEW.out
    have m3 := m2.tOb e2 x2 x.id
    have x3 := at_set (y := { y with st := 2, ob := x.id }) x2
    rw [List.set_set] at m3 x3
    have e3 : (Value.slice (some ⟨gw, 0, none⟩) LW cw) = .slice (some ⟨gw, 0, none⟩) ((thrW W t).set iw { y with st := 2, ob := x.id }).length cw := by rw [List.length_set]; exact HEW.out
    have m4 := m3.tLi e3 x3 li
    have x4 := at_set (y := { y with st := 2, ob := x.id, li := li }) x3
    rw [List.set_set] at m4 x4
    have e4 : (Value.slice (some ⟨gw, 0, none⟩) LW cw) = .slice (some ⟨gw, 0, none⟩) ((thrW W t).set iw { y with st := 2, ob := x.id, li := li }).length cw := by rw [List.length_set]; exact HEW.out
    have m5 := m4.tDl e4 x4 18446744073709551615
    have x5 := at_set (y := { y with st := 2, ob := x.id, li := li, dl := 18446744073709551615 }) x4
    rw [List.set_set] at m5 x5
    have e5 : (Value.slice (some ⟨gw, 0, none⟩) LW cw) = .slice (some ⟨gw, 0, none⟩) ((thrW W t).set iw { y with st := 2, ob := x.id, li := li, dl := 18446744073709551615 }).length cw := by rw [List.length_set]; exact HEW.out
    have HC5 : Hid (Ch D1 w1 _) := (((HM1.out.chT HEW.out _).trans (m2.chT e2 _)).trans (m3.chT e3 _)).trans (m4.chT e4 (i := iw * 5 + 4) (.int .u64 18446744073709551615))
    have HM5 := Lib.hid m5
    have HX5 := Lib.hid x5
    have HE5 := Lib.hid e5
    clear m2 m3 m4 m5 x2 x3 x4 x5 e2 e3 e4 e5 e fr d1 d2 d3 d4 d5
    go_upto_region 7 with fail
    generalize (((w1.setCell ⟨gw, iw * 5 + 1, none⟩ (.int .i64 2)).setCell ⟨gw, iw * 5 + 2, none⟩ (.int .i64 x.id)).setCell ⟨gw, iw * 5 + 3, none⟩ (.bool li)).setCell ⟨gw, iw * 5 + 4, none⟩ (.int .u64 18446744073709551615) = w2 at *
    go_upto_if 49 with fail
    go_cut [] (fun wx => Hid (∃ y2, RM wx D1 X vl (.slice (some ⟨gw, 0, none⟩) LW cw) M ((thrW W t).set iw y2) ∧ y2.th = t ∧ y2.st = 2 ∧ y2.li = li ∧ y2.dl = dlv now tm) ∧ Hid (Ch D1 w1 wx))
    case first =>
      by_cases hle : now ≤ 18446744073709551615 - tm
      · have hadd : IntKind.u64.wrap (now + tm) = now + tm := by rw [IntKind.wrap_u64]; omega
        have e6 : dlv now tm = now + tm := by rw [HDL.out, if_pos hle]
        have m6 := HM5.out.tDl HE5.out HX5.out (now + tm)
        rw [List.set_set] at m6
        have HM6 : Hid (∃ y2, RM _ D1 X vl (.slice (some ⟨gw, 0, none⟩) LW cw) M ((thrW W t).set iw y2) ∧ y2.th = t ∧ y2.st = 2 ∧ y2.li = li ∧ y2.dl = dlv now tm) := ⟨_, m6, HY.out.2, rfl, rfl, e6.symm⟩
        have HC6 : Hid (Ch D1 w1 _) := HC5.out.trans (HM5.out.chT HE5.out (i := iw * 5 + 4) (.int .u64 (now + tm)))
        obtain ⟨gw', cw', ew, _, _, _, _, _, _, _, _, k4, frw⟩ := HM5.out.gt HX5.out
        rw [HE5.out] at ew
        obtain ⟨e1, _, e3⟩ := sl_inj ew
        subst e1 e3
        have ft4 := frw (iw * 5 + 4)
        clear m6 e6 ew frw t0 t1 t2 t3 t4 ft1 ft2 ft3
        go_wp2_with fail
        go_meet
        exact ⟨HM6, HC6⟩
      · have e6 : dlv now tm = 18446744073709551615 := by rw [HDL.out, if_neg hle]
        have HM6 : Hid (∃ y2, RM w2 D1 X vl (.slice (some ⟨gw, 0, none⟩) LW cw) M ((thrW W t).set iw y2) ∧ y2.th = t ∧ y2.st = 2 ∧ y2.li = li ∧ y2.dl = dlv now tm) := ⟨_, HM5.out, HY.out.2, rfl, rfl, e6.symm⟩
        clear e6
        go_wp2_with fail
        go_meet
        exact ⟨HM6, HC5⟩
    case rest =>
      obtain ⟨HM3, HCA1⟩ := hcut
      clear HM5 HX5 HE5 HC5 c0 d0 d6 t0 t1 t2 t3 t4 ft1 ft2 ft3 ft4 hsub htz HDL
      obtain ⟨y2, hm3, hyt, hys, hyl, hyd⟩ := HM3.out
      have hW2 := at_set (y := y2) HY.out.1
      have HWT : Hid (waitS s t x.id now tm = (2, (s.upT t fun t => { t with st := 2, ob := x.id, en := decide (65535 ≤ tm), dl := dlv now tm }).upO x.id fun x => { x with q := x.q ++ [t] })) := by
        show _ = _
        unfold waitS
        rw [if_neg hz]
      obtain ⟨s', hs'⟩ : ∃ s', (s.upT t fun t => { t with st := 2, ob := x.id, en := decide (65535 ≤ tm), dl := dlv now tm }).upO x.id (fun x => { x with q := x.q ++ [t] }) = s' := ⟨_, rfl⟩
      have HSO : Hid (∀ v, s'.o = (s.setO x.id (some ({ x with v := v, q := x.q ++ [t] } : RL).ob)).o) := fun v => by
        rw [← hs']
        show (fun j => if j = x.id then (s.o x.id).map _ else s.o j) = fun j => if j = x.id then some _ else s.o j
        rw [HS.out]
        rfl
      have HRH : Hid (RH ((thrW W t).set iw y2) s') := by
        refine (HH.out.thr t).set HY.out.1 (by rw [hyt, HY.out.2]) ?_ ?_ ?_
        · intro j hj
          rw [← hs']
          rw [stT_upO]
          rw [stT_upT, if_neg (by rw [← HY.out.2]; exact hj)]
        · rw [← hs', HY.out.2, hys]
          rw [stT_upO]
          rw [stT_upT, if_pos rfl]
        · intro _
          rw [← hs', HY.out.2, hyl, hyd]
          rw [stT_upO, stT_upT, if_pos rfl]
          refine ⟨?_, rfl⟩
          show decide (65535 ≤ tm) = !li
          rw [← hli]
          by_cases h9 : tm < 65535
          · rw [decide_eq_true h9, decide_eq_false (by omega)]; rfl
          · rw [decide_eq_false h9, decide_eq_true (by omega)]; rfl
      rw [hs'] at HWT
      obtain ⟨W2, hW2e⟩ : ∃ W2, (thrW W t).set iw y2 = W2 := ⟨_, rfl⟩
      have HLW2 : Hid (W2.length = LW) := by show _ = _; rw [← hW2e, List.length_set]; exact HLW.out
      rw [hW2e] at hm3 hW2 HRH
      have HY2 : Hid (W2[iw]? = some y2) := hW2
      have HYS : Hid (y2.st = 2) := hys
      have HCA : Hid (Ch D w wc) := HCT.out _ HCA1.out
      have HDA : Hid (∀ k, D1 k → D k ∨ (w.heap.size ≤ k ∧ k < wc.heap.size)) := fun k hk => (HD1.out k hk).imp id (fun h => ⟨h.1, Nat.lt_of_lt_of_le h.2 HCA1.out.size⟩)
      have HMC := Lib.hid hm3
      clear hm3 hyt hys hyl hyd hW2 hW2e hs' HM3 HCA1 HD1 HCT HM1 HC1 HY HLW HEW hli hz hgl hgD
      have c0 := HMC.out.drew.c0
      obtain ⟨gx, capx, e, _, _, hgl, _, _, _, _, _, _, _, d6, _⟩ := HMC.out.drew.gl HX.out
      rw [HEV.out] at e
      obtain ⟨e1, _, e3⟩ := sl_inj e
      subst e1 e3
      rw [HEV.out, hL] at c0
      have SA : Hid (wc.drew.cell? ⟨X, 0, none⟩ = some (.slice (some ⟨g, 0, none⟩) L cap) ∧ wc.drew.cell? ⟨g, i * 7 + 6, none⟩ = some x.v) := ⟨c0, d6⟩
      have HLT : Hid (X < wc.drew.heap.size ∧ g < wc.drew.heap.size) := ⟨HMC.out.drew.fin X HMC.out.drew.dX, hgl⟩
      have HM3 := Lib.hid HMC.out.drew
      have HQ3 := Lib.hid (HMC.out.drew.qv HX.out).1
      have HCA' : Hid (Ch D w wc.drew) := HCA.out.drew
      have HDS : Hid (wc.heap.size = wc.drew.heap.size) := rfl
      clear e c0 d6 hgl HMC HCA hL
      go_wp2_with fail
      refine wp_region_tree (fun Y => Y.cell? ⟨X, 0, none⟩ = some (.slice (some ⟨g, 0, none⟩) L cap) ∧ Y.cell? ⟨g, i * 7 + 6, none⟩ = some x.v) [19] (PT.ls ((0, 0) :: (1, 0) :: (2, 0) :: (3, 0) :: (4, 0) :: (5, 0) :: (6, 0) :: (7, 0) :: (8, 0) :: (9, 0) :: (10, 0) :: (11, 0) :: (12, 0) :: (14, 0) :: []) (.f 13 (PT.ls ((15, 1) :: (16, 1) :: (17, 0) :: (18, 0) :: (19, 2) :: []) .done) 15 (PT.ls ((13, 1) :: (16, 1) :: (17, 0) :: (18, 0) :: (19, 2) :: []) .done))) (by kernel_rfl) (by kernel_rfl) (by kernel_rfl) ?_
      unfold PT.ls
      generalize wc.drew = w3 at *
      iterate 14 (apply wpT_go; (focus rfl); (focus rfl); (focus exact SA.out); (focus (rintro Q ⟨s0, s1⟩; go_simp; exact rfl)); intro K hK; go_simp; refine hK _ ?_; clear hK K)
      apply wpT_fork
      focus rfl
      focus rfl
      · intro K hK
        obtain ⟨R1, wa, hr, ho1, hc1, hb1⟩ := app_copy HQ3.out (by omega)
        refine step_append_run rfl _ _ 22 rfl rfl _ _ R1 wa rfl rfl hr ?_
        refine hK _ _ ⟨(hc1.cell (p := ⟨X, 0, none⟩) HLT.out.1 id).trans SA.out.1, (hc1.cell (p := ⟨g, i * 7 + 6, none⟩) HLT.out.2 id).trans SA.out.2⟩ ?_
        clear hK K hr
        have cal : Ch (fun _ => False) wa (wa.alloc (.cells #[.int .i64 t] 3)) := (Ch.refl _ _).alloc _
        have HC4 : Hid (Ch (fun _ => False) w3 (wa.alloc (.cells #[.int .i64 t] 3))) := hc1.trans cal
        have HO1 : Hid (OI (wa.alloc (.cells #[.int .i64 t] 3)) R1 x.q) := ho1.ch cal (fun _ _ h => h)
        have HR1 : Hid (∀ k, R1.ownBlock = some k → w3.heap.size ≤ k ∧ k < (wa.alloc (.cells #[.int .i64 t] 3)).heap.size) := fun k hk => ⟨(hb1 k hk).1, Nat.lt_of_lt_of_le (hb1 k hk).2 cal.size⟩
        have HB : Hid ((wa.alloc (.cells #[.int .i64 t] 3)).cell? ⟨wa.heap.size, 0, none⟩ = some (.int .i64 t)) := Row.cell (Row.new wa 3 #[.int .i64 t] (fun _ => .int .i64 t) (fun j hj => by rcases (by simpa using hj : j = 0) with rfl; rfl)) (i := 0) (by simp)
        apply wpT_one
        focus rfl
        intro K hK
        go_simp
        refine hK _ _ ⟨(HC4.out.cell (p := ⟨X, 0, none⟩) HLT.out.1 id).trans SA.out.1, (HC4.out.cell (p := ⟨g, i * 7 + 6, none⟩) HLT.out.2 id).trans SA.out.2⟩ ?_
        clear hK K cal hc1 ho1 hb1
        generalize wa.heap.size = Bz at *
        generalize wa.alloc (.cells #[.int .i64 t] 3) = w4 at *
        apply wpT_one
        focus rfl
        intro K hK
        obtain ⟨R2, w5, hr5, ho5, hc5, ⟨g5, cap5, e5⟩, hb5⟩ := app_push HO1.out (by omega) HB.out
        obtain ⟨nq, hnq⟩ : ∃ m, x.q.length + 1 = m := ⟨_, rfl⟩
        rw [hnq] at e5
        clear hnq
        subst e5
        refine step_append_run rfl _ _ 22 rfl rfl _ _ (.slice (some ⟨g5, 0, none⟩) nq cap5) w5 rfl rfl hr5 ?_
        have hs4 := HC4.out.size
        have HC5 : Hid (Ch (fun _ => False) w3 w5) := HC4.out.andThen hc5 (fun k hk hk2 => by have := (HR1.out k hk).1; omega)
        have S5 : Hid (w5.cell? ⟨X, 0, none⟩ = some (.slice (some ⟨g, 0, none⟩) L cap) ∧ w5.cell? ⟨g, i * 7 + 6, none⟩ = some x.v) := ⟨(HC5.out.cell (p := ⟨X, 0, none⟩) HLT.out.1 id).trans SA.out.1, (HC5.out.cell (p := ⟨g, i * 7 + 6, none⟩) HLT.out.2 id).trans SA.out.2⟩
        have HO5 := Lib.hid ho5
        have HR5 : Hid (∀ k, (Value.slice (some ⟨g5, 0, none⟩) nq cap5).ownBlock = some k → w3.heap.size ≤ k ∧ k < w5.heap.size) := fun k hk => by
          obtain ⟨h1, h2⟩ := hb5 k hk
          refine ⟨?_, h2⟩
          rcases h1 with h1 | h1
          · exact (HR1.out k h1).1
          · omega
        refine hK _ _ S5.out ?_
        clear hK K hr5 ho5 hc5 hb5 hs4 HC4 HO1 HR1 HB
        iterate 2 (apply wpT_go; (focus rfl); (focus rfl); (focus exact S5.out); (focus (rintro Q ⟨s0, s1⟩; go_simp; exact rfl)); intro K hK; go_simp; refine hK _ ?_; clear hK K)
        have HM5 := Lib.hid (HM3.out.ch HC5.out (fun _ _ h => h))
        have HW5 : Hid (∃ D5, RM w5 D5 X vl (.slice (some ⟨gw, 0, none⟩) LW cw) M W2 ∧ (∀ k, D1 k → D5 k) ∧ (∀ k, (Value.slice (some ⟨g5, 0, none⟩) nq cap5).ownBlock = some k → D5 k) ∧ ∀ k, D5 k → D1 k ∨ (w3.heap.size ≤ k ∧ k < w5.heap.size)) := ⟨fun k => D1 k ∨ (Value.slice (some ⟨g5, 0, none⟩) nq cap5).ownBlock = some k, HM5.out.widen (fun k h => .inl h) (fun k hk => hk.elim (HM5.out.fin k) (fun h => (HR5.out k h).2)), (fun k h => .inl h), (fun k h => .inr h), fun k hk => hk.imp id (HR5.out k)⟩
        obtain ⟨D5, h5, k5, r5, f5⟩ := HW5.out
        have hm6 := h5.sQu HEV.out HX.out ⟨OI.qv HO5.out, r5⟩
        have k6 := S5.out.2
        obtain ⟨_, _, e9, _, _, _, _, _, _, _, _, _, _, _, fr5⟩ := h5.gl HX.out
        rw [HEV.out] at e9
        obtain ⟨e9, _, _⟩ := sl_inj e9
        subst e9
        have f6 := fr5 (i * 7 + 6)
        have HM6 := Lib.hid hm6
        have HC6 : Hid (Ch D1 w3 (w5.setCell ⟨g, i * 7 + 6, none⟩ (.slice (some ⟨g5, 0, none⟩) nq cap5))) := (HC5.out.mono (fun _ h _ => h.elim)).trans (HM5.out.chL HEV.out _)
        have HD6 : Hid (∀ k, D5 k → D1 k ∨ (w3.heap.size ≤ k ∧ k < w5.heap.size)) := f5
        apply wpT_two
        focus rfl
        intro K hK
        go_simp
        refine hK _ _ ?_
        clear hK K k6 f6 fr5 h5 k5 r5 f5 hm6 S5 HM5 HW5 HO5 HR5 HC5
        refine wpT_done ?_
        obtain ⟨gw', cw', ew, _, _, _, _, _, t1, _, _, _, _⟩ := HM6.out.gt HY2.out
        rw [HYS.out] at t1
        obtain ⟨e1, _, e3⟩ := sl_inj ew
        subst e1 e3
        have hs5 : w5.heap.size = (w5.setCell ⟨g, i * 7 + 6, none⟩ (.slice (some ⟨g5, 0, none⟩) nq cap5)).heap.size := by simp
        rw [hs5] at HD6
        clear hs5 ew
        generalize w5.setCell ⟨g, i * 7 + 6, none⟩ (.slice (some ⟨g5, 0, none⟩) nq cap5) = w6 at *
        go_wp2_with fail
        go_ret
        rw [HWT.out]
        have hro : RO (M.set i { x with v := .slice (some ⟨g5, 0, none⟩) nq cap5, q := x.q ++ [t] }) s' := HO.out.set HX.out rfl HODX.out (HSO.out _)
        have hs3 := HCA'.out.size
        exact ⟨rfl, D5, RK.mk' HM6.out (by rw [List.length_set]; have := HN.out.1; omega) (by rw [HLW2.out]; have := HN.out.2; omega) hro HRH.out, HCA'.out.andThen HC6.out (fun k hk hk2 => by
          rcases HDA.out k hk with h | h
          · exact h
          · have := HDS.out; omega), fun k hk => by
          rcases HD6.out k hk with h | ⟨h1, h2⟩
          · rcases HDA.out k h with h | ⟨h1, h2⟩
            · exact .inl h
            · exact .inr ⟨h1, by have := HC6.out.size; have := HDS.out; omega⟩
          · exact .inr ⟨by omega, h2⟩⟩
      · intro K hK
        go_simp
        have cal : Ch (fun _ => False) w3 (w3.alloc (.cells #[.int .i64 t] 3)) := (Ch.refl _ _).alloc _
        have HB0 : Hid ((w3.alloc (.cells #[.int .i64 t] 3)).cell? ⟨w3.heap.size, 0, none⟩ = some (.int .i64 t)) := Row.cell (Row.new w3 3 #[.int .i64 t] (fun _ => .int .i64 t) (fun j hj => by rcases (by simpa using hj : j = 0) with rfl; rfl)) (i := 0) (by simp)
        have HQ4 : Hid (QV (w3.alloc (.cells #[.int .i64 t] 3)) x.v x.q) := HQ3.out.ch cal (fun _ _ h => h)
        have HCL := Lib.hid cal
        have hBl : w3.heap.size < (w3.alloc (.cells #[.int .i64 t] 3)).heap.size := by simp
        refine hK _ _ ⟨(cal.cell (p := ⟨X, 0, none⟩) HLT.out.1 id).trans SA.out.1, (cal.cell (p := ⟨g, i * 7 + 6, none⟩) HLT.out.2 id).trans SA.out.2⟩ ?_
        clear hK K cal
        generalize w3.alloc (.cells #[.int .i64 t] 3) = wa at *
        obtain ⟨Bz, hBz⟩ : ∃ B, w3.heap.size = B := ⟨_, rfl⟩
        simp only [hBz]
        rw [hBz] at HB0 hBl
        apply wpT_one
        focus rfl
        intro K hK
        obtain ⟨R1, w4, hr, ho1, hc1, hb1⟩ := app_copy HQ4.out (by omega)
        refine step_append_run rfl _ _ 22 rfl rfl _ _ R1 w4 rfl rfl hr ?_
        have HC4 : Hid (Ch (fun _ => False) w3 w4) := HCL.out.trans hc1
        have HO1 : Hid (OI w4 R1 x.q) := ho1
        have hsl := HCL.out.size
        have HR1 : Hid (∀ k, R1.ownBlock = some k → w3.heap.size ≤ k ∧ k < w4.heap.size) := fun k hk => ⟨by have := (hb1 k hk).1; omega, (hb1 k hk).2⟩
        have HB : Hid (w4.cell? ⟨Bz, 0, none⟩ = some (.int .i64 t)) := (hc1.cell (p := ⟨Bz, 0, none⟩) hBl id).trans HB0.out
        refine hK _ _ ⟨(HC4.out.cell (p := ⟨X, 0, none⟩) HLT.out.1 id).trans SA.out.1, (HC4.out.cell (p := ⟨g, i * 7 + 6, none⟩) HLT.out.2 id).trans SA.out.2⟩ ?_
        clear hK K hr hc1 ho1 hb1 HB0 HQ4 HCL hsl hBl hBz
        apply wpT_one
        focus rfl
        intro K hK
        obtain ⟨R2, w5, hr5, ho5, hc5, ⟨g5, cap5, e5⟩, hb5⟩ := app_push HO1.out (by omega) HB.out
        obtain ⟨nq, hnq⟩ : ∃ m, x.q.length + 1 = m := ⟨_, rfl⟩
        rw [hnq] at e5
        clear hnq
        subst e5
        refine step_append_run rfl _ _ 22 rfl rfl _ _ (.slice (some ⟨g5, 0, none⟩) nq cap5) w5 rfl rfl hr5 ?_
        have hs4 := HC4.out.size
        have HC5 : Hid (Ch (fun _ => False) w3 w5) := HC4.out.andThen hc5 (fun k hk hk2 => by have := (HR1.out k hk).1; omega)
        have S5 : Hid (w5.cell? ⟨X, 0, none⟩ = some (.slice (some ⟨g, 0, none⟩) L cap) ∧ w5.cell? ⟨g, i * 7 + 6, none⟩ = some x.v) := ⟨(HC5.out.cell (p := ⟨X, 0, none⟩) HLT.out.1 id).trans SA.out.1, (HC5.out.cell (p := ⟨g, i * 7 + 6, none⟩) HLT.out.2 id).trans SA.out.2⟩
        have HO5 := Lib.hid ho5
        have HR5 : Hid (∀ k, (Value.slice (some ⟨g5, 0, none⟩) nq cap5).ownBlock = some k → w3.heap.size ≤ k ∧ k < w5.heap.size) := fun k hk => by
          obtain ⟨h1, h2⟩ := hb5 k hk
          refine ⟨?_, h2⟩
          rcases h1 with h1 | h1
          · exact (HR1.out k h1).1
          · omega
        refine hK _ _ S5.out ?_
        clear hK K hr5 ho5 hc5 hb5 hs4 HC4 HO1 HR1 HB
        iterate 2 (apply wpT_go; (focus rfl); (focus rfl); (focus exact S5.out); (focus (rintro Q ⟨s0, s1⟩; go_simp; exact rfl)); intro K hK; go_simp; refine hK _ ?_; clear hK K)
        have HM5 := Lib.hid (HM3.out.ch HC5.out (fun _ _ h => h))
        have HW5 : Hid (∃ D5, RM w5 D5 X vl (.slice (some ⟨gw, 0, none⟩) LW cw) M W2 ∧ (∀ k, D1 k → D5 k) ∧ (∀ k, (Value.slice (some ⟨g5, 0, none⟩) nq cap5).ownBlock = some k → D5 k) ∧ ∀ k, D5 k → D1 k ∨ (w3.heap.size ≤ k ∧ k < w5.heap.size)) := ⟨fun k => D1 k ∨ (Value.slice (some ⟨g5, 0, none⟩) nq cap5).ownBlock = some k, HM5.out.widen (fun k h => .inl h) (fun k hk => hk.elim (HM5.out.fin k) (fun h => (HR5.out k h).2)), (fun k h => .inl h), (fun k h => .inr h), fun k hk => hk.imp id (HR5.out k)⟩
        obtain ⟨D5, h5, k5, r5, f5⟩ := HW5.out
        have hm6 := h5.sQu HEV.out HX.out ⟨OI.qv HO5.out, r5⟩
        have k6 := S5.out.2
        obtain ⟨_, _, e9, _, _, _, _, _, _, _, _, _, _, _, fr5⟩ := h5.gl HX.out
        rw [HEV.out] at e9
        obtain ⟨e9, _, _⟩ := sl_inj e9
        subst e9
        have f6 := fr5 (i * 7 + 6)
        have HM6 := Lib.hid hm6
        have HC6 : Hid (Ch D1 w3 (w5.setCell ⟨g, i * 7 + 6, none⟩ (.slice (some ⟨g5, 0, none⟩) nq cap5))) := (HC5.out.mono (fun _ h _ => h.elim)).trans (HM5.out.chL HEV.out _)
        have HD6 : Hid (∀ k, D5 k → D1 k ∨ (w3.heap.size ≤ k ∧ k < w5.heap.size)) := f5
        apply wpT_two
        focus rfl
        intro K hK
        go_simp
        refine hK _ _ ?_
        clear hK K k6 f6 fr5 h5 k5 r5 f5 hm6 S5 HM5 HW5 HO5 HR5 HC5
        refine wpT_done ?_
        obtain ⟨gw', cw', ew, _, _, _, _, _, t1, _, _, _, _⟩ := HM6.out.gt HY2.out
        rw [HYS.out] at t1
        obtain ⟨e1, _, e3⟩ := sl_inj ew
        subst e1 e3
        have hs5 : w5.heap.size = (w5.setCell ⟨g, i * 7 + 6, none⟩ (.slice (some ⟨g5, 0, none⟩) nq cap5)).heap.size := by simp
        rw [hs5] at HD6
        clear hs5 ew
        generalize w5.setCell ⟨g, i * 7 + 6, none⟩ (.slice (some ⟨g5, 0, none⟩) nq cap5) = w6 at *
        go_wp2_with fail
        go_ret
        rw [HWT.out]
        have hro : RO (M.set i { x with v := .slice (some ⟨g5, 0, none⟩) nq cap5, q := x.q ++ [t] }) s' := HO.out.set HX.out rfl HODX.out (HSO.out _)
        have hs3 := HCA'.out.size
        exact ⟨rfl, D5, RK.mk' HM6.out (by rw [List.length_set]; have := HN.out.1; omega) (by rw [HLW2.out]; have := HN.out.2; omega) hro HRH.out, HCA'.out.andThen HC6.out (fun k hk hk2 => by
          rcases HDA.out k hk with h | h
          · exact h
          · have := HDS.out; omega), fun k hk => by
          rcases HD6.out k hk with h | ⟨h1, h2⟩
          · rcases HDA.out k h with h | ⟨h1, h2⟩
            · exact .inl h
            · exact .inr ⟨h1, by have := HC6.out.size; have := HDS.out; omega⟩
          · exact .inr ⟨by omega, h2⟩⟩
end
end Go.Proofs.Ytefgfmnnaglfmaa
namespace Go.Proofs.Ytefgfmnnaglfmaa
open Go.RowKit
section
variable {w w1 w' : World} {D D1 : Nat → Prop} {X n : Nat} {s : LK}
theorem RP.after (hc : Ch D w w1) (hD : ∀ k, D1 k → D k ∨ (w.heap.size ≤ k ∧ k < w1.heap.size)) (h : RP w1 D1 X n s w') : RP w D X n s w' := by
  obtain ⟨D2, h1, h2, h3⟩ := h
  have hs := hc.size
  have hs2 := h2.size
  refine ⟨D2, h1, hc.andThen h2 (fun k hk hk2 => ?_), fun k hk => ?_⟩
  · rcases hD k hk with h | h
    · exact h
    · omega
  · rcases h3 k hk with h | ⟨h, h'⟩
    · rcases hD k h with h | ⟨h, h'⟩
      · exact .inl h
      · exact .inr ⟨h, by omega⟩
    · exact .inr ⟨by omega, h'⟩
set_option maxRecDepth 100000 in
set_option maxHeartbeats 4000000 in
theorem rwait_any (h : RK w D X n s) (hI : SI s) (hn : n ≤ 80000) (t id now tm : Int) (hnow : 0 ≤ now ∧ now ≤ 18446744073709551615) (htm : 0 ≤ tm ∧ tm ≤ 18446744073709551615) (hql : ∀ x, s.o id = some x → x.q.length ≤ 1000) :
    Calls Try.prog 45 #[ptr X, .int .i64 t, .int .i64 id, .int .u64 now, .int .u64 tm] w fun e w' => e = .returned (.tuple #[.int .i64 (wtS s t id now tm).1, .int .i64 (wtS s t id now tm).2.1]) ∧ RP w D X (n + 2) (wtS s t id now tm).2.2 w' := by
  have HI := Lib.hid hI
  have HQL := Lib.hid hql
  clear hI hql
  have P0 := Lib.hid (RP.same h (show n ≤ n + 2 by omega))
  obtain ⟨vl, vw, M, W, h1, h2, h3, h4, h5⟩ := h
  have HF := Lib.hid (rfind_any h1 (by omega) id)
  have H := Lib.hid h1
  have HO := Lib.hid h4
  have HH := Lib.hid h5
  have HN : Hid (M.length ≤ n ∧ W.length ≤ n) := ⟨h2, h3⟩
  have c0 := h1.c0
  obtain ⟨al, cap, e, hc1, hc2⟩ := h1.fl
  obtain ⟨L, hL⟩ : ∃ L, M.length = L := ⟨_, rfl⟩
  rw [hL] at h2 hc1 e
  rw [e] at c0
  have HE := Lib.hid e
  have HL := Lib.hid hL
  unfold maxLen at hc2
  clear h1 h4 h5 h3 e hL
  go_enter Try.func45, Try.ntmps45
  go_wp2_with fail
  refine HF.out.mono ?_
  rintro e w' ⟨rfl, ⟨i, x, hx, he, rfl⟩ | ⟨rfl, hno⟩⟩
  · obtain ⟨g, cp, e, _, _, hgl, hgD, d0, d1, d2, d3, d4, d5, d6, fr⟩ := H.out.gl hx
    rw [HE.out, HL.out] at e
    injection e with e1 e2 e3
    subst e1 e3
    have hil : i < L := by rw [← HL.out]; exact (List.getElem?_eq_some_iff.1 hx).1
    have hod := HO.out.od hx
    have HS : Hid (s.o id = some x.ob) := by show _ = _; rw [← he]; exact HO.out.at hx
    have hi0 : ¬ (i : Int) < 0 := by omega
    have HX := Lib.hid hx
    have HID := Lib.hid he
    have HEV : Hid (vl = .slice (some ⟨g, 0, none⟩) M.length cap) := by show _ = _; rw [HE.out, HL.out]
    obtain ⟨mx, hmx⟩ : ∃ b, x.mx = b := ⟨_, rfl⟩
    rw [hmx] at d1
    have HMX : Hid (x.mx = mx) := hmx
    have HOD : Hid (x.od = (mx && decide (0 < x.ct))) := by show _ = _; rw [hod, hmx]
    have HQX : Hid (x.q.length ≤ 1000) := HQL.out x.ob HS.out
    have HTH := Lib.hid (rthread_any H.out (by have := HN.out.2; omega) t)
    clear hx he HF hod hmx fr
    cases mx
    · have HWT : Hid (wtS s t id now tm = if stat s t = 2 then (0, 9, s) else if 0 < x.ct then (1, 0, (s.setO id (some { x.ob with ct := x.ct - 1 })).upT t fun t => { t with st := 1 }) else ((waitS s t id now tm).1, 0, (waitS s t id now tm).2)) := by
        show _ = _
        unfold wtS
        rw [HS.out]
        exact if_neg (by rw [show x.ob.mx = false from HMX.out]; simp)
      go_wp2_with fail
      refine HTH.out.mono ?_
      rintro e w1 ⟨gw, cw, iw, y, D1, rfl, hy, hya, hm1, hc1, hD1⟩
      obtain ⟨gw', cw', ew, hcw1, hcw2, hgwl, hDgw, t0, t1, t2, t3, t4, frw⟩ := hm1.gt hy
      obtain ⟨e1, _, e3⟩ := sl_inj ew
      subst e1 e3
      have ft1 := frw (iw * 5 + 1)
      obtain ⟨LW, hLW⟩ : ∃ n, (thrW W t).length = n := ⟨_, rfl⟩
      have hlw : LW ≤ W.length + 1 := by rw [← hLW]; exact thr_len W t
      rw [hLW] at hm1 hcw1
      have HLW : Hid ((thrW W t).length = LW) := hLW
      have HEW : Hid ((Value.slice (some ⟨gw, 0, none⟩) LW cw) = .slice (some ⟨gw, 0, none⟩) (thrW W t).length cw) := by show _ = _; rw [hLW]
      have HD1 : Hid (∀ k, D1 k → D k ∨ (w.heap.size ≤ k ∧ k < w1.heap.size)) := hD1
      have HC1 := Lib.hid hc1
      have HM1 := Lib.hid hm1
      have HY : Hid ((thrW W t)[iw]? = some y ∧ y.th = t) := ⟨hy, hya⟩
      have HRT : Hid (RH (thrW W t) s) := HH.out.thr t
      have HYT : Hid (y.st = stat s t) := by show _ = _; rw [(HRT.out.is y (List.mem_of_getElem? hy)).1, hya]
      have HCT : Hid (∀ w2, Ch D1 w1 w2 → Ch D w w2) := fun w2 c => HC1.out.andThen c (fun k hk hk2 => by
        rcases HD1.out k hk with h | h
        · exact h
        · omega)
      have HNW : Hid (M.length ≤ n + 1 ∧ LW ≤ n + 1) := ⟨by have := HN.out.1; omega, by have := HN.out.2; omega⟩
      clear ew frw hm1 hc1 hD1 hy hya HTH hLW
      obtain ⟨st, hst⟩ : ∃ z, y.st = z := ⟨_, rfl⟩
      rw [hst] at t1
      have HST : Hid (stat s t = st) := by show _ = _; rw [← HYT.out, hst]
      rw [HST.out] at HWT
      clear hst
      by_cases h2 : st = 2
      · subst h2
        rw [if_pos rfl] at HWT
        clear d0 d1 d2 d3 d4 d5 d6 c0 t0 t2 t3 t4 ft1
        go_wp2_with fail
        go_ret2
        rw [HWT.out]
        exact ⟨rfl, D1, RK.mk' HM1.out (by have := HN.out.1; omega) (by rw [HLW.out]; have := HNW.out.2; omega) HO.out HRT.out, HC1.out, HD1.out⟩
      · rw [if_neg h2] at HWT
        have h2b : (st == 2) = false := by simpa using h2
        clear d0 d1 d2 d3 d4 d5 d6 c0
        obtain ⟨g', cp', e, _, _, hgl1, _, d0, d1, d2, d3, d4, d5, d6, fr⟩ := HM1.out.gl HX.out
        rw [HEV.out] at e
        obtain ⟨e1, _, e3⟩ := sl_inj e
        subst e1 e3
        have c0 := HM1.out.c0
        rw [HEV.out, HL.out] at c0
        clear e
        have hct : 0 ≤ x.ct ∧ x.ct ≤ 255 := HI.out.ct id x.ob HS.out
        by_cases hc : 0 < x.ct
        · have hc2 : x.ct > 0 := hc
          rw [if_pos hc] at HWT
          have hcw : IntKind.i64.wrap (x.ct - 1) = x.ct - 1 := IntWalk.i64_in _ ⟨by omega, by omega⟩
          have f5 := fr (i * 7 + 5)
          have HM2 := Lib.hid (HM1.out.sCt HEV.out HX.out (x.ct - 1))
          have HC2 := Lib.hid (HM1.out.chL HEV.out (i := i * 7 + 5) (.int .i64 (x.ct - 1)))
          clear fr t0 t2 t3 t4 ft1
          go_upto_region 9 with fail
          clear t1
          have hs2 : w1.heap.size = (w1.setCell ⟨g, i * 7 + 5, none⟩ (.int .i64 (x.ct - 1))).heap.size := by simp
          rw [hs2] at HD1
          clear hs2
          generalize w1.setCell ⟨g, i * 7 + 5, none⟩ (.int .i64 (x.ct - 1)) = w2 at *
          obtain ⟨gx, cx, ew, _, _, _, _, t0, t1, t2, t3, t4, frw⟩ := HM2.out.gt HY.out.1
          obtain ⟨e1, _, e3⟩ := sl_inj ew
          subst e1 e3
          have ft1 := frw (iw * 5 + 1)
          have HM3 := Lib.hid (HM2.out.tSt HEW.out HY.out.1 1)
          have HC3 := Lib.hid (HC2.out.trans (HM2.out.chT rfl (i := iw * 5 + 1) (.int .i64 1)))
          have hs2 : w2.heap.size = (w2.setCell ⟨gw, iw * 5 + 1, none⟩ (.int .i64 1)).heap.size := by simp
          rw [hs2] at HD1
          clear ew frw t0 t2 t3 t4 c0 d0 d1 d2 d3 d4 d5 d6 f5 hs2
          go_upto_region 10 with fail
          generalize w2.setCell ⟨gw, iw * 5 + 1, none⟩ (.int .i64 1) = w3 at *
          obtain ⟨gx, cx, ew, _, _, _, _, _, t1, _, _, _, _⟩ := HM3.out.gt (at_set HY.out.1)
          obtain ⟨e1, _, e3⟩ := sl_inj ew
          subst e1 e3
          clear ew ft1
          go_wp2_with fail
          go_ret2
          rw [HWT.out]
          have hro : RO (M.set i { x with ct := x.ct - 1 }) ((s.setO id (some { x.ob with ct := x.ct - 1 })).upT t fun t => { t with st := 1 }) := HO.out.set HX.out rfl (by show x.od = (x.mx && _); rw [HOD.out, HMX.out]; rfl) (by rw [HID.out]; rfl)
          have hrh : RH ((thrW W t).set iw { y with st := 1 }) ((s.setO id (some { x.ob with ct := x.ct - 1 })).upT t fun t => { t with st := 1 }) := by
            refine (HRT.out.setO id (some { x.ob with ct := x.ct - 1 })).set HY.out.1 rfl ?_ ?_ (fun h => by cases h)
            · intro j hj
              rw [stT_upT, if_neg (by rw [← HY.out.2]; exact hj)]
            · rw [stT_upT, if_pos HY.out.2]
          exact ⟨rfl, D1, RK.mk' HM3.out (by rw [List.length_set]; have := HN.out.1; omega) (by rw [List.length_set, HLW.out]; have := HNW.out.2; omega) hro hrh, HCT.out _ HC3.out, HD1.out⟩
        · have hc2 : ¬ x.ct > 0 := hc
          rw [if_neg hc] at HWT
          have HEQ := Lib.hid (renqueue_any HM1.out HNW.out.1 (by rw [HLW.out]; exact HNW.out.2) (by omega) HX.out HO.out HRT.out HQX.out t now tm hnow htm)
          rw [HID.out] at HEQ
          clear fr t0 t2 t3 t4 ft1
          go_wp2_with fail
          refine HEQ.out.mono ?_
          rintro e w5 ⟨rfl, h5⟩
          have HP5 := Lib.hid (RP.after HC1.out HD1.out h5)
          clear h5 HEQ
          go_wp2_with fail
          go_ret2
          rw [HWT.out]
          exact ⟨rfl, HP5.out⟩
    · go_wp2_with fail
      go_ret2
      have hE : wtS s t id now tm = (0, 6, s) := by
        unfold wtS
        rw [HS.out]
        exact if_pos (show x.mx = true from HMX.out)
      rw [hE]
      exact ⟨rfl, P0.out⟩
  · have HS : Hid (s.o id = none) := HO.out.no hno
    clear hno HF
    go_wp2_with fail
    go_ret2
    have hE : wtS s t id now tm = (0, 6, s) := by unfold wtS; rw [HS.out]
    rw [hE]
    exact ⟨rfl, P0.out⟩
end
end Go.Proofs.Ytefgfmnnaglfmaa
