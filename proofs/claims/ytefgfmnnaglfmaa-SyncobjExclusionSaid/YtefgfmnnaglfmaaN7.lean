/- The reference's Expire; order of levels. Conditions: those that each theorem names. -/
import Derived.Deep.CutBlock
import Derived.Test.YtefgfmnnaglfmaaN6
namespace Go.Proofs.Ytefgfmnnaglfmaa
open Go.RowKit
theorem stop_T (s : LK) (i a j : Int) : stT (stopS s i a) j = if j = i then { stT s i with st := a } else stT s j := by
  unfold stopS
  rw [stT_upT, stT_upO, stT_upO]
theorem exp_T : ∀ (E : List Int) (s : LK) (t : Int), stT (expS s E) t = if t ∈ E then { stT s t with st := 3 } else stT s t
  | [], s, t => by simp [expS]
  | a :: r, s, t => by
    show stT (expS (stopS s a 3) r) t = _
    rw [exp_T r, stop_T]
    by_cases e : t = a
    · subst e
      rw [if_pos rfl, if_pos (List.mem_cons_self)]
      split <;> rfl
    · have : t ∈ a :: r ↔ t ∈ r := by simp [e]
      simp only [this, if_neg e]
theorem exp_si : ∀ (E : List Int) (s : LK), SI s → E.Nodup → (∀ e ∈ E, (stT s e).st = 2) → SI (expS s E) ∧ (expS s E).o = fun j => (s.o j).map fun x => { x with q := x.q.filter fun a => !E.contains a }
  | [], s, h, _, _ => ⟨h, by
    funext j
    show s.o j = _
    rcases s.o j with _ | x
    · rfl
    · show some x = some (Ob.mk x.mx x.lv x.ow x.ct (x.q.filter _))
      rw [List.filter_eq_self.2 (fun _ _ => by simp)]⟩
  | a :: r, s, h, hn, hw => by
    have hn' := List.nodup_cons.1 hn
    have ha := hw a (List.mem_cons_self)
    have hs := h.stop ha (a := 3) (by omega)
    obtain ⟨h1, h2⟩ := exp_si r (stopS s a 3) hs hn'.2 (fun e he => by
      rw [stop_T, if_neg (fun e2 => hn'.1 (by rw [← e2]; exact he))]; exact hw e (List.mem_cons_of_mem _ he))
    refine ⟨h1, ?_⟩
    show (expS (stopS s a 3) r).o = _
    rw [h2, leave_stop h ha 3]
    funext j
    show ((s.o j).map _).map _ = _
    rcases s.o j with _ | x
    · rfl
    · show some (Ob.mk x.mx x.lv x.ow x.ct ((x.q.filter _).filter _)) = some (Ob.mk x.mx x.lv x.ow x.ct (x.q.filter _))
      rw [List.filter_filter]
      congr 2
      apply List.filter_congr
      intro b _
      rw [List.contains_cons]
      cases hb : (b == a) <;> cases hr : r.contains b <;> simp_all
theorem exp_same {s : LK} {E E' : List Int} (h : SI s) (h1 : E.Nodup) (h2 : E'.Nodup) (hw : ∀ e ∈ E, (stT s e).st = 2) (hm : ∀ e, e ∈ E ↔ e ∈ E') : (expS s E').o = (expS s E).o ∧ ∀ t, stT (expS s E') t = stT (expS s E) t := by
  have hc : ∀ a, E.contains a = E'.contains a := fun a => by
    apply Bool.eq_iff_iff.2
    rw [List.contains_iff_mem, List.contains_iff_mem]; exact hm a
  refine ⟨?_, fun t => ?_⟩
  · rw [(exp_si E s h h1 hw).2, (exp_si E' s h h2 (fun e he => hw e ((hm e).2 he))).2]
    funext j
    simp only [hc]
  · rw [exp_T, exp_T]
    by_cases e : t ∈ E
    · rw [if_pos e, if_pos ((hm t).1 e)]
    · rw [if_neg e, if_neg (fun h => e ((hm t).2 h))]
theorem exB_T (s : LK) (now i : Int) : exB s now i = (decide ((stT s i).st = 2) && (!(stT s i).en && decide ((stT s i).dl ≤ now))) := by
  unfold exB stT
  rcases s.t i with _ | t
  · rfl
  · rfl
/-- The loop over the reference's threads under way. -/
structure EX (w wr : World) (D : Nat → Prop) (X : Nat) (vl vw : Value) (M : List RL) (W : List RT) (s : LK) (now : Int) (i : Nat) (vo : Value) (E out : List Int) (Dr : Nat → Prop) (Mr : List RL) (Wr : List RT) : Prop where
  rm : RM wr Dr X vl vw Mr Wr
  ml : Mr.length = M.length
  ro : RO Mr (expS s E)
  rh : RH Wr (expS s E)
  wl : Wr.length = W.length
  wt : ∀ (j : Nat) (x : RT), W[j]? = some x → ∃ y : RT, Wr[j]? = some y ∧ y.th = x.th
  nd : E.Nodup
  em : ∀ e, e ∈ E ↔ ∃ x ∈ W.take i, x.th = e ∧ exB s now e = true
  oi : OI wr vo out
  ol : out.length ≤ i
  os : out.Pairwise (· < ·)
  om : ∀ e, e ∈ out ↔ e ∈ E
  ob : ∀ g, vo.ownBlock = some g → ¬ Dr g
  ch : Ch D w wr
  dr : ∀ k, Dr k → D k ∨ (w.heap.size ≤ k ∧ k < wr.heap.size)
theorem EX.wait {w wr : World} {D : Nat → Prop} {X : Nat} {vl vw : Value} {M : List RL} {W : List RT} {s : LK} {now : Int} {i : Nat} {vo : Value} {E out : List Int} {Dr : Nat → Prop} {Mr : List RL} {Wr : List RT} (h : EX w wr D X vl vw M W s now i vo E out Dr Mr Wr) : ∀ e ∈ E, (stT s e).st = 2 := fun e he => by
  obtain ⟨x, _, _, h1⟩ := (h.em e).1 he
  rw [exB_T, Bool.and_eq_true] at h1
  exact of_decide_eq_true h1.1
section
variable {w w1 w' : World} {D D1 : Nat → Prop} {X n : Nat} {s : LK} {vl vw : Value} {M : List RL} {W : List RT}
set_option maxRecDepth 100000 in
set_option maxHeartbeats 8000000 in
theorem rexpire_any (h : RK w D X n s) (hI : SI s) (hn : n ≤ 1000) (now : Int) :
    Calls Try.prog 48 #[ptr X, .int .u64 now] w fun e w' => ∃ v, e = .returned v ∧ ∃ E, E.Pairwise (· < ·) ∧ (∀ i, i ∈ E ↔ exB s now i = true) ∧ OI w' v E ∧ RP w D X n (expS s E) w' := by
  obtain ⟨vl, vw, M, W, h1, h2, h3, h4, h5⟩ := h
  have HI := Lib.hid hI
  have HH := Lib.hid h5
  have c1 := h1.c1
  obtain ⟨al, cap, e, hc1, hc2⟩ := h1.fw
  obtain ⟨L, hL⟩ : ∃ L, W.length = L := ⟨_, rfl⟩
  rw [hL] at h3 hc1 e
  rw [e] at c1
  have HE := Lib.hid e
  have HL := Lib.hid hL
  have HML := Lib.hid h2
  unfold maxLen at hc2
  have HEX : Hid (∃ E out Dr Mr Wr, EX w w D X vl vw M W s now 0 (.slice none 0 0) E out Dr Mr Wr) := ⟨[], [], D, M, W, h1, rfl, h4, h5, rfl, fun j x hx => ⟨x, hx, rfl⟩, List.nodup_nil, fun e => by simp, OI.nil w, Nat.le_refl _, List.Pairwise.nil, fun e => by simp, (fun g hg => by cases hg), Ch.refl _ _, fun k hk => .inl hk⟩
  clear h1 h4 h5 h2 e hL hI
  go_enter Try.func48, Try.ntmps48
  go_wp2_with fail
  go_loopw [5, 6] (fun v z wr => ∃ (i : Nat) (vo : Value), i ≤ L ∧ vo = v ∧ z = .int .i64 (i : Int) ∧ Hid (∃ E out Dr Mr Wr, EX w wr D X vl vw M W s now i vo E out Dr Mr Wr)) (fun _ z _ => L - (intOf z).toNat)
  case atStart => exact ⟨0, _, by omega, rfl, rfl, HEX⟩
  case round =>
    clear HEX c1
    obtain ⟨i, vo, hi, hvo, rfl, HEX⟩ := hrel
    subst hvo
    obtain ⟨E, out, Dr, Mr, Wr, hx⟩ := HEX.out
    have c1 := hx.rm.c1
    rw [HE.out] at c1
    by_cases hlt : i < L
    · have y0 : (i : Int) < L := by omega
      obtain ⟨x, hxi⟩ : ∃ x, W[i]? = some x := ⟨_, List.getElem?_eq_getElem (by rw [HL.out]; exact hlt)⟩
      obtain ⟨y, hy, hyt⟩ := hx.wt i x hxi
      obtain ⟨gw, cp, e, _, _, hgl, hgD, t0, t1, t2, t3, t4, fr⟩ := hx.rm.gt hy
      rw [HE.out, hx.wl, HL.out] at e
      have e1 : al = some ⟨gw, 0, none⟩ := by injection e
      subst e1
      have HEW : Hid (vw = .slice (some ⟨gw, 0, none⟩) Wr.length cap) := by show _ = _; rw [HE.out, hx.wl, HL.out]
      have hT : ∀ p : RT → Prop, (∃ z ∈ W.take (i + 1), p z) ↔ (∃ z ∈ W.take i, p z) ∨ p x := fun p => by
        obtain ⟨hil, hxe⟩ := List.getElem?_eq_some_iff.1 hxi
        rw [List.take_succ_eq_append_getElem hil, hxe]
        constructor
        · rintro ⟨z, hz, hp⟩
          rcases List.mem_append.1 hz with hz | hz
          · exact .inl ⟨z, hz, hp⟩
          · rw [List.mem_singleton.1 hz] at hp; exact .inr hp
        · rintro (⟨z, hz, hp⟩ | hp)
          · exact ⟨z, List.mem_append_left _ hz, hp⟩
          · exact ⟨x, by simp, hp⟩
      have hnE : x.th ∉ E := fun hmem => by
        obtain ⟨z, hz, h1, _⟩ := (hx.em x.th).1 hmem
        obtain ⟨j, hj⟩ := List.mem_iff_getElem?.1 hz
        rw [List.getElem?_take] at hj
        split at hj
        · have := nodup_at (f := (·.th)) HH.out.nd hj hxi h1; omega
        · cases hj
      have hTx : stT (expS s E) x.th = stT s x.th := by rw [exp_T, if_neg hnE]
      have hyi := hx.rh.is y (List.mem_of_getElem? hy)
      rw [hyt, stat_eq, hTx] at hyi
      have hcond : exB s now x.th = (decide (y.st = 2) && (y.li && decide (y.dl ≤ now))) := by
        rw [exB_T, ← hyi.1]
        by_cases h9 : y.st = 2
        · rw [(hyi.2 h9).1, (hyi.2 h9).2, Bool.not_not]
        · rw [decide_eq_false h9]; rfl
      obtain ⟨yt, hyt'⟩ : ∃ z, x.th = z := ⟨_, rfl⟩
      rw [hyt'] at hyt hnE hTx hcond
      have HEX2 : Hid (exB s now yt = false → ∃ E out Dr Mr Wr, EX w wr D X vl vw M W s now (i + 1) vo E out Dr Mr Wr) := fun hb => ⟨E, out, Dr, Mr, Wr, { hx with
        em := fun e => by
          rw [hT, hx.em e]
          constructor
          · exact .inl
          · rintro (h | ⟨h, h9⟩)
            · exact h
            · rw [← h, hyt', hb] at h9; cases h9
        ol := by have := hx.ol; omega }⟩
      have HW : Hid (EX w wr D X vl vw M W s now i vo E out Dr Mr Wr ∧ Wr[i]? = some y ∧ y.th = yt ∧ yt ∉ E ∧ stT (expS s E) yt = stT s yt ∧ ∀ p : RT → Prop, (∃ z ∈ W.take (i + 1), p z) ↔ (∃ z ∈ W.take i, p z) ∨ p x) := ⟨hx, hy, hyt, hnE, hTx, hT⟩
      have HXT : Hid (x.th = yt) := hyt'
      rw [hyt] at t0
      obtain ⟨st, hst⟩ : ∃ z, y.st = z := ⟨_, rfl⟩
      obtain ⟨li, hli⟩ : ∃ z, y.li = z := ⟨_, rfl⟩
      obtain ⟨dl, hdl⟩ : ∃ z, y.dl = z := ⟨_, rfl⟩
      rw [hst] at t1
      rw [hli] at t3
      rw [hdl] at t4
      rw [hst, hli, hdl] at hcond
      have HCO := Lib.hid hcond
      have ft1 := fr (i * 5 + 1)
      clear hx hxi hy hyt hyt' hT hnE hTx hyi hcond hst hli hdl e fr HEX
      by_cases h2 : st = 2
      · subst h2
        cases li
        · have HE3 := Lib.hid (HEX2.out (by rw [HCO.out]; rfl))
          clear HEX2 HW HCO
          go_wp2_with fail
          go_roundw
          case rel => exact ⟨i + 1, vo, by omega, rfl, by go_num, HE3⟩
          case measure => simp [intOf]; omega
        · by_cases h3 : dl ≤ now
          · have HYES : Hid (exB s now yt = true) := by show _ = _; rw [HCO.out, decide_eq_true h3]; rfl
            have hsi := (exp_si E s HI.out HW.out.1.nd HW.out.1.wait).1
            have hw2 : (stT (expS s E) yt).st = 2 := by
              rw [HW.out.2.2.2.2.1]
              have := HYES.out
              rw [exB_T, Bool.and_eq_true] at this
              exact of_decide_eq_true this.1
            have hro := HW.out.1.ro
            have HM2 := Lib.hid (HW.out.1.rm.tSt HEW.out HW.out.2.1 3)
            have HC2 : Hid (Ch Dr wr (wr.setCell ⟨gw, i * 5 + 1, none⟩ (.int .i64 3))) := HW.out.1.rm.chT HEW.out _
            have HLV := Lib.hid (rleave_any HM2.out (by rw [HW.out.1.ml]; have := HML.out; omega) (fun z hz => by
              have h9 := (hro.is z hz).1
              have := hsi.ql h9
              have h8 : z.q.length ≤ 4 := this
              omega) yt)
            have HSI : Hid (SI (expS s E) ∧ (stT (expS s E) yt).st = 2) := ⟨hsi, hw2⟩
            have t0' := (HM2.out.gt (at_set HW.out.2.1))
            clear hsi hw2 hro
            go_upto_region 8 with fail
            clear t0 t1 t2 t3 t4 ft1
            have hs2 : (wr.setCell ⟨gw, i * 5 + 1, none⟩ (.int .i64 3)).heap.size = wr.heap.size := by simp
            have HS2 := Lib.hid hs2
            clear hs2
            generalize wr.setCell ⟨gw, i * 5 + 1, none⟩ (.int .i64 3) = w2 at *
            obtain ⟨gx, cx, e, _, _, _, _, t0, _, _, _, _, _⟩ := t0'
            have e1 : gw = gx := by
              rw [HEW.out] at e
              injection e with h1; injection h1 with h1; injection h1
            subst e1
            rw [show ({ y with st := 3 } : RT).th = yt from HW.out.2.2.1] at t0
            clear e
            go_wp2_with fail
            refine HLV.out.mono ?_
            rintro e wz ⟨rfl, D3, M3, hm3, hlv3, hc3, hd3⟩
            have hxo := HW.out.1
            have hcw : Ch D w wz := hxo.ch.andThen (HC2.out.trans hc3) (fun k hk hk2 => by
              rcases hxo.dr k hk with h | h
              · exact h
              · omega)
            have hlt' : ∀ k, Dr k → k < wr.heap.size := hxo.rm.fin
            have hsz3 : wr.heap.size ≤ wz.heap.size := (HC2.out.trans hc3).size
            have hd3' : ∀ k, D3 k → Dr k ∨ (wr.heap.size ≤ k ∧ k < wz.heap.size) := fun k hk => (hd3 k hk).imp (fun h => h) (fun h => ⟨by have := HS2.out; omega, h.2⟩)
            have hoi3 : OI wz vo out := hxo.oi.ch (HC2.out.trans hc3) (fun b hb => hxo.ob b hb)
            have hsize := hxo.ch.size
            have HNX : Hid (∀ (w6 : World) (v6 : Value) (out6 : List Int), Below wz.heap.size wz w6 → OI w6 v6 out6 → (∀ g, v6.ownBlock = some g → wz.heap.size ≤ g) → out6.length ≤ i + 1 → out6.Pairwise (· < ·) → (∀ e, e ∈ out6 ↔ e ∈ out ∨ e = yt) → ∃ E out Dr Mr Wr, EX w w6 D X vl vw M W s now (i + 1) v6 E out Dr Mr Wr) := fun w6 v6 out6 hb6 ho6 hg6 hl6 hp6 hm6 => by
              have hexp : expS s (E ++ [yt]) = stopS (expS s E) yt 3 := by unfold expS; rw [List.foldl_append]; rfl
              have hlv4 : LV Mr M3 yt Mr.length := hlv3
              refine ⟨E ++ [yt], out6, D3, M3, Wr.set i { y with st := 3 }, hm3.below hb6, by rw [hlv4.1]; exact hxo.ml, ?_, ?_, by rw [List.length_set]; exact hxo.wl, fun j z hz => ?_, ?_, fun e => ?_, ho6, hl6, hp6, fun e => ?_, fun g hg hD => ?_, hcw.trans (Ch.of_below hb6 _), fun k hk => ?_⟩
              · rw [hexp]
                exact (hlv4.ro hxo.ro).congr (leave_stop HSI.out.1 HSI.out.2 3)
              · rw [hexp]
                refine hxo.rh.set HW.out.2.1 rfl (fun t ht => ?_) ?_ (fun h => by cases h)
                · rw [stop_T, if_neg (by rw [← HW.out.2.2.1]; exact ht)]
                · rw [stop_T, if_pos HW.out.2.2.1]
              · obtain ⟨z', hz', he⟩ := hxo.wt j z hz
                by_cases e : j = i
                · subst e
                  rw [HW.out.2.1] at hz'
                  injection hz' with hz'
                  subst hz'
                  exact ⟨_, at_set HW.out.2.1, he⟩
                · exact ⟨z', by rw [List.getElem?_set, if_neg (fun h => e h.symm)]; exact hz', he⟩
              · rw [List.nodup_append]
                exact ⟨hxo.nd, by simp, fun a ha b hb e => HW.out.2.2.2.1 (by rw [List.mem_singleton.1 hb] at e; rw [← e]; exact ha)⟩
              · rw [HW.out.2.2.2.2.2, List.mem_append, List.mem_singleton, hxo.em e]
                constructor
                · rintro (h | h)
                  · exact .inl h
                  · exact .inr ⟨by rw [HXT.out, h], by rw [h]; exact HYES.out⟩
                · rintro (h | ⟨h, _⟩)
                  · exact .inl h
                  · exact .inr (by rw [← h, HXT.out])
              · rw [hm6 e, hxo.om e, List.mem_append, List.mem_singleton]
              · have h1 := hg6 g hg
                have h2 := hm3.fin g hD
                omega
              · rcases hd3' k hk with h | h
                · exact (hxo.dr k h).imp (fun h => h) (fun h => ⟨h.1, by have := hb6.size; omega⟩)
                · exact .inr ⟨by omega, by have := hb6.size; omega⟩
            have hny : yt ∉ out := fun h => HW.out.2.2.2.1 ((hxo.om yt).1 h)
            have hol := hxo.ol
            have HS0 : Hid (wz.cell? ⟨gw, i * 5, none⟩ = some (.int .i64 yt)) := by
              obtain ⟨g9, c9, e, _, _, _, _, t9, _⟩ := hm3.gt (at_set HW.out.2.1)
              have e1 : gw = g9 := by
                rw [HEW.out] at e
                injection e with h1; injection h1 with h1; injection h1
              subst e1
              rw [show ({ y with st := 3 } : RT).th = yt from HW.out.2.2.1] at t9
              exact t9
            have hgl3 : gw < wz.heap.size := by omega
            obtain ⟨ra, rc, erf, hrc, hrc2, hrx⟩ := own_form hoi3
            obtain ⟨rn, hrn⟩ : ∃ m, out.length = m := ⟨_, rfl⟩
            rw [hrn] at erf hrc hrx hol
            have HRN := Lib.hid hrn
            subst erf
            have HC : Hid (0 < rn → ∃ g, ra = some ⟨g, 0, none⟩ ∧ g < wz.heap.size ∧ ∀ j, j < rn → wz.cell? ⟨g, j, none⟩ = some (.int .i64 (out.getD j 0))) := fun h9 => by
              obtain ⟨g9, e9, h10, h11, _⟩ := hrx h9
              refine ⟨g9, e9, h10, fun j hj => h11 j _ ?_⟩
              rw [List.getElem?_map, List.getD_eq_getElem?_getD, List.getElem?_eq_getElem (by omega)]; rfl
            have HOO : Hid (OI wz (.slice ra rn rc) out ∧ out.Pairwise (· < ·) ∧ yt ∉ out) := ⟨hoi3, hxo.os, hny⟩
            unfold maxLen at hrc2
            clear hm3 hlv3 hc3 hd3 hxo hcw hlt' hsz3 hd3' hoi3 hsize hny hrn hrx HW HEX2 HCO HLV HSI HM2 HC2 HS2 t0 hgl hgD
            have hgl := hgl3
            clear hgl3
            go_upto_block 2 with fail
            go_cut [8] (fun xk wx => ∃ k : Nat, k ≤ rn ∧ xk = .int .i64 (k : Int) ∧ Hid (∀ j, j < k → out.getD j 0 < yt) ∧ Hid (k = rn ∨ yt ≤ out.getD k 0) ∧ Hid (Below wz.heap.size wz wx))
            case first =>
              obtain ⟨wi, hwi⟩ : ∃ z : World, z = wz := ⟨_, rfl⟩
              subst hwi
              have HB0 : Hid (Below wi.heap.size wi wi) := Below.refl _ _
              go_wp2_with fail
              go_loopw [8] (fun z wk => ∃ k : Nat, k ≤ rn ∧ z = .int .i64 (k : Int) ∧ Hid (∀ j, j < k → out.getD j 0 < yt) ∧ Hid (Below wi.heap.size wi wk)) (fun z _ => rn - (intOf z).toNat)
              case atStart => exact ⟨0, by omega, rfl, fun j hj => by omega, HB0⟩
              case round =>
                clear HB0
                obtain ⟨k, hk, rfl, HL, HB⟩ := hrel
                by_cases hkr : k < rn
                · have y9 : (k : Int) < rn := by omega
                  obtain ⟨gq, rfl, hgq, hqc⟩ := HC.out (by omega)
                  have hcq := hqc k hkr
                  obtain ⟨a, ha⟩ : ∃ a, out.getD k 0 = a := ⟨_, rfl⟩
                  rw [ha] at hcq
                  have SK : Hid (wr.drew.cell? ⟨gw, i * 5, none⟩ = some (.int .i64 yt) ∧ wr.drew.cell? ⟨gq, k, none⟩ = some (.int .i64 a)) := ⟨(HB.out.cell (p := ⟨gw, i * 5, none⟩) hgl).trans HS0.out, (HB.out.cell (p := ⟨gq, k, none⟩) hgq).trans hcq⟩
                  have HB2 : Hid (Below wi.heap.size wi wr.drew) := HB.out.drew
                  have HA := Lib.hid ha
                  clear hcq hqc ha
                  by_cases hay : a < yt
                  · have HL2 : Hid (∀ j, j < k + 1 → out.getD j 0 < yt) := fun j hj => by
                      rcases (by omega : j < k ∨ j = k) with h1 | h1
                      · exact HL.out j h1
                      · rw [h1, HA.out]; exact hay
                    go_wp2_with fail
                    refine wp_region_pl (fun Y => Y.cell? ⟨gw, i * 5, none⟩ = some (.int .i64 yt) ∧ Y.cell? ⟨gq, k, none⟩ = some (.int .i64 a)) ((0, 0) :: (1, 0) :: (2, 0) :: (3, 0) :: (4, 0) :: (5, 0) :: (6, 0) :: (7, 0) :: (8, 0) :: (9, 0) :: (10, 0) :: (11, 0) :: (12, 0) :: (13, 0) :: (14, 0) :: []) (by kernel_rfl) (by kernel_rfl) ?_
                    iterate 15 (apply wpP_go; (focus rfl); (focus rfl); (focus exact SK.out); (focus (rintro Q ⟨s0, s1⟩; go_simp; exact rfl)); intro K hK; go_simp; refine hK _ ?_; clear hK K)
                    refine wpP_done ?_
                    clear SK
                    go_wp2_with fail
                    go_roundw
                    case rel => exact ⟨k + 1, by omega, by go_num, HL2, HB2⟩
                    case measure => simp [intOf]; omega
                  · have HE9 : Hid (k = rn ∨ yt ≤ out.getD k 0) := .inr (by rw [HA.out]; omega)
                    go_wp2_with fail
                    refine wp_region_pl (fun Y => Y.cell? ⟨gw, i * 5, none⟩ = some (.int .i64 yt) ∧ Y.cell? ⟨gq, k, none⟩ = some (.int .i64 a)) ((0, 0) :: (1, 0) :: (2, 0) :: (3, 0) :: (4, 0) :: (5, 0) :: (6, 0) :: (7, 0) :: (8, 0) :: (9, 0) :: (10, 0) :: (11, 0) :: (12, 0) :: (13, 0) :: (14, 0) :: []) (by kernel_rfl) (by kernel_rfl) ?_
                    iterate 15 (apply wpP_go; (focus rfl); (focus rfl); (focus exact SK.out); (focus (rintro Q ⟨s0, s1⟩; go_simp; exact rfl)); intro K hK; go_simp; refine hK _ ?_; clear hK K)
                    refine wpP_done ?_
                    clear SK
                    go_wp2_with fail
                    go_meet
                    exact ⟨k, hk, rfl, HL, HE9, HB2⟩
                · have y9 : ¬ (k : Int) < rn := by omega
                  have HE9 : Hid (k = rn ∨ yt ≤ out.getD k 0) := .inl (by omega)
                  have HB2 : Hid (Below wi.heap.size wi wr.drew) := HB.out.drew
                  have SK : Hid (True) := trivial
                  go_wp2_with fail
                  refine wp_region_pl (fun Y => True) ((0, 0) :: (1, 0) :: (2, 0) :: (3, 0) :: (4, 0) :: (5, 0) :: (6, 0) :: (7, 0) :: (8, 0) :: (9, 0) :: (10, 0) :: (11, 0) :: (12, 0) :: (13, 0) :: (14, 0) :: []) (by kernel_rfl) (by kernel_rfl) ?_
                  iterate 5 (apply wpP_go; (focus rfl); (focus rfl); (focus exact SK.out); (focus (rintro Q _; go_simp; exact rfl)); intro K hK; go_simp; refine hK _ ?_; clear hK K)
                  iterate 9 (apply wpP_not; (focus rfl); (focus rfl); (focus exact SK.out); intro K hK; go_simp; refine hK _ ?_; clear hK K)
                  iterate 1 (apply wpP_go; (focus rfl); (focus rfl); (focus exact SK.out); (focus (rintro Q _; go_simp; exact rfl)); intro K hK; go_simp; refine hK _ ?_; clear hK K)
                  refine wpP_done ?_
                  clear SK
                  go_wp2_with fail
                  go_meet
                  exact ⟨k, hk, rfl, HL, HE9, HB2⟩
            case rest =>
              obtain ⟨k, hk, rfl, HL, HE9, HB⟩ := hcut
              have hwcs := HB.out.size
              have hol9 : out.length ≤ 1000 := by rw [HRN.out]; omega
              have SK : Hid (wc.drew.cell? ⟨gw, i * 5, none⟩ = some (.int .i64 yt)) := (HB.out.cell (p := ⟨gw, i * 5, none⟩) hgl).trans HS0.out
              have HB2 : Hid (Below wz.heap.size wz wc.drew) := HB.out.drew
              have hra : (ra = none ∧ rn = 0 ∧ rc = 0) ∨ ∃ gq, ra = some ⟨gq, 0, none⟩ := by
                rcases HOO.out.1.2 with ⟨h1, h2⟩ | ⟨gq, cq, cur, h1, _⟩
                · injection h1 with h1 h2 h3
                  exact .inl ⟨h1, h2, h3⟩
                · injection h1 with h1
                  exact .inr ⟨gq, h1⟩
              have hkc : k ≤ rc := by omega
              rcases hra with ⟨rfl, rfl, rfl⟩ | ⟨gq, rfl⟩
              · obtain rfl : k = 0 := by omega
                have HQ1 : Hid (QV wc.drew (.slice none 0 0) (out.take 0)) := QV.nil _
                have HQ2 : Hid (QV wc.drew (.slice none 0 0) (out.drop 0)) := by
                  show QV _ _ _
                  rw [List.drop_zero, List.eq_nil_of_length_eq_zero HRN.out]; exact QV.nil _
                go_wp2_with fail
                refine wp_region_tree (fun Y => Y.cell? ⟨gw, i * 5, none⟩ = some (.int .i64 yt)) [] (PT.ls ((0, 0) :: (1, 0) :: (2, 0) :: (4, 0) :: (5, 0) :: (6, 0) :: (7, 0) :: (10, 0) :: (11, 0) :: (12, 0) :: []) (.f 3 (PT.ls ((8, 1) :: (9, 1) :: (13, 1) :: (14, 0) :: []) .done) 8 (PT.ls ((3, 1) :: (9, 1) :: (13, 1) :: (14, 0) :: []) .done))) (by kernel_rfl) (by kernel_rfl) (by kernel_rfl) ?_
                unfold PT.ls
                have hg3 : gw < wc.drew.heap.size := Nat.lt_of_lt_of_le hgl hwcs
                generalize wc.drew = w3 at *
                iterate 10 (apply wpT_go; (focus rfl); (focus rfl); (focus exact SK.out); (focus (rintro Q s0; go_simp; exact rfl)); intro K hK; go_simp; refine hK _ ?_; clear hK K)
                apply wpT_fork
                focus rfl
                focus rfl
                · intro K hK
                  obtain ⟨R1, wa, hr, ho1, hc1, hb1⟩ := app_copy HQ1.out (by rw [List.length_take]; omega)
                  refine step_append_run rfl _ _ 22 rfl rfl _ _ R1 wa rfl rfl hr ?_
                  refine hK _ _ ((hc1.cell (p := ⟨gw, i * 5, none⟩) hg3 id).trans SK.out) ?_
                  clear hK K hr
                  have cal : Ch (fun _ => False) wa (wa.alloc (.cells #[.int .i64 (yt)] 3)) := (Ch.refl _ _).alloc _
                  have HC4 : Hid (Ch (fun _ => False) w3 (wa.alloc (.cells #[.int .i64 (yt)] 3))) := hc1.trans cal
                  have HO1 : Hid (OI (wa.alloc (.cells #[.int .i64 (yt)] 3)) R1 (out.take 0)) := ho1.ch cal (fun _ _ h => h)
                  have HR1 : Hid (∀ k, R1.ownBlock = some k → w3.heap.size ≤ k ∧ k < (wa.alloc (.cells #[.int .i64 (yt)] 3)).heap.size) := fun k hk => ⟨(hb1 k hk).1, Nat.lt_of_lt_of_le (hb1 k hk).2 cal.size⟩
                  have HB9 : Hid ((wa.alloc (.cells #[.int .i64 (yt)] 3)).cell? ⟨wa.heap.size, 0, none⟩ = some (.int .i64 (yt))) := Row.cell (Row.new wa 3 #[.int .i64 (yt)] (fun _ => .int .i64 (yt)) (fun j hj => by rcases (by simpa using hj : j = 0) with rfl; rfl)) (i := 0) (by simp)
                  apply wpT_one
                  focus rfl
                  intro K hK
                  go_simp
                  refine hK _ _ ((HC4.out.cell (p := ⟨gw, i * 5, none⟩) hg3 id).trans SK.out) ?_
                  clear hK K cal hc1 ho1 hb1 HQ1
                  generalize wa.heap.size = Bz at *
                  generalize wa.alloc (.cells #[.int .i64 (yt)] 3) = w4 at *
                  apply wpT_one
                  focus rfl
                  intro K hK
                  obtain ⟨R2, w5, hr5, ho5, hc5, ⟨g5, cap5, e5⟩, hb5⟩ := app_push HO1.out (by rw [List.length_take]; omega) HB9.out
                  refine step_append_run rfl _ _ 22 rfl rfl _ _ R2 w5 rfl rfl hr5 ?_
                  have hs4 := HC4.out.size
                  have HC5 : Hid (Ch (fun _ => False) w3 w5) := HC4.out.andThen hc5 (fun k hk hk2 => by have := (HR1.out k hk).1; omega)
                  have HO5 : Hid (OI w5 R2 (out.take 0 ++ [yt])) := ho5
                  have HR5 : Hid (∀ k, R2.ownBlock = some k → w3.heap.size ≤ k ∧ k < w5.heap.size) := fun k hk => by
                    obtain ⟨h1, h2⟩ := hb5 k hk
                    refine ⟨?_, h2⟩
                    rcases h1 with h1 | h1
                    · exact (HR1.out k h1).1
                    · omega
                  have HQ5 : Hid (QV w5 (.slice none 0 0) (out.drop 0)) := HQ2.out.ch HC5.out (fun _ _ h => h)
                  refine hK _ _ ((HC5.out.cell (p := ⟨gw, i * 5, none⟩) hg3 id).trans SK.out) ?_
                  clear hK K hr5 ho5 hc5 hb5 hs4 HC4 HO1 HR1 HB9 e5 g5 cap5 HQ2
                  apply wpT_one
                  focus rfl
                  intro K hK
                  obtain ⟨g6, cap6, w6, hr6, ho6, hc6, hb6⟩ := app_cat HO5.out HQ5.out (by rw [List.length_append, List.length_take]; show _ + 1 ≤ _; omega) (by rw [List.length_drop]; omega) (by simp)
                  refine step_append_run rfl _ _ 22 rfl rfl _ _ (.slice (some ⟨g6, 0, none⟩) (out.take 0 ++ [yt] ++ out.drop 0).length cap6) w6 rfl rfl hr6 ?_
                  have hs5 := HC5.out.size
                  have HC6 : Hid (Ch (fun _ => False) w3 w6) := HC5.out.andThen hc6 (fun k hk hk2 => by have := (HR5.out k hk).1; omega)
                  have HO6 := Lib.hid ho6
                  have HG6 : Hid (w3.heap.size ≤ g6) := by
                    show _ ≤ _
                    rcases hb6 with h1 | h1
                    · exact (HR5.out g6 h1).1
                    · omega
                  refine hK _ _ ((HC6.out.cell (p := ⟨gw, i * 5, none⟩) hg3 id).trans SK.out) ?_
                  clear hK K hr6 ho6 hc6 hb6 hs5 HO5 HR5 HC5 HQ5
                  obtain ⟨n6, hn6⟩ : ∃ m, (out.take 0 ++ [yt] ++ out.drop 0).length = m := ⟨_, rfl⟩
                  simp only [hn6]
                  rw [hn6] at HO6
                  clear hn6
                  iterate 1 (apply wpT_go; (focus rfl); (focus rfl); (focus exact (by exact (HC6.out.cell (p := ⟨gw, i * 5, none⟩) hg3 id).trans SK.out)); (focus (rintro Q s0; go_simp; exact rfl)); intro K hK; go_simp; refine hK _ ?_; clear hK K)
                  refine wpT_done ?_
                  have HB6 : Hid (Below wz.heap.size wz w6) := HB2.out.trans (HC6.out.below HB2.out.size (fun _ h => h.elim))
                  have HG7 : Hid (wz.heap.size ≤ g6) := by have := HB2.out.size; have := HG6.out; exact Nat.le_trans ‹_› ‹_›
                  clear SK HC6 HG6
                  have HEX : Hid (∃ E out Dr Mr Wr, EX w w6 D X vl vw M W s now (i + 1) (.slice (some ⟨g6, 0, none⟩) n6 cap6) E out Dr Mr Wr) := by
                    have hin := ins_sorted (k := 0) HOO.out.2.1 (by rw [HRN.out]; omega) HL.out (by rw [HRN.out]; first | exact HE9.out | exact .inl rfl) HOO.out.2.2
                    exact HNX.out w6 _ _ HB6.out HO6.out (fun g hg => by
                      have e : g6 = g := by simpa [Value.ownBlock] using hg
                      have := HG7.out
                      omega) (by rw [List.length_append, List.length_append, List.length_take, List.length_drop, HRN.out]; show _ + 1 + _ ≤ _; omega) hin.1 hin.2
                  clear HO6 HB6 HG7 HNX HOO HRN HC HS0 HL HE9 HB HB2
                  go_wp2_with fail
                  go_roundw
                  case rel => exact ⟨i + 1, _, by omega, rfl, by go_num, HEX⟩
                  case measure => simp [intOf]; omega
                · intro K hK
                  go_simp
                  have cal : Ch (fun _ => False) w3 (w3.alloc (.cells #[.int .i64 (yt)] 3)) := (Ch.refl _ _).alloc _
                  have HB0 : Hid ((w3.alloc (.cells #[.int .i64 (yt)] 3)).cell? ⟨w3.heap.size, 0, none⟩ = some (.int .i64 (yt))) := Row.cell (Row.new w3 3 #[.int .i64 (yt)] (fun _ => .int .i64 (yt)) (fun j hj => by rcases (by simpa using hj : j = 0) with rfl; rfl)) (i := 0) (by simp)
                  have HQ4 : Hid (QV (w3.alloc (.cells #[.int .i64 (yt)] 3)) (.slice none 0 0) (out.take 0)) := HQ1.out.ch cal (fun _ _ h => h)
                  have HCL := Lib.hid cal
                  have hBl : w3.heap.size < (w3.alloc (.cells #[.int .i64 (yt)] 3)).heap.size := by simp
                  refine hK _ _ ((cal.cell (p := ⟨gw, i * 5, none⟩) hg3 id).trans SK.out) ?_
                  clear hK K cal HQ1
                  generalize w3.alloc (.cells #[.int .i64 (yt)] 3) = wa at *
                  obtain ⟨Bz, hBz⟩ : ∃ B, w3.heap.size = B := ⟨_, rfl⟩
                  simp only [hBz]
                  rw [hBz] at HB0 hBl
                  apply wpT_one
                  focus rfl
                  intro K hK
                  obtain ⟨R1, w4, hr, ho1, hc1, hb1⟩ := app_copy HQ4.out (by rw [List.length_take]; omega)
                  refine step_append_run rfl _ _ 22 rfl rfl _ _ R1 w4 rfl rfl hr ?_
                  have HC4 : Hid (Ch (fun _ => False) w3 w4) := HCL.out.trans hc1
                  have HO1 : Hid (OI w4 R1 (out.take 0)) := ho1
                  have hsl := HCL.out.size
                  have HR1 : Hid (∀ k, R1.ownBlock = some k → w3.heap.size ≤ k ∧ k < w4.heap.size) := fun k hk => ⟨by have := (hb1 k hk).1; omega, (hb1 k hk).2⟩
                  have HB9 : Hid (w4.cell? ⟨Bz, 0, none⟩ = some (.int .i64 (yt))) := (hc1.cell (p := ⟨Bz, 0, none⟩) hBl id).trans HB0.out
                  refine hK _ _ ((HC4.out.cell (p := ⟨gw, i * 5, none⟩) hg3 id).trans SK.out) ?_
                  clear hK K hr hc1 ho1 hb1 HB0 HQ4 HCL hsl hBl hBz
                  apply wpT_one
                  focus rfl
                  intro K hK
                  obtain ⟨R2, w5, hr5, ho5, hc5, ⟨g5, cap5, e5⟩, hb5⟩ := app_push HO1.out (by rw [List.length_take]; omega) HB9.out
                  refine step_append_run rfl _ _ 22 rfl rfl _ _ R2 w5 rfl rfl hr5 ?_
                  have hs4 := HC4.out.size
                  have HC5 : Hid (Ch (fun _ => False) w3 w5) := HC4.out.andThen hc5 (fun k hk hk2 => by have := (HR1.out k hk).1; omega)
                  have HO5 : Hid (OI w5 R2 (out.take 0 ++ [yt])) := ho5
                  have HR5 : Hid (∀ k, R2.ownBlock = some k → w3.heap.size ≤ k ∧ k < w5.heap.size) := fun k hk => by
                    obtain ⟨h1, h2⟩ := hb5 k hk
                    refine ⟨?_, h2⟩
                    rcases h1 with h1 | h1
                    · exact (HR1.out k h1).1
                    · omega
                  have HQ5 : Hid (QV w5 (.slice none 0 0) (out.drop 0)) := HQ2.out.ch HC5.out (fun _ _ h => h)
                  refine hK _ _ ((HC5.out.cell (p := ⟨gw, i * 5, none⟩) hg3 id).trans SK.out) ?_
                  clear hK K hr5 ho5 hc5 hb5 hs4 HC4 HO1 HR1 HB9 e5 g5 cap5 HQ2
                  apply wpT_one
                  focus rfl
                  intro K hK
                  obtain ⟨g6, cap6, w6, hr6, ho6, hc6, hb6⟩ := app_cat HO5.out HQ5.out (by rw [List.length_append, List.length_take]; show _ + 1 ≤ _; omega) (by rw [List.length_drop]; omega) (by simp)
                  refine step_append_run rfl _ _ 22 rfl rfl _ _ (.slice (some ⟨g6, 0, none⟩) (out.take 0 ++ [yt] ++ out.drop 0).length cap6) w6 rfl rfl hr6 ?_
                  have hs5 := HC5.out.size
                  have HC6 : Hid (Ch (fun _ => False) w3 w6) := HC5.out.andThen hc6 (fun k hk hk2 => by have := (HR5.out k hk).1; omega)
                  have HO6 := Lib.hid ho6
                  have HG6 : Hid (w3.heap.size ≤ g6) := by
                    show _ ≤ _
                    rcases hb6 with h1 | h1
                    · exact (HR5.out g6 h1).1
                    · omega
                  refine hK _ _ ((HC6.out.cell (p := ⟨gw, i * 5, none⟩) hg3 id).trans SK.out) ?_
                  clear hK K hr6 ho6 hc6 hb6 hs5 HO5 HR5 HC5 HQ5
                  obtain ⟨n6, hn6⟩ : ∃ m, (out.take 0 ++ [yt] ++ out.drop 0).length = m := ⟨_, rfl⟩
                  simp only [hn6]
                  rw [hn6] at HO6
                  clear hn6
                  iterate 1 (apply wpT_go; (focus rfl); (focus rfl); (focus exact (by exact (HC6.out.cell (p := ⟨gw, i * 5, none⟩) hg3 id).trans SK.out)); (focus (rintro Q s0; go_simp; exact rfl)); intro K hK; go_simp; refine hK _ ?_; clear hK K)
                  refine wpT_done ?_
                  have HB6 : Hid (Below wz.heap.size wz w6) := HB2.out.trans (HC6.out.below HB2.out.size (fun _ h => h.elim))
                  have HG7 : Hid (wz.heap.size ≤ g6) := by have := HB2.out.size; have := HG6.out; exact Nat.le_trans ‹_› ‹_›
                  clear SK HC6 HG6
                  have HEX : Hid (∃ E out Dr Mr Wr, EX w w6 D X vl vw M W s now (i + 1) (.slice (some ⟨g6, 0, none⟩) n6 cap6) E out Dr Mr Wr) := by
                    have hin := ins_sorted (k := 0) HOO.out.2.1 (by rw [HRN.out]; omega) HL.out (by rw [HRN.out]; first | exact HE9.out | exact .inl rfl) HOO.out.2.2
                    exact HNX.out w6 _ _ HB6.out HO6.out (fun g hg => by
                      have e : g6 = g := by simpa [Value.ownBlock] using hg
                      have := HG7.out
                      omega) (by rw [List.length_append, List.length_append, List.length_take, List.length_drop, HRN.out]; show _ + 1 + _ ≤ _; omega) hin.1 hin.2
                  clear HO6 HB6 HG7 HNX HOO HRN HC HS0 HL HE9 HB HB2
                  go_wp2_with fail
                  go_roundw
                  case rel => exact ⟨i + 1, _, by omega, rfl, by go_num, HEX⟩
                  case measure => simp [intOf]; omega
              · have HQ1 : Hid (QV wc.drew (.slice (some ⟨gq, 0, none⟩) k rc) (out.take k)) := (HOO.out.1.below HB2.out).takeQ HRN.out hk
                have HQ2 : Hid (QV wc.drew (.slice (if rc = k then some (⟨gq, 0, none⟩ : Addr) else some ⟨gq, k, none⟩) (rn - k) (rc - k)) (out.drop k)) := (HOO.out.1.below HB2.out).dropQ HRN.out hk
                go_wp2_with fail
                refine wp_region_tree (fun Y => Y.cell? ⟨gw, i * 5, none⟩ = some (.int .i64 yt)) [] (PT.ls ((0, 0) :: (1, 0) :: (2, 0) :: (4, 0) :: (5, 0) :: (6, 0) :: (7, 0) :: (10, 0) :: (11, 0) :: (12, 0) :: []) (.f 3 (PT.ls ((8, 1) :: (9, 1) :: (13, 1) :: (14, 0) :: []) .done) 8 (PT.ls ((3, 1) :: (9, 1) :: (13, 1) :: (14, 0) :: []) .done))) (by kernel_rfl) (by kernel_rfl) (by kernel_rfl) ?_
                unfold PT.ls
                have hg3 : gw < wc.drew.heap.size := Nat.lt_of_lt_of_le hgl hwcs
                generalize wc.drew = w3 at *
                iterate 10 (apply wpT_go; (focus rfl); (focus rfl); (focus exact SK.out); (focus (rintro Q s0; go_simp; exact rfl)); intro K hK; go_simp; refine hK _ ?_; clear hK K)
                generalize (if rc = k then some (⟨gq, 0, none⟩ : Addr) else some ⟨gq, k, none⟩) = av at *
                apply wpT_fork
                focus rfl
                focus rfl
                · intro K hK
                  obtain ⟨R1, wa, hr, ho1, hc1, hb1⟩ := app_copy HQ1.out (by rw [List.length_take]; omega)
                  refine step_append_run rfl _ _ 22 rfl rfl _ _ R1 wa rfl rfl hr ?_
                  refine hK _ _ ((hc1.cell (p := ⟨gw, i * 5, none⟩) hg3 id).trans SK.out) ?_
                  clear hK K hr
                  have cal : Ch (fun _ => False) wa (wa.alloc (.cells #[.int .i64 (yt)] 3)) := (Ch.refl _ _).alloc _
                  have HC4 : Hid (Ch (fun _ => False) w3 (wa.alloc (.cells #[.int .i64 (yt)] 3))) := hc1.trans cal
                  have HO1 : Hid (OI (wa.alloc (.cells #[.int .i64 (yt)] 3)) R1 (out.take k)) := ho1.ch cal (fun _ _ h => h)
                  have HR1 : Hid (∀ k, R1.ownBlock = some k → w3.heap.size ≤ k ∧ k < (wa.alloc (.cells #[.int .i64 (yt)] 3)).heap.size) := fun k hk => ⟨(hb1 k hk).1, Nat.lt_of_lt_of_le (hb1 k hk).2 cal.size⟩
                  have HB9 : Hid ((wa.alloc (.cells #[.int .i64 (yt)] 3)).cell? ⟨wa.heap.size, 0, none⟩ = some (.int .i64 (yt))) := Row.cell (Row.new wa 3 #[.int .i64 (yt)] (fun _ => .int .i64 (yt)) (fun j hj => by rcases (by simpa using hj : j = 0) with rfl; rfl)) (i := 0) (by simp)
                  apply wpT_one
                  focus rfl
                  intro K hK
                  go_simp
                  refine hK _ _ ((HC4.out.cell (p := ⟨gw, i * 5, none⟩) hg3 id).trans SK.out) ?_
                  clear hK K cal hc1 ho1 hb1 HQ1
                  generalize wa.heap.size = Bz at *
                  generalize wa.alloc (.cells #[.int .i64 (yt)] 3) = w4 at *
                  apply wpT_one
                  focus rfl
                  intro K hK
                  obtain ⟨R2, w5, hr5, ho5, hc5, ⟨g5, cap5, e5⟩, hb5⟩ := app_push HO1.out (by rw [List.length_take]; omega) HB9.out
                  refine step_append_run rfl _ _ 22 rfl rfl _ _ R2 w5 rfl rfl hr5 ?_
                  have hs4 := HC4.out.size
                  have HC5 : Hid (Ch (fun _ => False) w3 w5) := HC4.out.andThen hc5 (fun k hk hk2 => by have := (HR1.out k hk).1; omega)
                  have HO5 : Hid (OI w5 R2 (out.take k ++ [yt])) := ho5
                  have HR5 : Hid (∀ k, R2.ownBlock = some k → w3.heap.size ≤ k ∧ k < w5.heap.size) := fun k hk => by
                    obtain ⟨h1, h2⟩ := hb5 k hk
                    refine ⟨?_, h2⟩
                    rcases h1 with h1 | h1
                    · exact (HR1.out k h1).1
                    · omega
                  have HQ5 : Hid (QV w5 (.slice av (rn - k) (rc - k)) (out.drop k)) := HQ2.out.ch HC5.out (fun _ _ h => h)
                  refine hK _ _ ((HC5.out.cell (p := ⟨gw, i * 5, none⟩) hg3 id).trans SK.out) ?_
                  clear hK K hr5 ho5 hc5 hb5 hs4 HC4 HO1 HR1 HB9 e5 g5 cap5 HQ2
                  apply wpT_one
                  focus rfl
                  intro K hK
                  obtain ⟨g6, cap6, w6, hr6, ho6, hc6, hb6⟩ := app_cat HO5.out HQ5.out (by rw [List.length_append, List.length_take]; show _ + 1 ≤ _; omega) (by rw [List.length_drop]; omega) (by simp)
                  refine step_append_run rfl _ _ 22 rfl rfl _ _ (.slice (some ⟨g6, 0, none⟩) (out.take k ++ [yt] ++ out.drop k).length cap6) w6 rfl rfl hr6 ?_
                  have hs5 := HC5.out.size
                  have HC6 : Hid (Ch (fun _ => False) w3 w6) := HC5.out.andThen hc6 (fun k hk hk2 => by have := (HR5.out k hk).1; omega)
                  have HO6 := Lib.hid ho6
                  have HG6 : Hid (w3.heap.size ≤ g6) := by
                    show _ ≤ _
                    rcases hb6 with h1 | h1
                    · exact (HR5.out g6 h1).1
                    · omega
                  refine hK _ _ ((HC6.out.cell (p := ⟨gw, i * 5, none⟩) hg3 id).trans SK.out) ?_
                  clear hK K hr6 ho6 hc6 hb6 hs5 HO5 HR5 HC5 HQ5
                  obtain ⟨n6, hn6⟩ : ∃ m, (out.take k ++ [yt] ++ out.drop k).length = m := ⟨_, rfl⟩
                  simp only [hn6]
                  rw [hn6] at HO6
                  clear hn6
                  iterate 1 (apply wpT_go; (focus rfl); (focus rfl); (focus exact (by exact (HC6.out.cell (p := ⟨gw, i * 5, none⟩) hg3 id).trans SK.out)); (focus (rintro Q s0; go_simp; exact rfl)); intro K hK; go_simp; refine hK _ ?_; clear hK K)
                  refine wpT_done ?_
                  have HB6 : Hid (Below wz.heap.size wz w6) := HB2.out.trans (HC6.out.below HB2.out.size (fun _ h => h.elim))
                  have HG7 : Hid (wz.heap.size ≤ g6) := by have := HB2.out.size; have := HG6.out; exact Nat.le_trans ‹_› ‹_›
                  clear SK HC6 HG6
                  have HEX : Hid (∃ E out Dr Mr Wr, EX w w6 D X vl vw M W s now (i + 1) (.slice (some ⟨g6, 0, none⟩) n6 cap6) E out Dr Mr Wr) := by
                    have hin := ins_sorted (k := k) HOO.out.2.1 (by rw [HRN.out]; omega) HL.out (by rw [HRN.out]; first | exact HE9.out | exact .inl rfl) HOO.out.2.2
                    exact HNX.out w6 _ _ HB6.out HO6.out (fun g hg => by
                      have e : g6 = g := by simpa [Value.ownBlock] using hg
                      have := HG7.out
                      omega) (by rw [List.length_append, List.length_append, List.length_take, List.length_drop, HRN.out]; show _ + 1 + _ ≤ _; omega) hin.1 hin.2
                  clear HO6 HB6 HG7 HNX HOO HRN HC HS0 HL HE9 HB HB2
                  go_wp2_with fail
                  go_roundw
                  case rel => exact ⟨i + 1, _, by omega, rfl, by go_num, HEX⟩
                  case measure => simp [intOf]; omega
                · intro K hK
                  go_simp
                  have cal : Ch (fun _ => False) w3 (w3.alloc (.cells #[.int .i64 (yt)] 3)) := (Ch.refl _ _).alloc _
                  have HB0 : Hid ((w3.alloc (.cells #[.int .i64 (yt)] 3)).cell? ⟨w3.heap.size, 0, none⟩ = some (.int .i64 (yt))) := Row.cell (Row.new w3 3 #[.int .i64 (yt)] (fun _ => .int .i64 (yt)) (fun j hj => by rcases (by simpa using hj : j = 0) with rfl; rfl)) (i := 0) (by simp)
                  have HQ4 : Hid (QV (w3.alloc (.cells #[.int .i64 (yt)] 3)) (.slice (some ⟨gq, 0, none⟩) k rc) (out.take k)) := HQ1.out.ch cal (fun _ _ h => h)
                  have HCL := Lib.hid cal
                  have hBl : w3.heap.size < (w3.alloc (.cells #[.int .i64 (yt)] 3)).heap.size := by simp
                  refine hK _ _ ((cal.cell (p := ⟨gw, i * 5, none⟩) hg3 id).trans SK.out) ?_
                  clear hK K cal HQ1
                  generalize w3.alloc (.cells #[.int .i64 (yt)] 3) = wa at *
                  obtain ⟨Bz, hBz⟩ : ∃ B, w3.heap.size = B := ⟨_, rfl⟩
                  simp only [hBz]
                  rw [hBz] at HB0 hBl
                  apply wpT_one
                  focus rfl
                  intro K hK
                  obtain ⟨R1, w4, hr, ho1, hc1, hb1⟩ := app_copy HQ4.out (by rw [List.length_take]; omega)
                  refine step_append_run rfl _ _ 22 rfl rfl _ _ R1 w4 rfl rfl hr ?_
                  have HC4 : Hid (Ch (fun _ => False) w3 w4) := HCL.out.trans hc1
                  have HO1 : Hid (OI w4 R1 (out.take k)) := ho1
                  have hsl := HCL.out.size
                  have HR1 : Hid (∀ k, R1.ownBlock = some k → w3.heap.size ≤ k ∧ k < w4.heap.size) := fun k hk => ⟨by have := (hb1 k hk).1; omega, (hb1 k hk).2⟩
                  have HB9 : Hid (w4.cell? ⟨Bz, 0, none⟩ = some (.int .i64 (yt))) := (hc1.cell (p := ⟨Bz, 0, none⟩) hBl id).trans HB0.out
                  refine hK _ _ ((HC4.out.cell (p := ⟨gw, i * 5, none⟩) hg3 id).trans SK.out) ?_
                  clear hK K hr hc1 ho1 hb1 HB0 HQ4 HCL hsl hBl hBz
                  apply wpT_one
                  focus rfl
                  intro K hK
                  obtain ⟨R2, w5, hr5, ho5, hc5, ⟨g5, cap5, e5⟩, hb5⟩ := app_push HO1.out (by rw [List.length_take]; omega) HB9.out
                  refine step_append_run rfl _ _ 22 rfl rfl _ _ R2 w5 rfl rfl hr5 ?_
                  have hs4 := HC4.out.size
                  have HC5 : Hid (Ch (fun _ => False) w3 w5) := HC4.out.andThen hc5 (fun k hk hk2 => by have := (HR1.out k hk).1; omega)
                  have HO5 : Hid (OI w5 R2 (out.take k ++ [yt])) := ho5
                  have HR5 : Hid (∀ k, R2.ownBlock = some k → w3.heap.size ≤ k ∧ k < w5.heap.size) := fun k hk => by
                    obtain ⟨h1, h2⟩ := hb5 k hk
                    refine ⟨?_, h2⟩
                    rcases h1 with h1 | h1
                    · exact (HR1.out k h1).1
                    · omega
                  have HQ5 : Hid (QV w5 (.slice av (rn - k) (rc - k)) (out.drop k)) := HQ2.out.ch HC5.out (fun _ _ h => h)
                  refine hK _ _ ((HC5.out.cell (p := ⟨gw, i * 5, none⟩) hg3 id).trans SK.out) ?_
                  clear hK K hr5 ho5 hc5 hb5 hs4 HC4 HO1 HR1 HB9 e5 g5 cap5 HQ2
                  apply wpT_one
                  focus rfl
                  intro K hK
                  obtain ⟨g6, cap6, w6, hr6, ho6, hc6, hb6⟩ := app_cat HO5.out HQ5.out (by rw [List.length_append, List.length_take]; show _ + 1 ≤ _; omega) (by rw [List.length_drop]; omega) (by simp)
                  refine step_append_run rfl _ _ 22 rfl rfl _ _ (.slice (some ⟨g6, 0, none⟩) (out.take k ++ [yt] ++ out.drop k).length cap6) w6 rfl rfl hr6 ?_
                  have hs5 := HC5.out.size
                  have HC6 : Hid (Ch (fun _ => False) w3 w6) := HC5.out.andThen hc6 (fun k hk hk2 => by have := (HR5.out k hk).1; omega)
                  have HO6 := Lib.hid ho6
                  have HG6 : Hid (w3.heap.size ≤ g6) := by
                    show _ ≤ _
                    rcases hb6 with h1 | h1
                    · exact (HR5.out g6 h1).1
                    · omega
                  refine hK _ _ ((HC6.out.cell (p := ⟨gw, i * 5, none⟩) hg3 id).trans SK.out) ?_
                  clear hK K hr6 ho6 hc6 hb6 hs5 HO5 HR5 HC5 HQ5
                  obtain ⟨n6, hn6⟩ : ∃ m, (out.take k ++ [yt] ++ out.drop k).length = m := ⟨_, rfl⟩
                  simp only [hn6]
                  rw [hn6] at HO6
                  clear hn6
                  iterate 1 (apply wpT_go; (focus rfl); (focus rfl); (focus exact (by exact (HC6.out.cell (p := ⟨gw, i * 5, none⟩) hg3 id).trans SK.out)); (focus (rintro Q s0; go_simp; exact rfl)); intro K hK; go_simp; refine hK _ ?_; clear hK K)
                  refine wpT_done ?_
                  have HB6 : Hid (Below wz.heap.size wz w6) := HB2.out.trans (HC6.out.below HB2.out.size (fun _ h => h.elim))
                  have HG7 : Hid (wz.heap.size ≤ g6) := by have := HB2.out.size; have := HG6.out; exact Nat.le_trans ‹_› ‹_›
                  clear SK HC6 HG6
                  have HEX : Hid (∃ E out Dr Mr Wr, EX w w6 D X vl vw M W s now (i + 1) (.slice (some ⟨g6, 0, none⟩) n6 cap6) E out Dr Mr Wr) := by
                    have hin := ins_sorted (k := k) HOO.out.2.1 (by rw [HRN.out]; omega) HL.out (by rw [HRN.out]; first | exact HE9.out | exact .inl rfl) HOO.out.2.2
                    exact HNX.out w6 _ _ HB6.out HO6.out (fun g hg => by
                      have e : g6 = g := by simpa [Value.ownBlock] using hg
                      have := HG7.out
                      omega) (by rw [List.length_append, List.length_append, List.length_take, List.length_drop, HRN.out]; show _ + 1 + _ ≤ _; omega) hin.1 hin.2
                  clear HO6 HB6 HG7 HNX HOO HRN HC HS0 HL HE9 HB HB2
                  go_wp2_with fail
                  go_roundw
                  case rel => exact ⟨i + 1, _, by omega, rfl, by go_num, HEX⟩
                  case measure => simp [intOf]; omega
          · have HE3 := Lib.hid (HEX2.out (by rw [HCO.out, decide_eq_false h3]; rfl))
            have h3b : decide (dl ≤ now) = false := decide_eq_false h3
            clear HEX2 HW HCO
            go_wp2_with fail
            go_roundw
            case rel => exact ⟨i + 1, vo, by omega, rfl, by go_num, HE3⟩
            case measure => simp [intOf]; omega
      · have HE3 := Lib.hid (HEX2.out (by rw [HCO.out, decide_eq_false h2]; rfl))
        have h2b : (st == 2) = false := by simpa using h2
        clear HEX2 HW HCO
        go_wp2_with fail
        go_roundw
        case rel => exact ⟨i + 1, vo, by omega, rfl, by go_num, HE3⟩
        case measure => simp [intOf]; omega
    · have y0 : ¬ (i : Int) < L := by omega
      have HF : Hid (∃ E, E.Pairwise (· < ·) ∧ (∀ i, i ∈ E ↔ exB s now i = true) ∧ OI wr vo E ∧ RP w D X n (expS s E) wr) := by
        have hem := hx.em
        rw [List.take_of_length_le (by rw [HL.out]; omega)] at hem
        have hE : ∀ e, e ∈ E ↔ exB s now e = true := fun e => by
          rw [hem e]
          constructor
          · rintro ⟨_, _, _, h⟩; exact h
          · intro h
            have h9 := h
            rw [exB_T, Bool.and_eq_true] at h9
            have h8 := of_decide_eq_true h9.1
            obtain ⟨z, hz, h7⟩ := HH.out.all e (by rw [stat_eq, h8]; omega)
            exact ⟨z, hz, h7, h⟩
        have hno : out.Nodup := hx.os.imp (fun h e => by omega)
        obtain ⟨h7, h8⟩ := exp_same HI.out hx.nd hno hx.wait (fun e => (hx.om e).symm)
        refine ⟨out, hx.os, fun e => by rw [hx.om e]; exact hE e, hx.oi, Dr, ?_, hx.ch, hx.dr⟩
        exact (RK.mk' hx.rm (by rw [hx.ml]; exact HML.out) (by rw [hx.wl, HL.out]; exact h3) hx.ro hx.rh).congr h7 (fun t => by rw [h8 t]; exact ⟨rfl, fun _ => ⟨rfl, rfl⟩⟩)
      clear hx HEX
      go_wp2_with fail
      go_ret
      exact ⟨_, rfl, HF.out⟩
end
end Go.Proofs.Ytefgfmnnaglfmaa
namespace Go.Proofs.Ytefgfmnnaglfmaa
open Go.RowKit
/-- Mutex a is freed ahead of mutex b. -/
def gtO (s : LK) (a b : Int) : Prop := lvOf s b < lvOf s a ∨ (lvOf s a = lvOf s b ∧ b < a)
def abF (s : LK) (l : List Int) : LK := l.foldl freeS s
/-- The wait of a thread ends, if it waits. -/
def ab0 (s : LK) (t : Int) : LK := if (stT s t).st = 2 then stopS s t 0 else s.upT t fun x => { x with st := 0 }
theorem gtO.irr (s : LK) (a : Int) : ¬ gtO s a a := fun h => by rcases h with h | h <;> omega
theorem gtO.asym {s : LK} {a b : Int} (h : gtO s a b) : ¬ gtO s b a := fun k => by
  rcases h with h | h <;> rcases k with k | k <;> omega
theorem gtO.total (s : LK) {a b : Int} (h : a ≠ b) : gtO s a b ∨ gtO s b a := by
  unfold gtO; omega
theorem gtO.trans {s : LK} {a b c : Int} (h : gtO s a b) (k : gtO s b c) : gtO s a c := by
  rcases h with h | h <;> rcases k with k | k
  · exact .inl (by omega)
  · exact .inl (by omega)
  · exact .inl (by omega)
  · exact .inr (by omega)
theorem gtO.uniq {s : LK} : ∀ {l l' : List Int}, l.Pairwise (gtO s) → l'.Pairwise (gtO s) → (∀ a, a ∈ l ↔ a ∈ l') → l = l'
  | [], [], _, _, _ => rfl
  | [], b :: r, _, _, h => by have := (h b).2 (List.mem_cons_self); cases this
  | a :: r, [], _, _, h => by have := (h a).1 (List.mem_cons_self); cases this
  | a :: r, b :: r', h1, h2, h => by
    have p1 := List.pairwise_cons.1 h1
    have p2 := List.pairwise_cons.1 h2
    have e : a = b := by
      rcases List.mem_cons.1 ((h a).1 (List.mem_cons_self)) with e | e
      · exact e
      · rcases List.mem_cons.1 ((h b).2 (List.mem_cons_self)) with e2 | e2
        · exact e2.symm
        · exact absurd (p1.1 b e2) (p2.1 a e).asym
    subst e
    have hn1 : a ∉ r := fun hm => gtO.irr s a (p1.1 a hm)
    have hn2 : a ∉ r' := fun hm => gtO.irr s a (p2.1 a hm)
    rw [gtO.uniq p1.2 p2.2 fun c => by
      have := h c
      rw [List.mem_cons, List.mem_cons] at this
      constructor
      · intro hc
        rcases this.1 (.inr hc) with e | e
        · rw [e] at hc; exact absurd hc hn1
        · exact e
      · intro hc
        rcases this.2 (.inr hc) with e | e
        · rw [e] at hc; exact absurd hc hn2
        · exact e]
section
variable {s s' : LK} {t id : Int} {x : Ob}
theorem ab0_T (s : LK) (t j : Int) : stT (ab0 s t) j = if j = t then { stT s t with st := 0 } else stT s j := by
  unfold ab0
  split
  · exact stop_T s t 0 j
  · exact stT_upT _ _ _ _
theorem ab0_o (h : SI s) (t : Int) : (ab0 s t).o = (lvS s t).o := by
  unfold ab0
  split
  · rename_i h2; exact leave_stop h h2 0
  · rename_i h2
    show s.o = _
    funext j
    show s.o j = (s.o j).map _
    rcases hz : s.o j with _ | z
    · rfl
    · have hn : t ∉ z.q := fun hm => h2 (h.qs j z hz t hm).1
      show some z = some (Ob.mk z.mx z.lv z.ow z.ct (z.q.filter fun a => a != t))
      rw [List.filter_eq_self.2 fun b hb => by simp only [bne_iff_ne]; exact fun e => hn (by rw [← e]; exact hb)]
theorem ab0_si (h : SI s) (ht : 0 ≤ t ∧ t < 4) : SI (ab0 s t) := by
  unfold ab0
  split
  · rename_i h2; exact h.stop h2 (by omega)
  · rename_i h2; exact h.st h2 (by omega) ht
theorem ab0_lv (h : SI s) (t id : Int) : lvOf (ab0 s t) id = lvOf s id := by
  unfold lvOf
  rw [ab0_o h t]
  rcases e : s.o id with _ | x
  · have : (lvS s t).o id = none := by show (s.o id).map _ = none; rw [e]; rfl
    rw [this]
  · have : (lvS s t).o id = some { x with q := x.q.filter fun a => a != t } := by show (s.o id).map _ = _; rw [e]; rfl
    rw [this]
/-- What freeing a mutex of thread t does to it and to the levels. -/
theorem free_of (h : SI s) (hx : s.o id = some x) (hmx : x.mx = true) (how : x.ow = t) (ht : (stT s t).st ≠ 2) (hd : 0 ≤ t ∧ t < 4) :
    SI (freeS s id) ∧ (stT (freeS s id) t).st = (stT s t).st ∧ (∀ j, lvOf (freeS s id) j = lvOf s j) ∧ (∀ j, j ∈ (stT (freeS s id) t).hd ↔ j ≠ id ∧ j ∈ (stT s t).hd) := by
  have hsi : SI (freeS s id) := h.free hx hmx hx rfl rfl rfl rfl (fun _ _ => rfl) rfl (by rw [how]; exact hd)
  obtain ⟨hf1, hf2⟩ := pass_free (s := s) (s' := s) (x := ⟨id, x.mx, x.lv, true, x.ow, x.ct, x.q, .slice none 0 0⟩) (y := x) (id := id) rfl hx rfl rfl rfl (fun _ _ => rfl) (fun _ => rfl)
  have hO : ∀ j, (freeS s id).o j = if j = id then some (match x.q with | [] => { x with ow := 0, ct := 0 } | a :: r => ⟨x.mx, x.lv, a, 1, r⟩) else s.o j := fun j => by
    rw [hf1]
    unfold passS
    rcases hq : x.q with _ | ⟨a, r⟩
    · rfl
    · rfl
  refine ⟨hsi, ?_, fun j => ?_, fun j => ?_⟩
  · rw [(hf2 t).1]
    unfold passS
    rcases hq : x.q with _ | ⟨a, r⟩
    · rfl
    · have ha : a ≠ t := fun e => ht (by rw [← e]; exact (h.qs id x hx a (by rw [hq]; simp)).1)
      rw [stT_upT, if_neg (fun e => ha e.symm)]; rfl
  · unfold lvOf
    rw [hO]
    by_cases e : j = id
    · rw [if_pos e, e, hx]
      rcases x.q with _ | ⟨a, r⟩ <;> rfl
    · rw [if_neg e]
  · rw [hsi.hd t j, h.hd t j, hO]
    by_cases e : j = id
    · rw [if_pos e]
      constructor
      · rintro ⟨z, hz, h1, h2, h3⟩
        injection hz with hz
        exfalso
        rcases hq : x.q with _ | ⟨a, r⟩
        · rw [hq] at hz; subst hz; exact absurd h2 (by show ¬ (0 : Int) < 0; omega)
        · rw [hq] at hz; subst hz
          have h3 : a = t := h3
          exact ht (by rw [← h3]; exact (h.qs id x hx a (by rw [hq]; simp)).1)
      · rintro ⟨h1, _⟩; exact absurd e h1
    · rw [if_neg e]
      exact ⟨fun h => ⟨e, h⟩, fun h => h.2⟩
end
end Go.Proofs.Ytefgfmnnaglfmaa
