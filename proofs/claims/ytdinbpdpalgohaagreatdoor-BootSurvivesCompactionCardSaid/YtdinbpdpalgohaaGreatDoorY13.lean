/- Begin walked. Conditions: as each says. -/
import Derived.Test.YtdinbpdpalgohaaGreatDoorY12
namespace Go.Proofs.YtdinbpdpalgohaaGreatDoor
open Go.RowKit
theorem cnd_cdI (V : Vars) : cndV V = cdI (nxtV V) (ordV V) (ordV V).length := by
  unfold cndV cdI
  rw [List.take_length]
section
variable {w w' : World} {N M S L n : Nat} {O : Nat → Prop} {b : BM}
theorem beginB_none (h : getV b.st.V nmN = none) : beginB b = (0, { b with cand := cndV b.st.V, log := [], last := -1 }) := by unfold beginB; rw [h]
theorem beginB_bad {v : Str} (h : getV b.st.V nmN = some v) (h0 : (delB b nmN).1 ≠ 0) : beginB b = delB b nmN := by unfold beginB; rw [h]; exact if_pos h0
theorem beginB_ok {v : Str} (h : getV b.st.V nmN = some v) (h0 : (delB b nmN).1 = 0) : beginB b = (0, { (delB b nmN).2 with cand := cndV b.st.V, log := [], last := -1 }) := by unfold beginB; rw [h]; exact if_neg (fun k => k h0)
set_option maxRecDepth 100000 in
set_option maxHeartbeats 4000000 in
theorem begin_any (h : BW w N O M S L n b) (hb : b.st.blk < b.fl.B) (hn : n < 1000) : Calls Tryz.prog 16 #[fptr M] w (MR w N O M S L (n + 1) (beginB b)) := by
  have c0 := h.c0
  have HG0 := h.get (k := ⟨#[78, 101, 120, 116]⟩) (by decide)
  rw [show (⟨#[78, 101, 120, 116]⟩ : ByteArray).data.toList = nmN from rfl] at HG0
  have HWW := Lib.hid h
  obtain ⟨i0, hi0, hz0, hz1, hz2⟩ := info_parts Tryz.infoInt
  rcases hg : getV b.st.V nmN with _ | v
  · have HG : Hid (Calls Tryz.prog 56 #[fptr S, .string ⟨#[78, 101, 120, 116]⟩] w fun e w' => e = .returned (.tuple #[.string ⟨#[]⟩, .int .i64 6]) ∧ w = w') := by
      unfold getS at HG0
      rw [hg] at HG0
      exact HG0
    obtain ⟨r, hr⟩ : ∃ r, beginB b = r := ⟨_, rfl⟩
    have HRE := Lib.hid hr
    have HGV := Lib.hid hg
    rw [hr]
    have hnx : nxtV b.st.V = [] := by unfold nxtV; rw [hg]
    have HC : Hid (OwI w w.heap.size (.slice none 0 0) (nxtV b.st.V)) := by rw [hnx]; exact ⟨rfl, .inl ⟨rfl, rfl⟩⟩
    have HB1 : Hid (Below w.heap.size w w) := Below.refl _ _
    have HNL : Hid ((nxtV b.st.V).length ≤ 1) := nxtV_len _
    clear HG0 hg h hr
    go_enter Tryz.func16, Tryz.ntmps16
    go_upto_if 31 with (refine HG.out.mono ?_; rintro e w' ⟨rfl, rfl⟩)
    clear HG
    go_cut [3] (fun x wc => Hid (OwI wc w.heap.size x (nxtV b.st.V)) ∧ Hid (Below w.heap.size w wc))
    case first =>
      clear c0
      go_wp2_with fail
      go_meet
      exact ⟨HC, HB1⟩
    case rest =>
      clear HC HB1 hnx
      obtain ⟨HC, HB1⟩ := hcut
      obtain ⟨nx, hnx⟩ : ∃ nx, nxtV b.st.V = nx := ⟨_, rfl⟩
      rw [hnx] at HC HNL
      obtain ⟨xa, xc, rfl⟩ := Ms.own_len HC.out
      have HOD := Lib.hid (order_any (HWW.out.below HB1.out))
      have HON : Hid ((ordV b.st.V).Nodup ∧ (ordV b.st.V).length ≤ 16) := ⟨okO_nodup (ordV_ok _), okO_len (ordV_ok _)⟩
      have HCD : Hid (cndV b.st.V = cdI nx (ordV b.st.V) (ordV b.st.V).length) := by show _ = _; rw [cnd_cdI, hnx]
      generalize ordV b.st.V = ord at *
      have HNX := Lib.hid hnx
      clear hnx
      go_wp2_with fail
      refine HOD.out.mono ?_
      rintro e w2 ⟨vo, rfl, hro, hgo, b2⟩
      obtain ⟨oa, oc, rfl, hoc, hocm⟩ := hro.shape
      obtain ⟨m, hm⟩ : ∃ m, ord.length = m := ⟨_, rfl⟩
      have HM := Lib.hid hm
      rw [hm] at hro hgo hoc ⊢
      have HRO := Lib.hid hro
      have HC2 : Hid (OwI w2 w.heap.size (.slice xa nx.length xc) (cdI nx ord 0)) := by
        show OwI _ _ _ _
        unfold cdI
        rw [List.take_zero, List.filter_nil, List.append_nil]
        exact HC.out.below b2
      have HD2 : Hid (∀ k, (Value.slice xa nx.length xc).ownBlock = some k → (Value.slice oa m oc).ownBlock ≠ some k) := fun k hk q => by
        have h1 := (HC.out.lt k hk).2
        have h2 := hgo k q
        omega
      have HB2 : Hid (Below w.heap.size w w2) := HB1.out.trans (b2.mono HB1.out.size)
      clear HOD hro hgo b2 hm HC HB1
      go_wp2_with fail
      go_loopw [3, 41] (fun x z wr => ∃ i : Nat, i ≤ m ∧ z = .int .i64 (i : Int) ∧ Hid (OwI wr w.heap.size x (cdI nx ord i)) ∧ Hid (RdI wr (.slice oa m oc) ord) ∧ Hid (∀ k, x.ownBlock = some k → (Value.slice oa m oc).ownBlock ≠ some k) ∧ Hid (Below w.heap.size w wr)) (fun _ z _ => m - (intOf z).toNat)
      case atStart => exact ⟨0, by omega, rfl, HC2, HRO, HD2, HB2⟩
      case round =>
        clear HC2 HRO HD2 HB2
        obtain ⟨i, hi, rfl, HC, HRO, HDJ, HB⟩ := hrel
        obtain ⟨xa, xc, rfl⟩ := Ms.own_len HC.out
        by_cases hlt : i < m
        · have y0 : (i : Int) < m := by omega
          have hil : i < ord.length := by rw [HM.out]; exact hlt
          obtain ⟨g, o, c', e, _, _, hc⟩ := HRO.out.cellAt hil
          rw [HM.out] at e
          injection e with e1 _ e3
          subst e1 e3
          have HST := Lib.hid (cdI_step (nx := nx) HON.out.1 hil)
          have hcl := cdI_len nx ord i
          have hcl2 : (cdI nx ord i).length ≤ 17 := by have := HON.out.2; have := HNL.out; omega
          have HCT := Lib.hid (containsI_any HC.out.rd ord[i])
          generalize ord[i] = xi at *
          generalize cdI nx ord i = cd at *
          obtain ⟨ln, hln⟩ : ∃ ln, cd.length = ln := ⟨_, rfl⟩
          have HLN := Lib.hid hln
          rw [hln] at HC HCT HDJ hcl2 ⊢
          clear hln hcl hil
          go_wp2_with fail
          refine HCT.out.mono ?_
          rintro e w' ⟨rfl, rfl⟩
          clear HCT
          by_cases hmem : xi ∈ cd
          · have hd : decide (xi ∈ cd) = true := decide_eq_true hmem
            rw [hd]
            have HC3 : Hid (OwI w' w.heap.size (.slice xa ln xc) (cdI nx ord (i + 1))) := by rw [HST.out.1 hmem]; exact HC
            clear hmem hd HC HST
            go_wp2_with fail
            go_roundw
            case rel => exact ⟨i + 1, by omega, by go_num, HC3, HRO, HDJ, HB⟩
            case measure => simp [intOf]; omega
          · have hd : decide (xi ∈ cd) = false := decide_eq_false hmem
            rw [hd]
            have HCE : Hid (cdI nx ord (i + 1) = cd ++ [xi]) := HST.out.2 hmem
            have HC1 : Hid ((w'.alloc (.cells #[.int .i64 xi] 3)).ownsRow w.heap.size 3 1 (.slice xa ln xc) ln (ints cd)) := by
              have h9 := HC.out
              unfold OwI at h9
              rw [HLN.out] at h9
              exact ownN_ch h9 ((Ch.refl (fun _ => False) w').alloc _) (fun _ _ h => h)
            have HN1 : Hid (∀ j u, (ints [xi])[j]? = some u → (w'.alloc (.cells #[.int .i64 xi] 3)).cell? ((⟨w'.heap.size, 0, none⟩ : Addr).add j) = some u) := World.news_of_block (heap_alloc_new w' _) |> fun h => h
            have HB3 : Hid (Below w.heap.size w (w'.alloc (.cells #[.int .i64 xi] 3))) := HB.out.alloc HB.out.size _
            have HRO3 : Hid (RdI (w'.alloc (.cells #[.int .i64 xi] 3)) (.slice (some ⟨g, o, none⟩) m oc) ord) := HRO.out.ch ((Ch.refl (fun _ => False) w').alloc _) (fun _ _ h => h)
            have hsw : w.heap.size ≤ w'.heap.size := HB.out.size
            have hgl : g < w'.heap.size := by obtain ⟨_, _, e, _, _, h3, _⟩ := HRO.out; exact h3 g rfl
            have HLC : Hid ((ints cd).length = ln) := by rw [ints_len]; exact HLN.out
            clear hmem hd HC HST HB HRO
            go_wp2_with (at_builtin; refine wpList_append_lies _ rfl _ _ 36 rfl w.heap.size 3 i0 _ 1 8 Tryz.underlying36 hi0 hz0 hz1 hz2 (by kernel_rfl) (by omega) _ ln (ints cd) rfl (by exact HC1.out) ⟨w'.heap.size, 0, none⟩ 1 1 (ints [xi]) rfl rfl (by exact HN1.out) (ints_one _) (by omega) (by simp only [maxLen]; omega) (by omega) (by simp; omega) (w'.heap.size + 1) (by simp) ?_)
            intro g2 cap2 w5 hown5 hgrow5 hat5 hlt5
            have HB5 : Hid (Below w.heap.size w w5) := Below.grown HB3.out hgrow5 (by simp; omega) (fun k hk => (HC1.out.lt k hk).1)
            have HRO5 : Hid (RdI w5 (.slice (some ⟨g, o, none⟩) m oc) ord) := HRO3.out.ch (Ch.of_grown (C := fun k => k ≠ g) hgrow5 (fun k hk _ q => HDJ.out k hk (by rw [q]; rfl))) (fun k hk q => by
              have e : g = k := by simpa [Value.ownBlock] using hk
              exact q e.symm)
            have HDJ5 : Hid (∀ k, (Value.slice (some ⟨g2, 0, none⟩) (ln + 1) cap2).ownBlock = some k → (Value.slice (some ⟨g, o, none⟩) m oc).ownBlock ≠ some k) := fun k hk q => by
              have e : g2 = k := by simpa [Value.ownBlock] using hk
              have e2 : g = k := by simpa [Value.ownBlock] using q
              rcases hat5 with h | h
              · exact HDJ.out g2 h (by rw [e, ← e2]; rfl)
              · omega
            have HC5 : Hid (OwI w5 w.heap.size (.slice (some ⟨g2, 0, none⟩) (ln + 1) cap2) (cdI nx ord (i + 1))) := by
              rw [HCE.out]
              show World.ownsRow _ _ _ _ _ _ _
              rw [ints_snoc, List.length_append, HLN.out]
              exact hown5
            clear hown5 hgrow5 hat5 hlt5 HC1 HN1 HB3 HRO3 HDJ HCE
            go_wp2_with fail
            go_roundw
            case rel => exact ⟨i + 1, by omega, by go_num, HC5, HRO5, HDJ5, HB5⟩
            case measure => simp [intOf]; omega
        · have ei : i = m := by omega
          have y0 : ¬ (i : Int) < m := by omega
          subst ei
          have HWr := Lib.hid (HWW.out.below HB.out)
          rw [HM.out] at HCD
          generalize cdI nx ord i = cd at *
          have hcw : ∀ k, (Value.slice xa cd.length xc).ownBlock = some k → w.heap.size ≤ k := fun k hk => (HC.out.lt k hk).1
          have HCW := Lib.hid hcw
          have hrd := Lib.hid HC.out.rd
          have hOW : ∀ k, O k → N ≤ k ∧ k < w.heap.size := HWW.out.oN
          have HOW := Lib.hid hOW
          have hNW : N ≤ w.heap.size := HWW.out.N_le
          generalize cd.length = ln at *
          clear hcw hOW HC HRO HDJ
          have e0 : r = (0, { b with cand := cd, log := [], last := -1 }) := by rw [← HRE.out, beginB_none HGV.out, HCD.out]
          subst e0
          have hu : RdI wr (.slice xa ln xc) cd := hrd.out
          have ho : ∀ g, (Value.slice xa ln xc).ownBlock = some g → ¬ O g ∧ N ≤ g := fun g hk => ⟨fun q => by have := (HOW.out g q).2; have := HCW.out g hk; omega, by have := HCW.out g hk; omega⟩
          have q2 := HWr.out.mono (Nat.le_succ n)
          have f2 := q2.frz 2
          obtain ⟨vc, c2, _⟩ := q2.c2
          have hA := q2.takeCand hu ho
          have f3 := hA.frz 3
          obtain ⟨vl, c3, _⟩ := hA.c3
          have hB := hA.takeLog (u := .slice none 0 0) (l' := []) ⟨rfl, .inl ⟨rfl, rfl⟩⟩ (fun _ h => (by cases h))
          have f4 := hB.frz 4
          have c4 := hB.c4
          have c2' := c2
          obtain ⟨O2, r1, r2⟩ := q2.begun hu ho
          have HF : Hid (MLeft w (((wr.setCell ⟨M, 2, none⟩ (.slice xa ln xc)).setCell ⟨M, 3, none⟩ (.slice none 0 0)).setCell ⟨M, 4, none⟩ (.int .i64 (-1))) N O M S L (n + 1) { b with cand := cd, log := [], last := -1 }) :=
            ⟨O2, fun k hk => (r1 k hk).imp id (HCW.out k), r2, (((Ch.of_below HB.out O).setCell (p := ⟨M, 2, none⟩) (fun _ => HWW.out.OM) _).setCell (p := ⟨M, 3, none⟩) (fun _ => HWW.out.OM) _).setCell (p := ⟨M, 4, none⟩) (fun _ => HWW.out.OM) _⟩
          clear hA hB r1 r2 hu ho q2 HOW HCW hrd HB HWr HRE HGV HCD
          go_wp2_with fail
          go_ret
          exact ⟨rfl, HF.out⟩
  · obtain ⟨vb, hvb⟩ : ∃ vb : ByteArray, str v = .string vb := ⟨_, rfl⟩
    have HVB : Hid (vb.data.toList = v) := by
      show _ = _
      unfold str at hvb
      injection hvb with hvb
      rw [← hvb]
    have HG : Hid (Calls Tryz.prog 56 #[fptr S, .string ⟨#[78, 101, 120, 116]⟩] w fun e w' => e = .returned (.tuple #[.string vb, .int .i64 0]) ∧ w = w') := by
      unfold getS at HG0
      rw [hg] at HG0
      rw [← hvb]
      exact HG0
    have HGV := Lib.hid hg
    obtain ⟨r, hr⟩ : ∃ r, beginB b = r := ⟨_, rfl⟩
    have HRE := Lib.hid hr
    rw [hr]
    have hvz : vb.size = v.length := by rw [bsz, HVB.out]
    have HNL : Hid ((nxtV b.st.V).length ≤ 1) := nxtV_len _
    have HC0 : Hid (nxtV b.st.V = [] → OwI w w.heap.size (.slice none 0 0) (nxtV b.st.V)) := fun e => by rw [e]; exact ⟨rfl, .inl ⟨rfl, rfl⟩⟩
    have HB1 : Hid (Below w.heap.size w w) := Below.refl _ _
    clear HG0 h hr hvb
    by_cases h1 : v.length = 1
    · obtain ⟨x, hx⟩ : ∃ x, v = [x] := List.length_eq_one_iff.1 h1
      have hz1' : vb.size = 1 := by rw [hvz, h1]
      have l0 : 0 < vb.size := by rw [hz1']; omega
      obtain ⟨y, hy⟩ : ∃ y, (vb[0]'l0).toNat = y := ⟨_, rfl⟩
      have hy2 : x.toNat = y := by rw [← hy, ba_at, HVB.out, hx]; rfl
      have hyb : y < 256 := by rw [← hy]; exact (vb[0]'l0).toNat_lt
      have hwy : IntKind.i64.wrap (y : Int) = (y : Int) := IntWalk.i64_in _ ⟨by omega, by omega⟩
      have HI := Lib.hid (isid_any (y : Int) w)
      have HNV : Hid (nxtV b.st.V = if isId (y : Int) = true then [(y : Int)] else []) := by
        show _ = _
        unfold nxtV
        rw [hg, hx]
        simp only [hy2]
      cases hid : isId (y : Int)
      · rw [hid] at HI
        have HC : Hid (OwI w w.heap.size (.slice none 0 0) (nxtV b.st.V)) := HC0.out (by rw [HNV.out, hid]; rfl)
        clear HC0 HNV hg hid hy2 hx h1 hvz HVB
        go_enter Tryz.func16, Tryz.ntmps16
        go_upto_if 31 with (first | (refine HG.out.mono ?_; rintro e w' ⟨rfl, rfl⟩) | (refine HI.out.mono ?_; rintro e w' ⟨rfl, rfl⟩))
        clear HG HI
        go_cut [3] (fun x wc => Hid (OwI wc w.heap.size x (nxtV b.st.V)) ∧ Hid (Below w.heap.size w wc))
        case first =>
          clear c0
          go_wp2_with fail
          go_meet
          exact ⟨HC, HB1⟩
        case rest =>
          clear HC HB1 hy hz1' l0
          obtain ⟨HC, HB1⟩ := hcut
          obtain ⟨nx, hnx⟩ : ∃ nx, nxtV b.st.V = nx := ⟨_, rfl⟩
          rw [hnx] at HC HNL
          obtain ⟨xa, xc, rfl⟩ := Ms.own_len HC.out
          have HOD := Lib.hid (order_any (HWW.out.below HB1.out))
          have HON : Hid ((ordV b.st.V).Nodup ∧ (ordV b.st.V).length ≤ 16) := ⟨okO_nodup (ordV_ok _), okO_len (ordV_ok _)⟩
          have HCD : Hid (cndV b.st.V = cdI nx (ordV b.st.V) (ordV b.st.V).length) := by show _ = _; rw [cnd_cdI, hnx]
          generalize ordV b.st.V = ord at *
          have HNX := Lib.hid hnx
          clear hnx
          go_wp2_with fail
          refine HOD.out.mono ?_
          rintro e w2 ⟨vo, rfl, hro, hgo, b2⟩
          obtain ⟨oa, oc, rfl, hoc, hocm⟩ := hro.shape
          obtain ⟨m, hm⟩ : ∃ m, ord.length = m := ⟨_, rfl⟩
          have HM := Lib.hid hm
          rw [hm] at hro hgo hoc ⊢
          have HRO := Lib.hid hro
          have HC2 : Hid (OwI w2 w.heap.size (.slice xa nx.length xc) (cdI nx ord 0)) := by
            show OwI _ _ _ _
            unfold cdI
            rw [List.take_zero, List.filter_nil, List.append_nil]
            exact HC.out.below b2
          have HD2 : Hid (∀ k, (Value.slice xa nx.length xc).ownBlock = some k → (Value.slice oa m oc).ownBlock ≠ some k) := fun k hk q => by
            have h1 := (HC.out.lt k hk).2
            have h2 := hgo k q
            omega
          have HB2 : Hid (Below w.heap.size w w2) := HB1.out.trans (b2.mono HB1.out.size)
          clear HOD hro hgo b2 hm HC HB1
          go_wp2_with fail
          go_loopw [3, 41] (fun x z wr => ∃ i : Nat, i ≤ m ∧ z = .int .i64 (i : Int) ∧ Hid (OwI wr w.heap.size x (cdI nx ord i)) ∧ Hid (RdI wr (.slice oa m oc) ord) ∧ Hid (∀ k, x.ownBlock = some k → (Value.slice oa m oc).ownBlock ≠ some k) ∧ Hid (Below w.heap.size w wr)) (fun _ z _ => m - (intOf z).toNat)
          case atStart => exact ⟨0, by omega, rfl, HC2, HRO, HD2, HB2⟩
          case round =>
            clear HC2 HRO HD2 HB2
            obtain ⟨i, hi, rfl, HC, HRO, HDJ, HB⟩ := hrel
            obtain ⟨xa, xc, rfl⟩ := Ms.own_len HC.out
            by_cases hlt : i < m
            · have y0 : (i : Int) < m := by omega
              have hil : i < ord.length := by rw [HM.out]; exact hlt
              obtain ⟨g, o, c', e, _, _, hc⟩ := HRO.out.cellAt hil
              rw [HM.out] at e
              injection e with e1 _ e3
              subst e1 e3
              have HST := Lib.hid (cdI_step (nx := nx) HON.out.1 hil)
              have hcl := cdI_len nx ord i
              have hcl2 : (cdI nx ord i).length ≤ 17 := by have := HON.out.2; have := HNL.out; omega
              have HCT := Lib.hid (containsI_any HC.out.rd ord[i])
              generalize ord[i] = xi at *
              generalize cdI nx ord i = cd at *
              obtain ⟨ln, hln⟩ : ∃ ln, cd.length = ln := ⟨_, rfl⟩
              have HLN := Lib.hid hln
              rw [hln] at HC HCT HDJ hcl2 ⊢
              clear hln hcl hil
              go_wp2_with fail
              refine HCT.out.mono ?_
              rintro e w' ⟨rfl, rfl⟩
              clear HCT
              by_cases hmem : xi ∈ cd
              · have hd : decide (xi ∈ cd) = true := decide_eq_true hmem
                rw [hd]
                have HC3 : Hid (OwI w' w.heap.size (.slice xa ln xc) (cdI nx ord (i + 1))) := by rw [HST.out.1 hmem]; exact HC
                clear hmem hd HC HST
                go_wp2_with fail
                go_roundw
                case rel => exact ⟨i + 1, by omega, by go_num, HC3, HRO, HDJ, HB⟩
                case measure => simp [intOf]; omega
              · have hd : decide (xi ∈ cd) = false := decide_eq_false hmem
                rw [hd]
                have HCE : Hid (cdI nx ord (i + 1) = cd ++ [xi]) := HST.out.2 hmem
                have HC1 : Hid ((w'.alloc (.cells #[.int .i64 xi] 3)).ownsRow w.heap.size 3 1 (.slice xa ln xc) ln (ints cd)) := by
                  have h9 := HC.out
                  unfold OwI at h9
                  rw [HLN.out] at h9
                  exact ownN_ch h9 ((Ch.refl (fun _ => False) w').alloc _) (fun _ _ h => h)
                have HN1 : Hid (∀ j u, (ints [xi])[j]? = some u → (w'.alloc (.cells #[.int .i64 xi] 3)).cell? ((⟨w'.heap.size, 0, none⟩ : Addr).add j) = some u) := World.news_of_block (heap_alloc_new w' _) |> fun h => h
                have HB3 : Hid (Below w.heap.size w (w'.alloc (.cells #[.int .i64 xi] 3))) := HB.out.alloc HB.out.size _
                have HRO3 : Hid (RdI (w'.alloc (.cells #[.int .i64 xi] 3)) (.slice (some ⟨g, o, none⟩) m oc) ord) := HRO.out.ch ((Ch.refl (fun _ => False) w').alloc _) (fun _ _ h => h)
                have hsw : w.heap.size ≤ w'.heap.size := HB.out.size
                have hgl : g < w'.heap.size := by obtain ⟨_, _, e, _, _, h3, _⟩ := HRO.out; exact h3 g rfl
                have HLC : Hid ((ints cd).length = ln) := by rw [ints_len]; exact HLN.out
                clear hmem hd HC HST HB HRO
                go_wp2_with (at_builtin; refine wpList_append_lies _ rfl _ _ 36 rfl w.heap.size 3 i0 _ 1 8 Tryz.underlying36 hi0 hz0 hz1 hz2 (by kernel_rfl) (by omega) _ ln (ints cd) rfl (by exact HC1.out) ⟨w'.heap.size, 0, none⟩ 1 1 (ints [xi]) rfl rfl (by exact HN1.out) (ints_one _) (by omega) (by simp only [maxLen]; omega) (by omega) (by simp; omega) (w'.heap.size + 1) (by simp) ?_)
                intro g2 cap2 w5 hown5 hgrow5 hat5 hlt5
                have HB5 : Hid (Below w.heap.size w w5) := Below.grown HB3.out hgrow5 (by simp; omega) (fun k hk => (HC1.out.lt k hk).1)
                have HRO5 : Hid (RdI w5 (.slice (some ⟨g, o, none⟩) m oc) ord) := HRO3.out.ch (Ch.of_grown (C := fun k => k ≠ g) hgrow5 (fun k hk _ q => HDJ.out k hk (by rw [q]; rfl))) (fun k hk q => by
                  have e : g = k := by simpa [Value.ownBlock] using hk
                  exact q e.symm)
                have HDJ5 : Hid (∀ k, (Value.slice (some ⟨g2, 0, none⟩) (ln + 1) cap2).ownBlock = some k → (Value.slice (some ⟨g, o, none⟩) m oc).ownBlock ≠ some k) := fun k hk q => by
                  have e : g2 = k := by simpa [Value.ownBlock] using hk
                  have e2 : g = k := by simpa [Value.ownBlock] using q
                  rcases hat5 with h | h
                  · exact HDJ.out g2 h (by rw [e, ← e2]; rfl)
                  · omega
                have HC5 : Hid (OwI w5 w.heap.size (.slice (some ⟨g2, 0, none⟩) (ln + 1) cap2) (cdI nx ord (i + 1))) := by
                  rw [HCE.out]
                  show World.ownsRow _ _ _ _ _ _ _
                  rw [ints_snoc, List.length_append, HLN.out]
                  exact hown5
                clear hown5 hgrow5 hat5 hlt5 HC1 HN1 HB3 HRO3 HDJ HCE
                go_wp2_with fail
                go_roundw
                case rel => exact ⟨i + 1, by omega, by go_num, HC5, HRO5, HDJ5, HB5⟩
                case measure => simp [intOf]; omega
            · have ei : i = m := by omega
              have y0 : ¬ (i : Int) < m := by omega
              subst ei
              have HWr := Lib.hid (HWW.out.below HB.out)
              rw [HM.out] at HCD
              generalize cdI nx ord i = cd at *
              have hcw : ∀ k, (Value.slice xa cd.length xc).ownBlock = some k → w.heap.size ≤ k := fun k hk => (HC.out.lt k hk).1
              have HCW := Lib.hid hcw
              have hrd := Lib.hid HC.out.rd
              have hOW : ∀ k, O k → N ≤ k ∧ k < w.heap.size := HWW.out.oN
              have HOW := Lib.hid hOW
              have hNW : N ≤ w.heap.size := HWW.out.N_le
              generalize cd.length = ln at *
              clear hcw hOW HC HRO HDJ
              have HDL := Lib.hid (HWr.out.delB hb hn (ke := ⟨#[78, 101, 120, 116]⟩) (k := nmN) (by decide) rfl)
              have c0 := HWr.out.c0
              obtain ⟨de, hde⟩ : ∃ e, (delB b nmN).1 = e := ⟨_, rfl⟩
              obtain ⟨bd, hbd⟩ : ∃ e, (delB b nmN).2 = e := ⟨_, rfl⟩
              have hdp : delB b nmN = (de, bd) := by rw [← hde, ← hbd]
              rw [hdp] at HDL
              go_wp2_with fail
              refine HDL.out.mono ?_
              rintro e w5 ⟨rfl, hl⟩
              have HLf := Lib.hid hl
              clear hl HDL c0
              by_cases h0 : de = 0
              · have e0 : r = (0, { bd with cand := cd, log := [], last := -1 }) := by
                  rw [← HRE.out, beginB_ok HGV.out (by rw [hde]; exact h0), hbd, HCD.out]
                subst e0 h0
                obtain ⟨O', q0, q2, q3⟩ := HLf.out
                have hu : RdI w5 (.slice xa ln xc) cd := hrd.out.ch q3 (fun g hk q => by have := (HOW.out g q).2; have := HCW.out g hk; omega)
                have ho : ∀ g, (Value.slice xa ln xc).ownBlock = some g → ¬ O' g ∧ N ≤ g := fun g hk => ⟨fun q => by
                  have h1 := HCW.out g hk
                  rcases q0 g q with q | q
                  · have := (HOW.out g q).2; omega
                  · have := hrd.out
                    obtain ⟨_, _, _, _, _, h3, _⟩ := this
                    have := h3 g hk
                    omega, by have := HCW.out g hk; omega⟩
                have f2 := q2.frz 2
                obtain ⟨vc, c2, _⟩ := q2.c2
                have hA := q2.takeCand hu ho
                have f3 := hA.frz 3
                obtain ⟨vl, c3, _⟩ := hA.c3
                have hB := hA.takeLog (u := .slice none 0 0) (l' := []) ⟨rfl, .inl ⟨rfl, rfl⟩⟩ (fun _ h => (by cases h))
                have f4 := hB.frz 4
                have c4 := hB.c4
                have c2' := c2
                obtain ⟨O2, r1, r2⟩ := q2.begun hu ho
                have HF : Hid (MLeft w (((w5.setCell ⟨M, 2, none⟩ (.slice xa ln xc)).setCell ⟨M, 3, none⟩ (.slice none 0 0)).setCell ⟨M, 4, none⟩ (.int .i64 (-1))) N O M S L (n + 1) { bd with cand := cd, log := [], last := -1 }) :=
                  ⟨O2, fun k hk => (r1 k hk).elim (fun h => (q0 k h).imp id (fun q => Nat.le_trans HB.out.size q)) (fun h => .inr (HCW.out k h)), r2, ((((Ch.of_below HB.out O).trans q3).setCell (p := ⟨M, 2, none⟩) (fun _ => HWW.out.OM) _).setCell (p := ⟨M, 3, none⟩) (fun _ => HWW.out.OM) _).setCell (p := ⟨M, 4, none⟩) (fun _ => HWW.out.OM) _⟩
                clear hA hB r1 r2 hu ho q2 q0 q3 HOW HCW hrd HB HWr HLf HRE HCD HGV hde hbd hdp
                go_wp2_with fail
                go_ret
                exact ⟨rfl, HF.out⟩
              · have e0 : r = (de, bd) := by rw [← HRE.out, beginB_bad HGV.out (by rw [hde]; exact h0), hdp]
                subst e0
                have h0b : (de != 0) = true := by rw [bne_iff_ne]; exact h0
                have HF : Hid (MLeft w w5 N O M S L (n + 1) bd) := HLf.out.after HB.out
                clear HLf HRE HCD HGV hde hbd hdp HOW HCW hrd HB HWr
                go_wp2_with fail
                go_ret
                exact ⟨rfl, HF.out⟩
      · rw [hid] at HI
        have hNV : nxtV b.st.V = [(y : Int)] := by rw [HNV.out, hid]; rfl
        have HOA : Hid ((w.alloc (.cells #[.int .i64 (y : Int)] 3)).ownsRow w.heap.size 3 1 (.slice none 0 0) 0 (ints [])) := ⟨rfl, .inl ⟨rfl, rfl⟩⟩
        have HN1 : Hid (∀ j u, (ints [(y : Int)])[j]? = some u → (w.alloc (.cells #[.int .i64 (y : Int)] 3)).cell? ((⟨w.heap.size, 0, none⟩ : Addr).add j) = some u) := World.news_of_block (heap_alloc_new w _) |> fun h => h
        have HB0 : Hid (Below w.heap.size w (w.alloc (.cells #[.int .i64 (y : Int)] 3))) := HB1.out.alloc (Nat.le_refl _) _
        clear HC0 HNV hg hid hy2 hx h1 hvz HVB
        go_enter Tryz.func16, Tryz.ntmps16
        go_upto_if 31 with (first | (refine HG.out.mono ?_; rintro e w' ⟨rfl, rfl⟩) | (refine HI.out.mono ?_; rintro e w' ⟨rfl, rfl⟩))
        clear HG HI
        go_cut [3] (fun x wc => Hid (OwI wc w.heap.size x (nxtV b.st.V)) ∧ Hid (Below w.heap.size w wc))
        case first =>
          clear c0
          go_wp2_with (at_builtin; refine wpList_append_lies _ rfl _ _ 36 rfl w.heap.size 3 i0 _ 1 8 Tryz.underlying36 hi0 hz0 hz1 hz2 (by kernel_rfl) (by omega) _ 0 (ints []) rfl (by exact HOA.out) ⟨w.heap.size, 0, none⟩ 1 1 (ints [(y : Int)]) rfl rfl (by exact HN1.out) (ints_one _) (by omega) (by simp only [maxLen]; omega) (by omega) (by simp) (w.heap.size + 1) (by simp) ?_)
          intro g2 cap2 w5 hown5 hgrow5 hat5 hlt5
          have HB5 : Hid (Below w.heap.size w w5) := Below.grown HB0.out hgrow5 (by simp) (fun k hk => (by cases hk))
          have HC5 : Hid (OwI w5 w.heap.size (.slice (some ⟨g2, 0, none⟩) 1 cap2) (nxtV b.st.V)) := by rw [hNV]; exact hown5
          clear hown5 hgrow5 hat5 hlt5
          go_wp2_with fail
          go_meet
          exact ⟨HC5, HB5⟩
        case rest =>
          clear HOA HN1 HB0 HB1 hNV hy hz1' l0
          obtain ⟨HC, HB1⟩ := hcut
          obtain ⟨nx, hnx⟩ : ∃ nx, nxtV b.st.V = nx := ⟨_, rfl⟩
          rw [hnx] at HC HNL
          obtain ⟨xa, xc, rfl⟩ := Ms.own_len HC.out
          have HOD := Lib.hid (order_any (HWW.out.below HB1.out))
          have HON : Hid ((ordV b.st.V).Nodup ∧ (ordV b.st.V).length ≤ 16) := ⟨okO_nodup (ordV_ok _), okO_len (ordV_ok _)⟩
          have HCD : Hid (cndV b.st.V = cdI nx (ordV b.st.V) (ordV b.st.V).length) := by show _ = _; rw [cnd_cdI, hnx]
          generalize ordV b.st.V = ord at *
          have HNX := Lib.hid hnx
          clear hnx
          go_wp2_with fail
          refine HOD.out.mono ?_
          rintro e w2 ⟨vo, rfl, hro, hgo, b2⟩
          obtain ⟨oa, oc, rfl, hoc, hocm⟩ := hro.shape
          obtain ⟨m, hm⟩ : ∃ m, ord.length = m := ⟨_, rfl⟩
          have HM := Lib.hid hm
          rw [hm] at hro hgo hoc ⊢
          have HRO := Lib.hid hro
          have HC2 : Hid (OwI w2 w.heap.size (.slice xa nx.length xc) (cdI nx ord 0)) := by
            show OwI _ _ _ _
            unfold cdI
            rw [List.take_zero, List.filter_nil, List.append_nil]
            exact HC.out.below b2
          have HD2 : Hid (∀ k, (Value.slice xa nx.length xc).ownBlock = some k → (Value.slice oa m oc).ownBlock ≠ some k) := fun k hk q => by
            have h1 := (HC.out.lt k hk).2
            have h2 := hgo k q
            omega
          have HB2 : Hid (Below w.heap.size w w2) := HB1.out.trans (b2.mono HB1.out.size)
          clear HOD hro hgo b2 hm HC HB1
          go_wp2_with fail
          go_loopw [3, 41] (fun x z wr => ∃ i : Nat, i ≤ m ∧ z = .int .i64 (i : Int) ∧ Hid (OwI wr w.heap.size x (cdI nx ord i)) ∧ Hid (RdI wr (.slice oa m oc) ord) ∧ Hid (∀ k, x.ownBlock = some k → (Value.slice oa m oc).ownBlock ≠ some k) ∧ Hid (Below w.heap.size w wr)) (fun _ z _ => m - (intOf z).toNat)
          case atStart => exact ⟨0, by omega, rfl, HC2, HRO, HD2, HB2⟩
          case round =>
            clear HC2 HRO HD2 HB2
            obtain ⟨i, hi, rfl, HC, HRO, HDJ, HB⟩ := hrel
            obtain ⟨xa, xc, rfl⟩ := Ms.own_len HC.out
            by_cases hlt : i < m
            · have y0 : (i : Int) < m := by omega
              have hil : i < ord.length := by rw [HM.out]; exact hlt
              obtain ⟨g, o, c', e, _, _, hc⟩ := HRO.out.cellAt hil
              rw [HM.out] at e
              injection e with e1 _ e3
              subst e1 e3
              have HST := Lib.hid (cdI_step (nx := nx) HON.out.1 hil)
              have hcl := cdI_len nx ord i
              have hcl2 : (cdI nx ord i).length ≤ 17 := by have := HON.out.2; have := HNL.out; omega
              have HCT := Lib.hid (containsI_any HC.out.rd ord[i])
              generalize ord[i] = xi at *
              generalize cdI nx ord i = cd at *
              obtain ⟨ln, hln⟩ : ∃ ln, cd.length = ln := ⟨_, rfl⟩
              have HLN := Lib.hid hln
              rw [hln] at HC HCT HDJ hcl2 ⊢
              clear hln hcl hil
              go_wp2_with fail
              refine HCT.out.mono ?_
              rintro e w' ⟨rfl, rfl⟩
              clear HCT
              by_cases hmem : xi ∈ cd
              · have hd : decide (xi ∈ cd) = true := decide_eq_true hmem
                rw [hd]
                have HC3 : Hid (OwI w' w.heap.size (.slice xa ln xc) (cdI nx ord (i + 1))) := by rw [HST.out.1 hmem]; exact HC
                clear hmem hd HC HST
                go_wp2_with fail
                go_roundw
                case rel => exact ⟨i + 1, by omega, by go_num, HC3, HRO, HDJ, HB⟩
                case measure => simp [intOf]; omega
              · have hd : decide (xi ∈ cd) = false := decide_eq_false hmem
                rw [hd]
                have HCE : Hid (cdI nx ord (i + 1) = cd ++ [xi]) := HST.out.2 hmem
                have HC1 : Hid ((w'.alloc (.cells #[.int .i64 xi] 3)).ownsRow w.heap.size 3 1 (.slice xa ln xc) ln (ints cd)) := by
                  have h9 := HC.out
                  unfold OwI at h9
                  rw [HLN.out] at h9
                  exact ownN_ch h9 ((Ch.refl (fun _ => False) w').alloc _) (fun _ _ h => h)
                have HN1 : Hid (∀ j u, (ints [xi])[j]? = some u → (w'.alloc (.cells #[.int .i64 xi] 3)).cell? ((⟨w'.heap.size, 0, none⟩ : Addr).add j) = some u) := World.news_of_block (heap_alloc_new w' _) |> fun h => h
                have HB3 : Hid (Below w.heap.size w (w'.alloc (.cells #[.int .i64 xi] 3))) := HB.out.alloc HB.out.size _
                have HRO3 : Hid (RdI (w'.alloc (.cells #[.int .i64 xi] 3)) (.slice (some ⟨g, o, none⟩) m oc) ord) := HRO.out.ch ((Ch.refl (fun _ => False) w').alloc _) (fun _ _ h => h)
                have hsw : w.heap.size ≤ w'.heap.size := HB.out.size
                have hgl : g < w'.heap.size := by obtain ⟨_, _, e, _, _, h3, _⟩ := HRO.out; exact h3 g rfl
                have HLC : Hid ((ints cd).length = ln) := by rw [ints_len]; exact HLN.out
                clear hmem hd HC HST HB HRO
                go_wp2_with (at_builtin; refine wpList_append_lies _ rfl _ _ 36 rfl w.heap.size 3 i0 _ 1 8 Tryz.underlying36 hi0 hz0 hz1 hz2 (by kernel_rfl) (by omega) _ ln (ints cd) rfl (by exact HC1.out) ⟨w'.heap.size, 0, none⟩ 1 1 (ints [xi]) rfl rfl (by exact HN1.out) (ints_one _) (by omega) (by simp only [maxLen]; omega) (by omega) (by simp; omega) (w'.heap.size + 1) (by simp) ?_)
                intro g2 cap2 w5 hown5 hgrow5 hat5 hlt5
                have HB5 : Hid (Below w.heap.size w w5) := Below.grown HB3.out hgrow5 (by simp; omega) (fun k hk => (HC1.out.lt k hk).1)
                have HRO5 : Hid (RdI w5 (.slice (some ⟨g, o, none⟩) m oc) ord) := HRO3.out.ch (Ch.of_grown (C := fun k => k ≠ g) hgrow5 (fun k hk _ q => HDJ.out k hk (by rw [q]; rfl))) (fun k hk q => by
                  have e : g = k := by simpa [Value.ownBlock] using hk
                  exact q e.symm)
                have HDJ5 : Hid (∀ k, (Value.slice (some ⟨g2, 0, none⟩) (ln + 1) cap2).ownBlock = some k → (Value.slice (some ⟨g, o, none⟩) m oc).ownBlock ≠ some k) := fun k hk q => by
                  have e : g2 = k := by simpa [Value.ownBlock] using hk
                  have e2 : g = k := by simpa [Value.ownBlock] using q
                  rcases hat5 with h | h
                  · exact HDJ.out g2 h (by rw [e, ← e2]; rfl)
                  · omega
                have HC5 : Hid (OwI w5 w.heap.size (.slice (some ⟨g2, 0, none⟩) (ln + 1) cap2) (cdI nx ord (i + 1))) := by
                  rw [HCE.out]
                  show World.ownsRow _ _ _ _ _ _ _
                  rw [ints_snoc, List.length_append, HLN.out]
                  exact hown5
                clear hown5 hgrow5 hat5 hlt5 HC1 HN1 HB3 HRO3 HDJ HCE
                go_wp2_with fail
                go_roundw
                case rel => exact ⟨i + 1, by omega, by go_num, HC5, HRO5, HDJ5, HB5⟩
                case measure => simp [intOf]; omega
            · have ei : i = m := by omega
              have y0 : ¬ (i : Int) < m := by omega
              subst ei
              have HWr := Lib.hid (HWW.out.below HB.out)
              rw [HM.out] at HCD
              generalize cdI nx ord i = cd at *
              have hcw : ∀ k, (Value.slice xa cd.length xc).ownBlock = some k → w.heap.size ≤ k := fun k hk => (HC.out.lt k hk).1
              have HCW := Lib.hid hcw
              have hrd := Lib.hid HC.out.rd
              have hOW : ∀ k, O k → N ≤ k ∧ k < w.heap.size := HWW.out.oN
              have HOW := Lib.hid hOW
              have hNW : N ≤ w.heap.size := HWW.out.N_le
              generalize cd.length = ln at *
              clear hcw hOW HC HRO HDJ
              have HDL := Lib.hid (HWr.out.delB hb hn (ke := ⟨#[78, 101, 120, 116]⟩) (k := nmN) (by decide) rfl)
              have c0 := HWr.out.c0
              obtain ⟨de, hde⟩ : ∃ e, (delB b nmN).1 = e := ⟨_, rfl⟩
              obtain ⟨bd, hbd⟩ : ∃ e, (delB b nmN).2 = e := ⟨_, rfl⟩
              have hdp : delB b nmN = (de, bd) := by rw [← hde, ← hbd]
              rw [hdp] at HDL
              go_wp2_with fail
              refine HDL.out.mono ?_
              rintro e w5 ⟨rfl, hl⟩
              have HLf := Lib.hid hl
              clear hl HDL c0
              by_cases h0 : de = 0
              · have e0 : r = (0, { bd with cand := cd, log := [], last := -1 }) := by
                  rw [← HRE.out, beginB_ok HGV.out (by rw [hde]; exact h0), hbd, HCD.out]
                subst e0 h0
                obtain ⟨O', q0, q2, q3⟩ := HLf.out
                have hu : RdI w5 (.slice xa ln xc) cd := hrd.out.ch q3 (fun g hk q => by have := (HOW.out g q).2; have := HCW.out g hk; omega)
                have ho : ∀ g, (Value.slice xa ln xc).ownBlock = some g → ¬ O' g ∧ N ≤ g := fun g hk => ⟨fun q => by
                  have h1 := HCW.out g hk
                  rcases q0 g q with q | q
                  · have := (HOW.out g q).2; omega
                  · have := hrd.out
                    obtain ⟨_, _, _, _, _, h3, _⟩ := this
                    have := h3 g hk
                    omega, by have := HCW.out g hk; omega⟩
                have f2 := q2.frz 2
                obtain ⟨vc, c2, _⟩ := q2.c2
                have hA := q2.takeCand hu ho
                have f3 := hA.frz 3
                obtain ⟨vl, c3, _⟩ := hA.c3
                have hB := hA.takeLog (u := .slice none 0 0) (l' := []) ⟨rfl, .inl ⟨rfl, rfl⟩⟩ (fun _ h => (by cases h))
                have f4 := hB.frz 4
                have c4 := hB.c4
                have c2' := c2
                obtain ⟨O2, r1, r2⟩ := q2.begun hu ho
                have HF : Hid (MLeft w (((w5.setCell ⟨M, 2, none⟩ (.slice xa ln xc)).setCell ⟨M, 3, none⟩ (.slice none 0 0)).setCell ⟨M, 4, none⟩ (.int .i64 (-1))) N O M S L (n + 1) { bd with cand := cd, log := [], last := -1 }) :=
                  ⟨O2, fun k hk => (r1 k hk).elim (fun h => (q0 k h).imp id (fun q => Nat.le_trans HB.out.size q)) (fun h => .inr (HCW.out k h)), r2, ((((Ch.of_below HB.out O).trans q3).setCell (p := ⟨M, 2, none⟩) (fun _ => HWW.out.OM) _).setCell (p := ⟨M, 3, none⟩) (fun _ => HWW.out.OM) _).setCell (p := ⟨M, 4, none⟩) (fun _ => HWW.out.OM) _⟩
                clear hA hB r1 r2 hu ho q2 q0 q3 HOW HCW hrd HB HWr HLf HRE HCD HGV hde hbd hdp
                go_wp2_with fail
                go_ret
                exact ⟨rfl, HF.out⟩
              · have e0 : r = (de, bd) := by rw [← HRE.out, beginB_bad HGV.out (by rw [hde]; exact h0), hdp]
                subst e0
                have h0b : (de != 0) = true := by rw [bne_iff_ne]; exact h0
                have HF : Hid (MLeft w w5 N O M S L (n + 1) bd) := HLf.out.after HB.out
                clear HLf HRE HCD HGV hde hbd hdp HOW HCW hrd HB HWr
                go_wp2_with fail
                go_ret
                exact ⟨rfl, HF.out⟩
    · have h1I : ¬ ((vb.size : Int) = 1) := by omega
      have h1b : ((vb.size : Int) == 1) = false := by simpa using h1I
      have HC : Hid (OwI w w.heap.size (.slice none 0 0) (nxtV b.st.V)) := HC0.out (by
        unfold nxtV
        rw [hg]
        split
        · rename_i q; injection q with q; rw [q] at h1; simp at h1
        · rfl)
      clear HC0 hg h1 hvz HVB
      go_enter Tryz.func16, Tryz.ntmps16
      go_upto_if 31 with (refine HG.out.mono ?_; rintro e w' ⟨rfl, rfl⟩)
      clear HG
      go_cut [3] (fun x wc => Hid (OwI wc w.heap.size x (nxtV b.st.V)) ∧ Hid (Below w.heap.size w wc))
      case first =>
        clear c0
        go_wp2_with fail
        go_meet
        exact ⟨HC, HB1⟩
      case rest =>
        clear HC HB1 h1I h1b
        obtain ⟨HC, HB1⟩ := hcut
        obtain ⟨nx, hnx⟩ : ∃ nx, nxtV b.st.V = nx := ⟨_, rfl⟩
        rw [hnx] at HC HNL
        obtain ⟨xa, xc, rfl⟩ := Ms.own_len HC.out
        have HOD := Lib.hid (order_any (HWW.out.below HB1.out))
        have HON : Hid ((ordV b.st.V).Nodup ∧ (ordV b.st.V).length ≤ 16) := ⟨okO_nodup (ordV_ok _), okO_len (ordV_ok _)⟩
        have HCD : Hid (cndV b.st.V = cdI nx (ordV b.st.V) (ordV b.st.V).length) := by show _ = _; rw [cnd_cdI, hnx]
        generalize ordV b.st.V = ord at *
        have HNX := Lib.hid hnx
        clear hnx
        go_wp2_with fail
        refine HOD.out.mono ?_
        rintro e w2 ⟨vo, rfl, hro, hgo, b2⟩
        obtain ⟨oa, oc, rfl, hoc, hocm⟩ := hro.shape
        obtain ⟨m, hm⟩ : ∃ m, ord.length = m := ⟨_, rfl⟩
        have HM := Lib.hid hm
        rw [hm] at hro hgo hoc ⊢
        have HRO := Lib.hid hro
        have HC2 : Hid (OwI w2 w.heap.size (.slice xa nx.length xc) (cdI nx ord 0)) := by
          show OwI _ _ _ _
          unfold cdI
          rw [List.take_zero, List.filter_nil, List.append_nil]
          exact HC.out.below b2
        have HD2 : Hid (∀ k, (Value.slice xa nx.length xc).ownBlock = some k → (Value.slice oa m oc).ownBlock ≠ some k) := fun k hk q => by
          have h1 := (HC.out.lt k hk).2
          have h2 := hgo k q
          omega
        have HB2 : Hid (Below w.heap.size w w2) := HB1.out.trans (b2.mono HB1.out.size)
        clear HOD hro hgo b2 hm HC HB1
        go_wp2_with fail
        go_loopw [3, 41] (fun x z wr => ∃ i : Nat, i ≤ m ∧ z = .int .i64 (i : Int) ∧ Hid (OwI wr w.heap.size x (cdI nx ord i)) ∧ Hid (RdI wr (.slice oa m oc) ord) ∧ Hid (∀ k, x.ownBlock = some k → (Value.slice oa m oc).ownBlock ≠ some k) ∧ Hid (Below w.heap.size w wr)) (fun _ z _ => m - (intOf z).toNat)
        case atStart => exact ⟨0, by omega, rfl, HC2, HRO, HD2, HB2⟩
        case round =>
          clear HC2 HRO HD2 HB2
          obtain ⟨i, hi, rfl, HC, HRO, HDJ, HB⟩ := hrel
          obtain ⟨xa, xc, rfl⟩ := Ms.own_len HC.out
          by_cases hlt : i < m
          · have y0 : (i : Int) < m := by omega
            have hil : i < ord.length := by rw [HM.out]; exact hlt
            obtain ⟨g, o, c', e, _, _, hc⟩ := HRO.out.cellAt hil
            rw [HM.out] at e
            injection e with e1 _ e3
            subst e1 e3
            have HST := Lib.hid (cdI_step (nx := nx) HON.out.1 hil)
            have hcl := cdI_len nx ord i
            have hcl2 : (cdI nx ord i).length ≤ 17 := by have := HON.out.2; have := HNL.out; omega
            have HCT := Lib.hid (containsI_any HC.out.rd ord[i])
            generalize ord[i] = xi at *
            generalize cdI nx ord i = cd at *
            obtain ⟨ln, hln⟩ : ∃ ln, cd.length = ln := ⟨_, rfl⟩
            have HLN := Lib.hid hln
            rw [hln] at HC HCT HDJ hcl2 ⊢
            clear hln hcl hil
            go_wp2_with fail
            refine HCT.out.mono ?_
            rintro e w' ⟨rfl, rfl⟩
            clear HCT
            by_cases hmem : xi ∈ cd
            · have hd : decide (xi ∈ cd) = true := decide_eq_true hmem
              rw [hd]
              have HC3 : Hid (OwI w' w.heap.size (.slice xa ln xc) (cdI nx ord (i + 1))) := by rw [HST.out.1 hmem]; exact HC
              clear hmem hd HC HST
              go_wp2_with fail
              go_roundw
              case rel => exact ⟨i + 1, by omega, by go_num, HC3, HRO, HDJ, HB⟩
              case measure => simp [intOf]; omega
            · have hd : decide (xi ∈ cd) = false := decide_eq_false hmem
              rw [hd]
              have HCE : Hid (cdI nx ord (i + 1) = cd ++ [xi]) := HST.out.2 hmem
              have HC1 : Hid ((w'.alloc (.cells #[.int .i64 xi] 3)).ownsRow w.heap.size 3 1 (.slice xa ln xc) ln (ints cd)) := by
                have h9 := HC.out
                unfold OwI at h9
                rw [HLN.out] at h9
                exact ownN_ch h9 ((Ch.refl (fun _ => False) w').alloc _) (fun _ _ h => h)
              have HN1 : Hid (∀ j u, (ints [xi])[j]? = some u → (w'.alloc (.cells #[.int .i64 xi] 3)).cell? ((⟨w'.heap.size, 0, none⟩ : Addr).add j) = some u) := World.news_of_block (heap_alloc_new w' _) |> fun h => h
              have HB3 : Hid (Below w.heap.size w (w'.alloc (.cells #[.int .i64 xi] 3))) := HB.out.alloc HB.out.size _
              have HRO3 : Hid (RdI (w'.alloc (.cells #[.int .i64 xi] 3)) (.slice (some ⟨g, o, none⟩) m oc) ord) := HRO.out.ch ((Ch.refl (fun _ => False) w').alloc _) (fun _ _ h => h)
              have hsw : w.heap.size ≤ w'.heap.size := HB.out.size
              have hgl : g < w'.heap.size := by obtain ⟨_, _, e, _, _, h3, _⟩ := HRO.out; exact h3 g rfl
              have HLC : Hid ((ints cd).length = ln) := by rw [ints_len]; exact HLN.out
              clear hmem hd HC HST HB HRO
              go_wp2_with (at_builtin; refine wpList_append_lies _ rfl _ _ 36 rfl w.heap.size 3 i0 _ 1 8 Tryz.underlying36 hi0 hz0 hz1 hz2 (by kernel_rfl) (by omega) _ ln (ints cd) rfl (by exact HC1.out) ⟨w'.heap.size, 0, none⟩ 1 1 (ints [xi]) rfl rfl (by exact HN1.out) (ints_one _) (by omega) (by simp only [maxLen]; omega) (by omega) (by simp; omega) (w'.heap.size + 1) (by simp) ?_)
              intro g2 cap2 w5 hown5 hgrow5 hat5 hlt5
              have HB5 : Hid (Below w.heap.size w w5) := Below.grown HB3.out hgrow5 (by simp; omega) (fun k hk => (HC1.out.lt k hk).1)
              have HRO5 : Hid (RdI w5 (.slice (some ⟨g, o, none⟩) m oc) ord) := HRO3.out.ch (Ch.of_grown (C := fun k => k ≠ g) hgrow5 (fun k hk _ q => HDJ.out k hk (by rw [q]; rfl))) (fun k hk q => by
                have e : g = k := by simpa [Value.ownBlock] using hk
                exact q e.symm)
              have HDJ5 : Hid (∀ k, (Value.slice (some ⟨g2, 0, none⟩) (ln + 1) cap2).ownBlock = some k → (Value.slice (some ⟨g, o, none⟩) m oc).ownBlock ≠ some k) := fun k hk q => by
                have e : g2 = k := by simpa [Value.ownBlock] using hk
                have e2 : g = k := by simpa [Value.ownBlock] using q
                rcases hat5 with h | h
                · exact HDJ.out g2 h (by rw [e, ← e2]; rfl)
                · omega
              have HC5 : Hid (OwI w5 w.heap.size (.slice (some ⟨g2, 0, none⟩) (ln + 1) cap2) (cdI nx ord (i + 1))) := by
                rw [HCE.out]
                show World.ownsRow _ _ _ _ _ _ _
                rw [ints_snoc, List.length_append, HLN.out]
                exact hown5
              clear hown5 hgrow5 hat5 hlt5 HC1 HN1 HB3 HRO3 HDJ HCE
              go_wp2_with fail
              go_roundw
              case rel => exact ⟨i + 1, by omega, by go_num, HC5, HRO5, HDJ5, HB5⟩
              case measure => simp [intOf]; omega
          · have ei : i = m := by omega
            have y0 : ¬ (i : Int) < m := by omega
            subst ei
            have HWr := Lib.hid (HWW.out.below HB.out)
            rw [HM.out] at HCD
            generalize cdI nx ord i = cd at *
            have hcw : ∀ k, (Value.slice xa cd.length xc).ownBlock = some k → w.heap.size ≤ k := fun k hk => (HC.out.lt k hk).1
            have HCW := Lib.hid hcw
            have hrd := Lib.hid HC.out.rd
            have hOW : ∀ k, O k → N ≤ k ∧ k < w.heap.size := HWW.out.oN
            have HOW := Lib.hid hOW
            have hNW : N ≤ w.heap.size := HWW.out.N_le
            generalize cd.length = ln at *
            clear hcw hOW HC HRO HDJ
            have HDL := Lib.hid (HWr.out.delB hb hn (ke := ⟨#[78, 101, 120, 116]⟩) (k := nmN) (by decide) rfl)
            have c0 := HWr.out.c0
            obtain ⟨de, hde⟩ : ∃ e, (delB b nmN).1 = e := ⟨_, rfl⟩
            obtain ⟨bd, hbd⟩ : ∃ e, (delB b nmN).2 = e := ⟨_, rfl⟩
            have hdp : delB b nmN = (de, bd) := by rw [← hde, ← hbd]
            rw [hdp] at HDL
            go_wp2_with fail
            refine HDL.out.mono ?_
            rintro e w5 ⟨rfl, hl⟩
            have HLf := Lib.hid hl
            clear hl HDL c0
            by_cases h0 : de = 0
            · have e0 : r = (0, { bd with cand := cd, log := [], last := -1 }) := by
                rw [← HRE.out, beginB_ok HGV.out (by rw [hde]; exact h0), hbd, HCD.out]
              subst e0 h0
              obtain ⟨O', q0, q2, q3⟩ := HLf.out
              have hu : RdI w5 (.slice xa ln xc) cd := hrd.out.ch q3 (fun g hk q => by have := (HOW.out g q).2; have := HCW.out g hk; omega)
              have ho : ∀ g, (Value.slice xa ln xc).ownBlock = some g → ¬ O' g ∧ N ≤ g := fun g hk => ⟨fun q => by
                have h1 := HCW.out g hk
                rcases q0 g q with q | q
                · have := (HOW.out g q).2; omega
                · have := hrd.out
                  obtain ⟨_, _, _, _, _, h3, _⟩ := this
                  have := h3 g hk
                  omega, by have := HCW.out g hk; omega⟩
              have f2 := q2.frz 2
              obtain ⟨vc, c2, _⟩ := q2.c2
              have hA := q2.takeCand hu ho
              have f3 := hA.frz 3
              obtain ⟨vl, c3, _⟩ := hA.c3
              have hB := hA.takeLog (u := .slice none 0 0) (l' := []) ⟨rfl, .inl ⟨rfl, rfl⟩⟩ (fun _ h => (by cases h))
              have f4 := hB.frz 4
              have c4 := hB.c4
              have c2' := c2
              obtain ⟨O2, r1, r2⟩ := q2.begun hu ho
              have HF : Hid (MLeft w (((w5.setCell ⟨M, 2, none⟩ (.slice xa ln xc)).setCell ⟨M, 3, none⟩ (.slice none 0 0)).setCell ⟨M, 4, none⟩ (.int .i64 (-1))) N O M S L (n + 1) { bd with cand := cd, log := [], last := -1 }) :=
                ⟨O2, fun k hk => (r1 k hk).elim (fun h => (q0 k h).imp id (fun q => Nat.le_trans HB.out.size q)) (fun h => .inr (HCW.out k h)), r2, ((((Ch.of_below HB.out O).trans q3).setCell (p := ⟨M, 2, none⟩) (fun _ => HWW.out.OM) _).setCell (p := ⟨M, 3, none⟩) (fun _ => HWW.out.OM) _).setCell (p := ⟨M, 4, none⟩) (fun _ => HWW.out.OM) _⟩
              clear hA hB r1 r2 hu ho q2 q0 q3 HOW HCW hrd HB HWr HLf HRE HCD HGV hde hbd hdp
              go_wp2_with fail
              go_ret
              exact ⟨rfl, HF.out⟩
            · have e0 : r = (de, bd) := by rw [← HRE.out, beginB_bad HGV.out (by rw [hde]; exact h0), hdp]
              subst e0
              have h0b : (de != 0) = true := by rw [bne_iff_ne]; exact h0
              have HF : Hid (MLeft w w5 N O M S L (n + 1) bd) := HLf.out.after HB.out
              clear HLf HRE HCD HGV hde hbd hdp HOW HCW hrd HB HWr
              go_wp2_with fail
              go_ret
              exact ⟨rfl, HF.out⟩
end
end Go.Proofs.YtdinbpdpalgohaaGreatDoor
