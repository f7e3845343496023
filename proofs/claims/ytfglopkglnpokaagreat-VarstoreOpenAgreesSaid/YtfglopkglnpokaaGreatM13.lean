/- The reference's Set, Delete, List, scan. Conditions: those that each theorem names. -/
import Derived.Test.YtfglopkglnpokaaGreatM12
import Derived.Test.YtfglopkglnpokaaGreatM1
namespace Go.Proofs.YtfglopkglnpokaaGreat
open Go.RowKit
theorem OV.lt {w wr : World} {a : Option Addr} {n cap : Nat} {E : Vars} (h : OV w wr (.slice a n cap) E) : ∀ g, a = some ⟨g, 0, none⟩ → g < wr.heap.size := fun g e => by
  subst e
  obtain ⟨⟨_, h1 | ⟨g', cap', cur, hv, _, hh, _⟩⟩, _, _⟩ := h
  · cases h1.1
  · injection hv with hv; injection hv with hv; injection hv with hv; subst hv; exact heap_lt hh
section
variable {w : World} {D DS : Nat → Prop} {S X : Nat} {st : ST} {y : RLay} {fl : FL}
set_option maxRecDepth 100000 in
set_option maxHeartbeats 4000000 in
theorem rset_any (hs : RS w DS S X st) (h : RW w D X y fl) (hdis : ∀ k, D k → ¬ DS k) (hb : st.blk < fl.B) {ke ve : ByteArray} (hke : ke.size ≤ 1000000) (hve : ve.size ≤ 1000000) :
    Calls Tryz.prog 33 #[fptr S, .string ke, .string ve] w fun e w' => e = .returned (.int .i64 (setF fl st ke.data.toList ve.data.toList).1) ∧ RLeft w w' D DS (fun i => w.heap.size ≤ i) S X y (setF fl st ke.data.toList ve.data.toList) := by
  have HF := Lib.hid (rfits_any 1 ke.size ve.size w (by omega) (by omega))
  have HGT := Lib.hid (rget_any hs ke)
  have HS := Lib.hid hs
  have H := Lib.hid h
  clear hs h
  cases hok : okLens 1 ke.size ve.size
  · have HE : Hid (setF fl st ke.data.toList ve.data.toList = (1, fl, st)) := by show _ = _; unfold setF; rw [if_pos (show okLens 1 ke.data.toList.length ve.data.toList.length = false from hok)]
    rw [hok] at HF
    clear hok
    go_enter Tryz.func33, Tryz.ntmps33
    go_wp2_with fail
    refine HF.out.mono ?_
    rintro e w1 ⟨rfl, rfl⟩
    go_wp2_with fail
    go_ret
    rw [HE.out]
    exact ⟨rfl, RLeft.same rfl H.out (Ch.refl _ _) HS.out hdis⟩
  · rw [hok] at HF
    have HOK : Hid (okLens 1 ke.data.toList.length ve.data.toList.length = true) := hok
    have hks : ke.size ≤ 24 ∧ ve.size ≤ 128 := okLens_le hok
    clear hok
    rcases hg : getV st.V ke.data.toList with _ | x
    · have hgs : getS st.V ke.data.toList = ([], 6) := by unfold getS; rw [hg]
      rw [hgs] at HGT
      have HE : Hid (setF fl st ke.data.toList ve.data.toList = chgF fl st 1 ke.data.toList ve.data.toList) := by
        show _ = _; unfold setF; rw [if_neg (by rw [HOK.out]; exact Bool.noConfusion), hg, if_neg (by intro k; cases k)]
      clear hg hgs
      go_enter Tryz.func33, Tryz.ntmps33
      go_wp2_with fail
      refine HF.out.mono ?_
      rintro e w1 ⟨rfl, rfl⟩
      go_wp2_with fail
      refine HGT.out.mono ?_
      rintro e w1 ⟨rfl, rfl⟩
      clear HF HGT
      obtain ⟨a, cv, q1, hvs⟩ := HS.out.c1
      have hvl : st.V.length ≤ 1000 := by have := HS.out.vl; have := HS.out.hn; omega
      have HBD : Hid (Below w.heap.size w w.drew) := (Below.refl _ w).drew
      have S1 : Hid (w.drew.cell? ⟨S, 1, none⟩ = some (.slice a st.V.length cv)) := q1
      have HVS := Lib.hid (hvs.below HBD.out)
      have hav : st.V.length ≤ cv ∧ cv ≤ maxLen := ⟨hvs.1, hvs.2.1⟩
      obtain ⟨L, hL⟩ : ∃ L, st.V.length = L := ⟨_, rfl⟩
      have HLL := Lib.hid hL
      rw [hL] at S1 hvl hav
      clear q1 hvs hL
      obtain ⟨rb, hrb⟩ : ∃ s : ByteArray, s = ⟨(recd 1 ke.data.toList ve.data.toList).toArray⟩ := ⟨_, rfl⟩
      have HRB : Hid (rb.data.toList = recd 1 ke.data.toList ve.data.toList) := by rw [hrb]; exact rfl
      have HREC : Hid (∀ Z, Calls Tryz.prog 15 #[.int .u8 1, .string ke, .string ve] Z fun e w' => e = .returned (.string rb) ∧ Below Z.heap.size Z w') := fun Z => by
        rw [hrb]
        exact rrecord_any 1 ke ve Z (by omega) (by omega) (by omega)
      have hol := okLens_le HOK.out
      have HLS : Hid (ke.data.toList.length ≤ 24 ∧ (ve.data.toList : Str).length ≤ 128) := hol
      clear hrb hol
      go_wp2_with fail
      refine wp_region_pt (fun Y => Y.cell? ⟨S, 1, none⟩ = some (.slice a L cv)) ((0, 0) :: (1, 0) :: (2, 0) :: (4, 0) :: (5, 0) :: (6, 0) :: (7, 0) :: (8, 0) :: (9, 0) :: (3, 1) :: (10, 1) :: (11, 2) :: (12, 2) :: []) (by kernel_rfl) (by kernel_rfl) ?_
      iterate 9 (apply wpP_go; (focus rfl); (focus rfl); (focus exact S1.out); (focus (rintro Z s0; go_simp; exact rfl)); intro K hK; go_simp; refine hK _ ?_; clear hK K)
      apply wpP_one
      focus rfl
      intro K hK
      go_simp
      refine (HREC.out _).mono ?_
      rintro e V1 ⟨rfl, b1⟩
      have HB1 : Hid (Below w.heap.size w V1) := HBD.out.trans (b1.mono HBD.out.size)
      have HV1 := Lib.hid (HVS.out.below b1)
      refine hK _ _ (cell_later b1 S1.out) ?_
      have S2 : Hid (V1.cell? ⟨S, 1, none⟩ = some (.slice a L cv)) := cell_later b1 S1.out
      clear hK K b1 S1 HBD HVS HREC
      have HWT := Lib.hid (rwith_any HV1.out HLL.out (by omega) HS.out.srt ke ve)
      apply wpP_one
      focus rfl
      intro K hK
      go_simp
      refine HWT.out.mono ?_
      rintro e V2 ⟨v2, rfl, hov⟩
      obtain ⟨a2, c2, rfl, hv2, hg2⟩ := hov.form
      have b2 := hov.bel
      have HB2 : Hid (Below w.heap.size w V2) := HB1.out.trans (b2.mono HB1.out.size)
      refine hK _ _ (cell_later b2 S2.out) ?_
      have S3 : Hid (V2.cell? ⟨S, 1, none⟩ = some (.slice a L cv)) := cell_later b2 S2.out
      have hlt2 : ∀ g, a2 = some ⟨g, 0, none⟩ → g < V2.heap.size := hov.lt
      have HCH := Lib.hid (rchange_any (k := 1) (nm := ke.data.toList) (vl := ve.data.toList) (HS.out.below HB2.out) (H.out.below HB2.out) hdis hb HRB.out HLS.out hv2 rfl (fun g e => ⟨fun hD => by have := hg2 g e; have := H.out.fin g hD; have := HB1.out.size; omega, fun hD => by have := hg2 g e; have := HS.out.fin g hD; have := HB1.out.size; omega, hlt2 g e⟩) rfl)
      have HA2 : Hid (∀ g, a2 = some ⟨g, 0, none⟩ → w.heap.size ≤ g) := fun g e => Nat.le_trans HB1.out.size (hg2 g e)
      clear hK K b2 S2 HWT hov hv2 hg2 hlt2 HB1 HV1
      apply wpP_two
      focus rfl
      intro K hK
      go_simp
      refine HCH.out.mono ?_
      rintro e V3 ⟨rfl, hl⟩
      have HL3 := Lib.hid hl
      refine hK _ _ ?_
      clear hK K hl
      apply wpP_two
      focus rfl
      intro K hK
      go_simp
      refine hK _ _ ?_
      clear hK K
      refine wpP_done ?_
      go_wp2_with fail
      go_ret
      rw [HE.out]
      obtain ⟨l1, l2, D', l3, l4⟩ := HL3.out
      exact ⟨rfl, l1, (Ch.of_below HB2.out _).trans l2, D', fun i hi => (l3 i hi).elim .inl (fun e => .inr (HA2.out i e)), l4⟩
    · have hgs : getS st.V ke.data.toList = (x, 0) := by unfold getS; rw [hg]
      rw [hgs] at HGT
      obtain ⟨xb, hxb⟩ : ∃ xb : ByteArray, str x = .string xb := ⟨_, rfl⟩
      have hxl : xb.data.toList = x := by injection hxb with hxb; rw [← hxb]
      rw [hxb] at HGT
      by_cases hx : x = ve.data.toList
      · have HE : Hid (setF fl st ke.data.toList ve.data.toList = (0, fl, st)) := by
          show _ = _; unfold setF; rw [if_neg (by rw [HOK.out]; exact Bool.noConfusion), hg, if_pos (by rw [hx])]
        have hd : (xb.toList == ve.toList) = true := by rw [ByteArray.toList_eq, ByteArray.toList_eq, hxl, hx]; simp
        clear hg hgs hxb hxl hx
        go_enter Tryz.func33, Tryz.ntmps33
        go_wp2_with fail
        refine HF.out.mono ?_
        rintro e w1 ⟨rfl, rfl⟩
        go_wp2_with fail
        refine HGT.out.mono ?_
        rintro e w1 ⟨rfl, rfl⟩
        clear HF HGT
        go_wp2_with fail
        go_ret
        rw [HE.out]
        exact ⟨rfl, RLeft.same rfl H.out (Ch.refl _ _) HS.out hdis⟩
      · have HE : Hid (setF fl st ke.data.toList ve.data.toList = chgF fl st 1 ke.data.toList ve.data.toList) := by
          show _ = _; unfold setF; rw [if_neg (by rw [HOK.out]; exact Bool.noConfusion), hg, if_neg (by intro k; injection k with k; exact hx k)]
        have hd : (xb.toList == ve.toList) = false := by rw [ByteArray.toList_eq, ByteArray.toList_eq, hxl]; simpa using hx
        clear hg hgs hxb hxl hx
        go_enter Tryz.func33, Tryz.ntmps33
        go_wp2_with fail
        refine HF.out.mono ?_
        rintro e w1 ⟨rfl, rfl⟩
        go_wp2_with fail
        refine HGT.out.mono ?_
        rintro e w1 ⟨rfl, rfl⟩
        clear HF HGT
        obtain ⟨a, cv, q1, hvs⟩ := HS.out.c1
        have hvl : st.V.length ≤ 1000 := by have := HS.out.vl; have := HS.out.hn; omega
        have HBD : Hid (Below w.heap.size w w.drew) := (Below.refl _ w).drew
        have S1 : Hid (w.drew.cell? ⟨S, 1, none⟩ = some (.slice a st.V.length cv)) := q1
        have HVS := Lib.hid (hvs.below HBD.out)
        have hav : st.V.length ≤ cv ∧ cv ≤ maxLen := ⟨hvs.1, hvs.2.1⟩
        obtain ⟨L, hL⟩ : ∃ L, st.V.length = L := ⟨_, rfl⟩
        have HLL := Lib.hid hL
        rw [hL] at S1 hvl hav
        clear q1 hvs hL
        obtain ⟨rb, hrb⟩ : ∃ s : ByteArray, s = ⟨(recd 1 ke.data.toList ve.data.toList).toArray⟩ := ⟨_, rfl⟩
        have HRB : Hid (rb.data.toList = recd 1 ke.data.toList ve.data.toList) := by rw [hrb]; exact rfl
        have HREC : Hid (∀ Z, Calls Tryz.prog 15 #[.int .u8 1, .string ke, .string ve] Z fun e w' => e = .returned (.string rb) ∧ Below Z.heap.size Z w') := fun Z => by
          rw [hrb]
          exact rrecord_any 1 ke ve Z (by omega) (by omega) (by omega)
        have hol := okLens_le HOK.out
        have HLS : Hid (ke.data.toList.length ≤ 24 ∧ (ve.data.toList : Str).length ≤ 128) := hol
        clear hrb hol
        go_wp2_with fail
        refine wp_region_pt (fun Y => Y.cell? ⟨S, 1, none⟩ = some (.slice a L cv)) ((0, 0) :: (1, 0) :: (2, 0) :: (4, 0) :: (5, 0) :: (6, 0) :: (7, 0) :: (8, 0) :: (9, 0) :: (3, 1) :: (10, 1) :: (11, 2) :: (12, 2) :: []) (by kernel_rfl) (by kernel_rfl) ?_
        iterate 9 (apply wpP_go; (focus rfl); (focus rfl); (focus exact S1.out); (focus (rintro Z s0; go_simp; exact rfl)); intro K hK; go_simp; refine hK _ ?_; clear hK K)
        apply wpP_one
        focus rfl
        intro K hK
        go_simp
        refine (HREC.out _).mono ?_
        rintro e V1 ⟨rfl, b1⟩
        have HB1 : Hid (Below w.heap.size w V1) := HBD.out.trans (b1.mono HBD.out.size)
        have HV1 := Lib.hid (HVS.out.below b1)
        refine hK _ _ (cell_later b1 S1.out) ?_
        have S2 : Hid (V1.cell? ⟨S, 1, none⟩ = some (.slice a L cv)) := cell_later b1 S1.out
        clear hK K b1 S1 HBD HVS HREC
        have HWT := Lib.hid (rwith_any HV1.out HLL.out (by omega) HS.out.srt ke ve)
        apply wpP_one
        focus rfl
        intro K hK
        go_simp
        refine HWT.out.mono ?_
        rintro e V2 ⟨v2, rfl, hov⟩
        obtain ⟨a2, c2, rfl, hv2, hg2⟩ := hov.form
        have b2 := hov.bel
        have HB2 : Hid (Below w.heap.size w V2) := HB1.out.trans (b2.mono HB1.out.size)
        refine hK _ _ (cell_later b2 S2.out) ?_
        have S3 : Hid (V2.cell? ⟨S, 1, none⟩ = some (.slice a L cv)) := cell_later b2 S2.out
        have hlt2 : ∀ g, a2 = some ⟨g, 0, none⟩ → g < V2.heap.size := hov.lt
        have HCH := Lib.hid (rchange_any (k := 1) (nm := ke.data.toList) (vl := ve.data.toList) (HS.out.below HB2.out) (H.out.below HB2.out) hdis hb HRB.out HLS.out hv2 rfl (fun g e => ⟨fun hD => by have := hg2 g e; have := H.out.fin g hD; have := HB1.out.size; omega, fun hD => by have := hg2 g e; have := HS.out.fin g hD; have := HB1.out.size; omega, hlt2 g e⟩) rfl)
        have HA2 : Hid (∀ g, a2 = some ⟨g, 0, none⟩ → w.heap.size ≤ g) := fun g e => Nat.le_trans HB1.out.size (hg2 g e)
        clear hK K b2 S2 HWT hov hv2 hg2 hlt2 HB1 HV1
        apply wpP_two
        focus rfl
        intro K hK
        go_simp
        refine HCH.out.mono ?_
        rintro e V3 ⟨rfl, hl⟩
        have HL3 := Lib.hid hl
        refine hK _ _ ?_
        clear hK K hl
        apply wpP_two
        focus rfl
        intro K hK
        go_simp
        refine hK _ _ ?_
        clear hK K
        refine wpP_done ?_
        go_wp2_with fail
        go_ret
        rw [HE.out]
        obtain ⟨l1, l2, D', l3, l4⟩ := HL3.out
        exact ⟨rfl, l1, (Ch.of_below HB2.out _).trans l2, D', fun i hi => (l3 i hi).elim .inl (fun e => .inr (HA2.out i e)), l4⟩
set_option maxRecDepth 100000 in
set_option maxHeartbeats 4000000 in
theorem rdel_any (hs : RS w DS S X st) (h : RW w D X y fl) (hdis : ∀ k, D k → ¬ DS k) (hb : st.blk < fl.B) {ke : ByteArray} (hke : ke.size ≤ 1000000) :
    Calls Tryz.prog 35 #[fptr S, .string ke] w fun e w' => e = .returned (.int .i64 (delF fl st ke.data.toList).1) ∧ RLeft w w' D DS (fun i => w.heap.size ≤ i) S X y (delF fl st ke.data.toList) := by
  have HF := Lib.hid (rfits_any 2 ke.size 0 w (by omega) (by omega))
  have HGT := Lib.hid (rget_any hs ke)
  have HS := Lib.hid hs
  have H := Lib.hid h
  clear hs h
  cases hok : okLens 2 ke.size 0
  · have HE : Hid (delF fl st ke.data.toList = (1, fl, st)) := by show _ = _; unfold delF; rw [if_pos (show okLens 2 ke.data.toList.length 0 = false from hok)]
    rw [hok] at HF
    clear hok
    go_enter Tryz.func35, Tryz.ntmps35
    go_wp2_with fail
    refine HF.out.mono ?_
    rintro e w1 ⟨rfl, rfl⟩
    go_wp2_with fail
    go_ret
    rw [HE.out]
    exact ⟨rfl, RLeft.same rfl H.out (Ch.refl _ _) HS.out hdis⟩
  · rw [hok] at HF
    have HOK : Hid (okLens 2 ke.data.toList.length 0 = true) := hok
    have hks : ke.size ≤ 24 := (okLens_le hok).1
    clear hok
    rcases hg : getV st.V ke.data.toList with _ | x
    · have hgs : getS st.V ke.data.toList = ([], 6) := by unfold getS; rw [hg]
      rw [hgs] at HGT
      have HE : Hid (delF fl st ke.data.toList = (6, fl, st)) := by
        show _ = _; unfold delF; rw [if_neg (by rw [HOK.out]; exact Bool.noConfusion), if_pos hg]
      clear hg hgs
      go_enter Tryz.func35, Tryz.ntmps35
      go_wp2_with fail
      refine HF.out.mono ?_
      rintro e w1 ⟨rfl, rfl⟩
      go_wp2_with fail
      refine HGT.out.mono ?_
      rintro e w1 ⟨rfl, rfl⟩
      clear HF HGT
      go_wp2_with fail
      go_ret
      rw [HE.out]
      exact ⟨rfl, RLeft.same rfl H.out (Ch.refl _ _) HS.out hdis⟩
    · have hgs : getS st.V ke.data.toList = (x, 0) := by unfold getS; rw [hg]
      rw [hgs] at HGT
      have HE : Hid (delF fl st ke.data.toList = chgF fl st 2 ke.data.toList []) := by
        show _ = _; unfold delF; rw [if_neg (by rw [HOK.out]; exact Bool.noConfusion), if_neg (by rw [hg]; intro k; cases k)]
      clear hg hgs
      go_enter Tryz.func35, Tryz.ntmps35
      go_wp2_with fail
      refine HF.out.mono ?_
      rintro e w1 ⟨rfl, rfl⟩
      go_wp2_with fail
      refine HGT.out.mono ?_
      rintro e w1 ⟨rfl, rfl⟩
      clear HF HGT
      obtain ⟨a, cv, q1, hvs⟩ := HS.out.c1
      have hvl : st.V.length ≤ 1000 := by have := HS.out.vl; have := HS.out.hn; omega
      have HBD : Hid (Below w.heap.size w w.drew) := (Below.refl _ w).drew
      have S1 : Hid (w.drew.cell? ⟨S, 1, none⟩ = some (.slice a st.V.length cv)) := q1
      have HVS := Lib.hid (hvs.below HBD.out)
      have hav : st.V.length ≤ cv ∧ cv ≤ maxLen := ⟨hvs.1, hvs.2.1⟩
      obtain ⟨L, hL⟩ : ∃ L, st.V.length = L := ⟨_, rfl⟩
      have HLL := Lib.hid hL
      rw [hL] at S1 hvl hav
      clear q1 hvs hL
      obtain ⟨rb, hrb⟩ : ∃ s : ByteArray, s = ⟨(recd 2 ke.data.toList []).toArray⟩ := ⟨_, rfl⟩
      have HRB : Hid (rb.data.toList = recd 2 ke.data.toList []) := by rw [hrb]; exact rfl
      have HREC : Hid (∀ Z, Calls Tryz.prog 15 #[.int .u8 2, .string ke, .string ⟨#[]⟩] Z fun e w' => e = .returned (.string rb) ∧ Below Z.heap.size Z w') := fun Z => by
        rw [hrb]
        exact rrecord_any 2 ke ⟨#[]⟩ Z (by omega) (by omega) (by decide)
      have hol := okLens_le HOK.out
      have HLS : Hid (ke.data.toList.length ≤ 24 ∧ ([] : Str).length ≤ 128) := hol
      clear hrb hol
      go_wp2_with fail
      refine wp_region_pt (fun Y => Y.cell? ⟨S, 1, none⟩ = some (.slice a L cv)) ((0, 0) :: (1, 0) :: (3, 0) :: (4, 0) :: (5, 0) :: (6, 0) :: (7, 0) :: (2, 1) :: (8, 1) :: (9, 2) :: (10, 2) :: []) (by kernel_rfl) (by kernel_rfl) ?_
      iterate 7 (apply wpP_go; (focus rfl); (focus rfl); (focus exact S1.out); (focus (rintro Z s0; go_simp; exact rfl)); intro K hK; go_simp; refine hK _ ?_; clear hK K)
      apply wpP_one
      focus rfl
      intro K hK
      go_simp
      refine (HREC.out _).mono ?_
      rintro e V1 ⟨rfl, b1⟩
      have HB1 : Hid (Below w.heap.size w V1) := HBD.out.trans (b1.mono HBD.out.size)
      have HV1 := Lib.hid (HVS.out.below b1)
      refine hK _ _ (cell_later b1 S1.out) ?_
      have S2 : Hid (V1.cell? ⟨S, 1, none⟩ = some (.slice a L cv)) := cell_later b1 S1.out
      clear hK K b1 S1 HBD HVS HREC
      have HWT := Lib.hid (rwithout_any HV1.out HLL.out (by omega) ke)
      apply wpP_one
      focus rfl
      intro K hK
      go_simp
      refine HWT.out.mono ?_
      rintro e V2 ⟨v2, rfl, hov⟩
      obtain ⟨a2, c2, rfl, hv2, hg2⟩ := hov.form
      have b2 := hov.bel
      have HB2 : Hid (Below w.heap.size w V2) := HB1.out.trans (b2.mono HB1.out.size)
      refine hK _ _ (cell_later b2 S2.out) ?_
      have S3 : Hid (V2.cell? ⟨S, 1, none⟩ = some (.slice a L cv)) := cell_later b2 S2.out
      have hlt2 : ∀ g, a2 = some ⟨g, 0, none⟩ → g < V2.heap.size := hov.lt
      have HCH := Lib.hid (rchange_any (k := 2) (nm := ke.data.toList) (vl := []) (HS.out.below HB2.out) (H.out.below HB2.out) hdis hb HRB.out HLS.out hv2 rfl (fun g e => ⟨fun hD => by have := hg2 g e; have := H.out.fin g hD; have := HB1.out.size; omega, fun hD => by have := hg2 g e; have := HS.out.fin g hD; have := HB1.out.size; omega, hlt2 g e⟩) rfl)
      have HA2 : Hid (∀ g, a2 = some ⟨g, 0, none⟩ → w.heap.size ≤ g) := fun g e => Nat.le_trans HB1.out.size (hg2 g e)
      clear hK K b2 S2 HWT hov hv2 hg2 hlt2 HB1 HV1
      apply wpP_two
      focus rfl
      intro K hK
      go_simp
      refine HCH.out.mono ?_
      rintro e V3 ⟨rfl, hl⟩
      have HL3 := Lib.hid hl
      refine hK _ _ ?_
      clear hK K hl
      apply wpP_two
      focus rfl
      intro K hK
      go_simp
      refine hK _ _ ?_
      clear hK K
      refine wpP_done ?_
      go_wp2_with fail
      go_ret
      rw [HE.out]
      obtain ⟨l1, l2, D', l3, l4⟩ := HL3.out
      exact ⟨rfl, l1, (Ch.of_below HB2.out _).trans l2, D', fun i hi => (l3 i hi).elim .inl (fun e => .inr (HA2.out i e)), l4⟩
end
end Go.Proofs.YtfglopkglnpokaaGreat
namespace Go.Proofs.YtfglopkglnpokaaGreat
open Go.RowKit
section
variable {w w' : World} {D DS : Nat → Prop} {S X : Nat} {st : ST} {y : RLay} {fl : FL}
theorem RS.withNxt (h : RS w D S X st) {nx : Nat} (h1 : nx ≤ 900) (h2 : st.V.length ≤ nx + 1) : RS (w.setCell ⟨S, 4, none⟩ (.int .i64 (nx : Int))) D S X ⟨st.V, st.blk, st.gen, nx, st.clo⟩ := by
  obtain ⟨a, c, r, v, g⟩ := h.ex
  have hc : Ch (fun x => x = S) w (w.setCell ⟨S, 4, none⟩ (.int .i64 (nx : Int))) := (Ch.refl (fun x => x = S) w).setCell (p := ⟨S, 4, none⟩) (fun _ => rfl) _
  exact { ex := ⟨a, c, (r.set (i := 4) (by omega) (.int .i64 (nx : Int))).congr fun j hj => by
            rcases (by omega : j = 0 ∨ j = 1 ∨ j = 2 ∨ j = 3 ∨ j = 4 ∨ j = 5) with e | e | e | e | e | e <;> subst e <;> simp [upd, rsc], v.ch hc (fun k e => (g k e).2), g⟩
          dS := h.dS, fin := fun k hk => Nat.lt_of_lt_of_le (h.fin k hk) hc.size, srt := h.srt, hv := h.hv, hg := h.hg, hn := h1, hb := h.hb, vl := h2 }
theorem RS.withClo (h : RS w D S X st) (b : Bool) : RS (w.setCell ⟨S, 5, none⟩ (.bool b)) D S X ⟨st.V, st.blk, st.gen, st.nxt, b⟩ := by
  obtain ⟨a, c, r, v, g⟩ := h.ex
  have hc : Ch (fun x => x = S) w (w.setCell ⟨S, 5, none⟩ (.bool b)) := (Ch.refl (fun x => x = S) w).setCell (p := ⟨S, 5, none⟩) (fun _ => rfl) _
  exact { ex := ⟨a, c, (r.set (i := 5) (by omega) (.bool b)).congr fun j hj => by
            rcases (by omega : j = 0 ∨ j = 1 ∨ j = 2 ∨ j = 3 ∨ j = 4 ∨ j = 5) with e | e | e | e | e | e <;> subst e <;> simp [upd, rsc], v.ch hc (fun k e => (g k e).2), g⟩
          dS := h.dS, fin := fun k hk => Nat.lt_of_lt_of_le (h.fin k hk) hc.size, srt := h.srt, hv := h.hv, hg := h.hg, hn := h.hn, hb := h.hb, vl := h.vl }
theorem RS.withV (h : RS w D S X st) {V : Vars} {a : Option Addr} {c : Nat} (hv : VS w a c V) (hg : ∀ g, a = some ⟨g, 0, none⟩ → g ≠ S ∧ g < w.heap.size) (hs : Srt V) (hh : ∀ p ∈ V, p.1.length ≤ 24 ∧ p.2.length ≤ 128) (hl : V.length ≤ st.nxt + 1) :
    RS (w.setCell ⟨S, 1, none⟩ (.slice a V.length c)) (fun k => D k ∨ a = some ⟨k, 0, none⟩) S X ⟨V, st.blk, st.gen, st.nxt, st.clo⟩ := by
  obtain ⟨a0, c0, r, v, g⟩ := h.ex
  have hc : Ch (fun x => x = S) w (w.setCell ⟨S, 1, none⟩ (.slice a V.length c)) := (Ch.refl (fun x => x = S) w).setCell (p := ⟨S, 1, none⟩) (fun _ => rfl) _
  exact h.fresh (st' := ⟨V, st.blk, st.gen, st.nxt, st.clo⟩) hv hg ((r.set (i := 1) (by omega) (.slice a V.length c)).congr fun j hj => by
    rcases (by omega : j = 0 ∨ j = 1 ∨ j = 2 ∨ j = 3 ∨ j = 4 ∨ j = 5) with e | e | e | e | e | e <;> subst e <;> simp [upd, rsc]) hc hs hh h.hg h.hn h.hb hl
theorem VS.cells {a : Option Addr} {cap : Nat} {V : Vars} (h : VS w a cap V) (hne : V ≠ []) : ∃ g, a = some ⟨g, 0, none⟩ ∧ ∀ j u, (V.flatMap vcf)[j]? = some u → w.cell? ((⟨g, 0, none⟩ : Addr).add j) = some u := by
  obtain ⟨g, e, _, hc⟩ := h.2.2 hne
  refine ⟨g, e, fun j u hu => ?_⟩
  have hj : j < (V.flatMap vcf).length := by
    rcases Nat.lt_or_ge j (V.flatMap vcf).length with h1 | h1
    · exact h1
    · rw [List.getElem?_eq_none h1] at hu; cases hu
  rw [vcf_len] at hj
  have hadd : (⟨g, 0, none⟩ : Addr).add j = ⟨g, j, none⟩ := by unfold Addr.add; split <;> simp_all
  rw [hadd]
  obtain ⟨q1, q2⟩ := vcf_get V (j / 2) (by omega)
  obtain ⟨k1, k2⟩ := hc (j / 2) (by omega)
  rcases (by omega : j = j / 2 * 2 ∨ j = j / 2 * 2 + 1) with e1 | e1
  · rw [e1] at hu ⊢
    rw [q1] at hu
    rw [← hu]
    exact k1
  · rw [e1] at hu ⊢
    rw [q2] at hu
    rw [← hu]
    exact k2
theorem vcf_all (V : Vars) : ∀ u ∈ V.flatMap vcf, u.oneCell' = true := fun u hu => by
  obtain ⟨p, _, h⟩ := List.mem_flatMap.1 hu
  rcases List.mem_cons.1 h with rfl | h
  · rfl
  · rw [List.mem_singleton.1 h]; rfl
set_option maxRecDepth 100000 in
set_option maxHeartbeats 1000000 in
theorem rlist_any (h : RS w D S X st) : Calls Tryz.prog 24 #[fptr S] w fun e w' => ∃ a cap, e = .returned (.slice a st.V.length cap) ∧ VS w' a cap st.V ∧ Below w.heap.size w w' := by
  obtain ⟨i0, hi0, hx0, hx1, hx2⟩ := info_parts Tryz.infoV
  obtain ⟨a, c, c1, hvs⟩ := h.c1
  have hvl : st.V.length ≤ 1000 := by have := h.vl; have := h.hn; omega
  have B1 : Below w.heap.size w (w.alloc (.cells #[] 54)) := (Below.refl _ _).alloc (Nat.le_refl _) _
  have c1' : (w.alloc (.cells #[] 54)).cell? ⟨S, 1, none⟩ = some (.slice a st.V.length c) := cell_later B1 c1
  have HVS := Lib.hid (hvs.below B1)
  have HO : Hid (OV w (w.alloc (.cells #[] 54)) (.slice (some ⟨w.heap.size, 0, none⟩) 0 0) []) :=
    ⟨⟨rfl, .inr ⟨w.heap.size, 0, #[], rfl, Nat.zero_le _, heap_alloc_new w _, Nat.le_refl _, by unfold maxLen; omega, rfl, rfl⟩⟩, fun g e => by (injection e with e; exact Nat.le_of_eq e), B1⟩
  generalize st.V = V at *
  obtain ⟨L, hL⟩ : ∃ L, V.length = L := ⟨_, rfl⟩
  have HL := Lib.hid hL
  rw [hL] at c1 c1' hvl ⊢
  clear h hvs B1 hL
  by_cases hne : V = []
  · subst hne
    have hL0 : L = 0 := HL.out.symm
    subst hL0
    have hr : (Builtin.append_ #[55, 55] 55 #[.slice (some ⟨w.heap.size, 0, none⟩) 0 0, .slice a 0 c]).run Tryz.prog (w.alloc (.cells #[] 54)) = .ok (.slice (some ⟨w.heap.size, 0, none⟩) 0 0) (w.alloc (.cells #[] 54)) := by
      rcases a with _ | ad <;> simp [Builtin.append_, run_underlying Tryz.underlying55, sizeOf, typeInfo, hi0, Builtin.lenOf, Builtin.firstCells, loadCells, loadCellsFrom, storeCells]
    go_enter Tryz.func24, Tryz.ntmps24
    go_wp2_with (at_builtin; refine wpList_append_run rfl _ _ 55 rfl rfl _ _ _ _ rfl rfl (by exact hr) ?_)
    clear hr
    go_wp2_with fail
    go_ret
    obtain ⟨a2, c2, e2, h1, _⟩ := HO.out.form
    exact ⟨_, 0, rfl, ⟨Nat.le_refl _, by unfold maxLen; omega, fun k => absurd rfl k⟩, HO.out.bel⟩
  · obtain ⟨g, rfl, hc⟩ := HVS.out.cells hne
    have HC := Lib.hid hc
    have hL0 : 0 < L := by rw [← HL.out]; exact List.length_pos_iff.2 hne
    clear hc hne
    go_enter Tryz.func24, Tryz.ntmps24
    go_wp2_with (at_builtin; refine wpList_append_own_at _ rfl _ _ 55 rfl 0 54 i0 _ 2 32 Tryz.underlying55 hi0 hx0 hx1 hx2 rfl (by omega) (.slice (some ⟨w.heap.size, 0, none⟩) 0 0) 0 [] rfl (by exact HO.out.row) ⟨g, 0, none⟩ L c (V.flatMap vcf) rfl (by rw [vcf_len, HL.out]) (by exact HC.out) (vcf_all V) (by simp only [maxLen]; omega) (by omega) (Nat.zero_le _) ?_)
    intro v6 w6 ho hg hnil hat
    have ho2 : OV w w6 v6 V := by
      refine ⟨by rw [HL.out]; simpa using ho, fun k hk => ?_, Below.grown HO.out.bel hg HO.out.bel.size (fun k hk => HO.out.new k hk)⟩
      rcases hat with h | h
      · rw [h] at hk; exact HO.out.new k hk
      · rw [h] at hk; injection hk with hk; rw [← hk]; exact Nat.le_succ _
    have HO2 := Lib.hid ho2
    clear ho hg hnil hat ho2 HO
    go_wp2_with fail
    go_ret
    obtain ⟨a2, c2, rfl, h1, _⟩ := HO2.out.form
    rw [HL.out]
    exact ⟨a2, c2, rfl, h1, HO2.out.bel⟩
theorem any_take {l : Str} {i : Nat} (h : i < l.length) : (l.take (i + 1)).any (fun x => x != 255) = ((l.take i).any (fun x => x != 255) || (l.getD i 0 != 255)) := by
  rw [List.take_succ_eq_append_getElem h, List.any_append, List.getD_eq_getElem?_getD, List.getElem?_eq_getElem h]
  simp
theorem dec_ff {ps : List Str} (h : (ps.getD 0 []).getD 0 0 = 255) : dec ps = none := by
  unfold dec
  dsimp only
  rw [h, if_pos (by rfl)]
set_option maxRecDepth 100000 in
set_option maxHeartbeats 4000000 in
theorem rscan_any {b g n0 : Nat} (hs : RS w DS S X ⟨[], b, g, n0, false⟩) (h : RW w D X y fl) (hdis : ∀ k, D k → ¬ DS k) (hb : b < fl.B) :
    Calls Tryz.prog 62 #[fptr S] w fun e w' => e = .returned (.tuple #[]) ∧ (∃ D', (∀ i, D' i → DS i ∨ w.heap.size ≤ i) ∧ RS w' D' S X ⟨(rpl fl.P (pgsF fl b) [] 1).1, b, g, (rpl fl.P (pgsF fl b) [] 1).2.1, (rpl fl.P (pgsF fl b) [] 1).2.2⟩) ∧ Ch (fun x => x = S) w w' := by
  have hP := h.hP
  have HB := Lib.hid hb
  have H := Lib.hid h
  have hSD : ¬ D S := fun e => hdis _ e hs.dS
  have c0 := hs.c0
  have c4 := hs.c4
  have f4 := hs.fr 4
  have hs1 := hs.withNxt (nx := 1) (by omega) (by simp)
  have HS1 : Hid (RS (w.setCell ⟨S, 4, none⟩ (.int .i64 1)) DS S X ⟨[], b, g, 1, false⟩) := hs1
  have HC1 : Hid (Ch (fun x => x = S) w (w.setCell ⟨S, 4, none⟩ (.int .i64 1))) := (Ch.refl (fun x => x = S) w).setCell (p := ⟨S, 4, none⟩) (fun _ => rfl) _
  have c41 : (w.setCell ⟨S, 4, none⟩ (.int .i64 1)).cell? ⟨S, 4, none⟩ = some (.int .i64 1) := hs1.c4
  have HE1 : Hid (rpl fl.P (pgsF fl b) [] 1 = rpl fl.P (pgsF fl b) [] 1) := rfl
  clear hs1 h hs hb
  go_enter Tryz.func62, Tryz.ntmps62
  go_wp2_with fail
  clear c0 c4 f4
  generalize w.setCell ⟨S, 4, none⟩ (.int .i64 1) = wa at *
  go_loopw [] (fun wr => ∃ (f nx : Nat) (V : Vars), fl.P + 1 ≤ f + nx ∧ nx ≤ fl.P ∧ 1 ≤ nx ∧ wr.cell? ⟨S, 4, none⟩ = some (.int .i64 nx) ∧ Hid (rpl fl.P (pgsF fl b) [] 1 = rpl f (pgsF fl b) V nx ∧ V.length ≤ nx) ∧ Hid (∃ D', (∀ i, D' i → DS i ∨ w.heap.size ≤ i) ∧ RS wr D' S X ⟨V, b, g, nx, false⟩) ∧ Hid (Ch (fun x => x = S) w wr)) (fun wr => fl.P - (intOf ((wr.cell? ⟨S, 4, none⟩).getD undef)).toNat)
  case atStart => exact ⟨fl.P, 1, [], by omega, by omega, by omega, c41, ⟨rfl, by simp⟩, ⟨DS, fun i h => .inl h, HS1.out⟩, HC1⟩
  case round =>
    clear HE1 HS1 HC1 c41
    obtain ⟨f, nx, V, hf, hnx, hn1, c4, HE, HR, HC⟩ := hrel
    obtain ⟨D', hD', hrs⟩ := HR.out
    have HD' := Lib.hid hD'
    have hrw := H.out.ch HC.out (fun k hk e => hSD (e ▸ hk))
    have HM4 : Hid (wr.cell? ⟨S, 4, none⟩ = some (.int .i64 nx)) := c4
    clear HR hD' c4
    by_cases hlt : nx < fl.P
    · have hltI : (nx : Int) < (fl.P : Int) := by omega
      have hrd := hrw.drew
      obtain ⟨sb, hsb⟩ : ∃ sb : ByteArray, str ((pgsF fl b).drop nx).flatten = .string sb := ⟨_, rfl⟩
      have hsbl : sb.data.toList = ((pgsF fl b).drop nx).flatten := by injection hsb with hsb; rw [← hsb]
      have h64 := (H.out.p64 HB.out)
      have h64d : P64 ((pgsF fl b).drop nx) := fun p hp => h64 p (List.mem_of_mem_drop hp)
      have hdl : ((pgsF fl b).drop nx).flatten.length = (fl.P - nx) * 64 := by
        rw [flat_len _ h64d, List.length_drop, pgsF_len]
      have hsz : sb.size = (fl.P - nx) * 64 := by rw [bsz, hsbl, hdl]
      have hdf : dec ((pgsF fl b).drop nx) = decF sb.data.toList := by rw [hsbl]; exact dec_flat h64d
      have hsz1 : 64 ≤ sb.size ∧ sb.size ≤ 2048 := by rw [hsz]; omega
      have HRD : Hid (∀ W, Calls Tryz.prog 59 #[.string sb] W fun e w' => RdP (dec ((pgsF fl b).drop nx)) W.heap.size W e w') := fun W => by
        rw [hdf]
        exact rread_any sb W hsz1.1 hsz1.2
      have HSB := Lib.hid hsb
      have H64 := Lib.hid h64d
      have S1 : Hid (wr.drew.cell? ⟨S, 0, none⟩ = some (fptr X) ∧ wr.drew.cell? ⟨S, 4, none⟩ = some (.int .i64 nx) ∧ wr.drew.cell? ⟨X, 1, none⟩ = some (.int .i64 fl.P)) := ⟨hrs.c0, hrs.c4, hrw.c1⟩
      have S2 : Hid (wr.drew.drew.cell? ⟨S, 0, none⟩ = some (fptr X) ∧ wr.drew.drew.cell? ⟨S, 4, none⟩ = some (.int .i64 nx) ∧ wr.drew.drew.cell? ⟨S, 2, none⟩ = some (.int .i64 b) ∧ RW wr.drew.drew D X y fl) := ⟨hrs.c0, hrs.c4, hrs.c2, hrw.drew.drew⟩
      have HR2 := Lib.hid (hrs.below ((Below.refl _ wr).drew.drew))
      have HC2 : Hid (Ch (fun x => x = S) w wr.drew.drew) := HC.out.drew.drew
      clear hrd hsb hsbl hdl hsz hdf hsz1 hrs hrw HC h64 h64d
      go_wp2_with fail
      refine wp_region_pl (fun Y => Y.cell? ⟨S, 0, none⟩ = some (fptr X) ∧ Y.cell? ⟨S, 4, none⟩ = some (.int .i64 nx) ∧ Y.cell? ⟨X, 1, none⟩ = some (.int .i64 fl.P)) ((0, 0) :: (1, 0) :: (2, 0) :: (3, 0) :: (4, 0) :: (5, 0) :: (6, 0) :: (7, 0) :: (8, 0) :: (9, 0) :: (10, 0) :: (11, 0) :: (12, 0) :: []) (by kernel_rfl) (by kernel_rfl) ?_
      iterate 13 (apply wpP_go; (focus rfl); (focus rfl); (focus exact S1.out); (focus (rintro Z ⟨s0, s1, s2⟩; go_simp; exact rfl)); intro K hK; go_simp; refine hK _ ?_; clear hK K)
      refine wpP_done ?_
      clear S1
      go_wp2_with fail
      generalize hWd : wr.drew.drew = W at *
      refine wp_region_tree (fun Y => Y.cell? ⟨S, 0, none⟩ = some (fptr X) ∧ Y.cell? ⟨S, 4, none⟩ = some (.int .i64 nx) ∧ Y.cell? ⟨S, 2, none⟩ = some (.int .i64 b) ∧ RW Y D X y fl) [19] (PT.ls ((0, 0) :: (1, 0) :: (2, 0) :: (3, 0) :: (4, 0) :: (5, 0) :: (6, 0) :: (7, 0) :: (8, 0) :: (9, 0) :: (10, 0) :: (11, 0) :: (12, 0) :: []) (.f 13 (PT.ls ((14, 0) :: (15, 0) :: (16, 0) :: (17, 1) :: (18, 1) :: (19, 2) :: []) .done) 17 (PT.ls ((13, 1) :: (14, 0) :: (15, 0) :: (16, 0) :: (18, 1) :: (19, 2) :: []) .done))) (by kernel_rfl) (by kernel_rfl) (by kernel_rfl) ?_
      simp only [hWd]
      clear hWd
      unfold PT.ls
      iterate 12 (apply wpT_go; (focus rfl); (focus rfl); (focus exact S2.out); (focus (rintro Z ⟨s0, s1, s2, s3⟩; go_simp; exact rfl)); intro K hK; go_simp; refine hK _ ?_; clear hK K)
      apply wpT_call
      focus rfl
      focus rfl
      focus exact S2.out
      focus (rintro Z ⟨s0, s1, s2, s3⟩; go_simp; exact ⟨rfl, rfl⟩)
      focus (rintro Z ⟨s0, s1, s2, s3⟩; have := rblock_any s3 HB.out (by omega : nx ≤ fl.P); rw [HSB.out] at this; exact this)
      intro K hK
      go_simp
      refine hK _ ?_
      clear hK K
      apply wpT_fork
      focus rfl
      focus rfl
      · intro K hK
        go_simp
        refine (HRD.out _).mono ?_
        rintro e V1 ⟨k0, n0, v0, c0, okb, rfl, hro, b1⟩
        have HRO := Lib.hid hro
        have HR3 := Lib.hid (HR2.out.below b1)
        have HW3 := Lib.hid (S2.out.2.2.2.below b1)
        have HC3 : Hid (Ch (fun x => x = S) w V1) := HC2.out.trans (Ch.of_below b1 _)
        refine hK _ _ ⟨HR3.out.c0, HR3.out.c4, HR3.out.c2, HW3.out⟩ ?_
        clear hK K b1 hro S2 HR2 HC2 HRD
        have S3 : Hid (V1.cell? ⟨S, 0, none⟩ = some (fptr X) ∧ V1.cell? ⟨S, 4, none⟩ = some (.int .i64 nx) ∧ V1.cell? ⟨S, 2, none⟩ = some (.int .i64 b) ∧ RW V1 D X y fl) := ⟨HR3.out.c0, HR3.out.c4, HR3.out.c2, HW3.out⟩
        iterate 3 (apply wpT_go; (focus rfl); (focus rfl); (focus exact S3.out); (focus (rintro Z ⟨s0, s1, s2, s3⟩; go_simp; exact rfl)); intro K hK; go_simp; refine hK _ ?_; clear hK K)
        clear S3
        have hT1 : Row (V1.alloc (.cells #[.int .u8 0, .string ⟨#[]⟩, .string ⟨#[]⟩, .int .i64 0] 109)) V1.heap.size 109 4 (fun j => if j = 0 then .int .u8 0 else if j = 1 then .string ⟨#[]⟩ else if j = 2 then .string ⟨#[]⟩ else .int .i64 0) := Row.ofList V1 109 _ _ 4 rfl
        have b4 : Below V1.heap.size V1 (V1.alloc (.cells #[.int .u8 0, .string ⟨#[]⟩, .string ⟨#[]⟩, .int .i64 0] 109)) := (Below.refl _ _).alloc (Nat.le_refl _) _
        apply wpT_one
        focus rfl
        intro K hK
        go_simp
        have HR4 := Lib.hid (HR3.out.below b4)
        have HW4 := Lib.hid (HW3.out.below b4)
        have HC4 : Hid (Ch (fun x => x = S) w (V1.alloc (.cells #[.int .u8 0, .string ⟨#[]⟩, .string ⟨#[]⟩, .int .i64 0] 109))) := HC3.out.trans (Ch.of_below b4 _)
        refine hK _ _ ⟨HR4.out.c0, HR4.out.c4, HR4.out.c2, HW4.out⟩ ?_
        clear hK K b4
        obtain ⟨T, hT⟩ : ∃ T, V1.heap.size = T := ⟨_, rfl⟩
        have hTS : T ≠ S := by have := HR3.out.fin S HR3.out.dS; omega
        have hTD : ¬ D T := fun h => by have := HW3.out.fin T h; omega
        have hTD' : ¬ D' T := fun h => by have := HR3.out.fin T h; omega
        have hTw : w.heap.size ≤ T := by rw [← hT]; exact HC3.out.size
        obtain ⟨V2, hV2⟩ : ∃ V2, V1.alloc (.cells #[.int .u8 0, .string ⟨#[]⟩, .string ⟨#[]⟩, .int .i64 0] 109) = V2 := ⟨_, rfl⟩
        rw [hV2] at hT1 HR4 HW4 HC4
        rw [hT] at hT1
        simp only [hV2, hT]
        clear hV2 hT HR3 HW3 HC3
        have r0 := hT1.cell (i := 0) (by omega)
        have r1 := hT1.cell (i := 1) (by omega)
        have r2 := hT1.cell (i := 2) (by omega)
        have r3 := hT1.cell (i := 3) (by omega)
        have f0 := hT1.frozen 0
        have f1 := hT1.frozen 1
        have f2 := hT1.frozen 2
        have f3 := hT1.frozen 3
        have hCT : Ch (fun x => x = T) V2 ((((V2.setCell ⟨T, 0, none⟩ (.int .u8 k0)).setCell ⟨T, 1, none⟩ (.string n0)).setCell ⟨T, 2, none⟩ (.string v0)).setCell ⟨T, 3, none⟩ (.int .i64 c0)) :=
          ((((Ch.refl (fun x => x = T) V2).setCell (p := ⟨T, 0, none⟩) (fun _ => rfl) _).setCell (p := ⟨T, 1, none⟩) (fun _ => rfl) _).setCell (p := ⟨T, 2, none⟩) (fun _ => rfl) _).setCell (p := ⟨T, 3, none⟩) (fun _ => rfl) _
        have hT5 : Row ((((V2.setCell ⟨T, 0, none⟩ (.int .u8 k0)).setCell ⟨T, 1, none⟩ (.string n0)).setCell ⟨T, 2, none⟩ (.string v0)).setCell ⟨T, 3, none⟩ (.int .i64 c0)) T 109 4 (fun j => if j = 0 then .int .u8 k0 else if j = 1 then .string n0 else if j = 2 then .string v0 else .int .i64 c0) := (hT1.set4 (.int .u8 k0) (.string n0) (.string v0) (.int .i64 c0)).congr fun j hj => by
          rcases (by omega : j = 0 ∨ j = 1 ∨ j = 2 ∨ j = 3) with e | e | e | e <;> subst e <;> simp
        have HR5 := Lib.hid (HR4.out.ch hCT (fun k hk e => hTD' (e ▸ hk)))
        have HW5 := Lib.hid (HW4.out.ch hCT (fun k hk e => hTD (e ▸ hk)))
        have HC5 : Hid (Ch (fun x => x = S) w ((((V2.setCell ⟨T, 0, none⟩ (.int .u8 k0)).setCell ⟨T, 1, none⟩ (.string n0)).setCell ⟨T, 2, none⟩ (.string v0)).setCell ⟨T, 3, none⟩ (.int .i64 c0))) := HC4.out.andThen hCT (fun k e hk => absurd hk (by rw [e]; omega))
        have HT5 := Lib.hid hT5
        clear hCT hT5 hT1 HR4 HW4 HC4
        apply wpT_one
        focus rfl
        intro K hK
        go_simp
        refine hK _ _ ⟨HR5.out.c0, HR5.out.c4, HR5.out.c2, HW5.out⟩ ?_
        clear hK K r0 r1 r2 r3 f0 f1 f2 f3
        generalize (((V2.setCell ⟨T, 0, none⟩ (.int .u8 k0)).setCell ⟨T, 1, none⟩ (.string n0)).setCell ⟨T, 2, none⟩ (.string v0)).setCell ⟨T, 3, none⟩ (.int .i64 c0) = w6 at *
        apply wpT_two
        focus rfl
        intro K hK
        go_simp
        refine hK _ _ ?_
        clear hK K
        refine wpT_done ?_
        have hpgd : (pgsF fl b).getD nx [] = fl.pg b nx := pgsF_get fl b nx hlt
        have hp64 : (fl.pg b nx).length = 64 := H.out.len b nx HB.out hlt
        rcases hdec : dec ((pgsF fl b).drop nx) with _ | ⟨k, n, v, c⟩
        · have hokb := HRO.out.2 hdec
          subst hokb
          obtain ⟨pe, hpe⟩ : ∃ pe : ByteArray, str (fl.pg b nx) = .string pe := ⟨_, rfl⟩
          have hpel : pe.data.toList = fl.pg b nx := by injection hpe with hpe; rw [← hpe]
          have hE2 := HE.out.1
          have hfin : rpl fl.P (pgsF fl b) [] 1 = (V, nx, pe.data.toList.any (fun x => x != 255)) := by
            rw [hE2, hpel]
            by_cases hz : zeros (fl.pg b nx) = 0
            · rw [rpl_stop (by rw [hpgd]; exact fun h => h.2 hz)]
              have : (fl.pg b nx).any (fun x => x != 255) = false := by
                rw [List.any_eq_false]; intro x hx; simp [(zeros_one _).1 hz x hx]
              rw [this]
            · obtain ⟨f', rfl⟩ : ∃ f', f = f' + 1 := ⟨f - 1, by omega⟩
              rw [rpl_none (by rw [pgsF_len, hpgd]; exact ⟨hlt, hz⟩) hdec]
              have : (fl.pg b nx).any (fun x => x != 255) = true := by
                rw [List.any_eq_true]
                refine Classical.byContradiction fun hn => hz ((zeros_one _).2 fun x hx => ?_)
                refine Classical.byContradiction fun hx2 => hn ⟨x, hx, by simpa using hx2⟩
              rw [this]
          have HFIN := Lib.hid hfin
          obtain ⟨N, hN⟩ : ∃ N, pe.size = N := ⟨_, rfl⟩
          have hN64 : N = 64 := by rw [← hN, bsz, hpel, hp64]
          have HN := Lib.hid hN
          have d0 : w6.drew.cell? ⟨S, 0, none⟩ = some (fptr X) := HR5.out.c0
          have d2 : w6.drew.cell? ⟨S, 2, none⟩ = some (.int .i64 b) := HR5.out.c2
          have d4 : w6.drew.cell? ⟨S, 4, none⟩ = some (.int .i64 nx) := HR5.out.c4
          have d5 : w6.drew.cell? ⟨X, 3, none⟩ = some (.slice (some ⟨y.pb, 0, none⟩) fl.B y.pc) := HW5.out.c3
          have d6 : w6.drew.cell? ⟨y.pb, b, none⟩ = some (.slice (some ⟨y.g b, 0, none⟩) fl.P (y.cp b)) := HW5.out.cs HB.out
          have d7 : w6.drew.cell? ⟨y.g b, nx, none⟩ = some (.string pe) := by rw [← hpe]; exact HW5.out.cg HB.out hlt
          have hbI : (b : Int) < (fl.B : Int) := by have := HB.out; omega
          have hpc := HW5.out.pc
          have hcp := HW5.out.cp b HB.out
          have HR6 := Lib.hid (HR5.out.below ((Below.refl _ w6).drew))
          have HC6 : Hid (Ch (fun x => x = S) w w6.drew) := HC5.out.drew
          clear hpe hpel hE2 hfin hdec HRO HE HT5 hpgd hp64 HR5 HC5 HW5 hN
          go_wp2_with fail
          refine wp_region_pl (fun Y => Y = w6.drew) ((0, 0) :: (1, 0) :: (2, 0) :: (3, 0) :: (4, 0) :: (5, 0) :: (6, 0) :: (7, 0) :: (8, 0) :: (9, 0) :: (10, 0) :: (11, 0) :: (12, 0) :: (13, 0) :: (14, 0) :: (15, 0) :: (16, 0) :: (17, 0) :: (18, 0) :: (19, 0) :: []) (by kernel_rfl) (by kernel_rfl) ?_
          iterate 20 (apply wpP_go; (focus rfl); (focus rfl); (focus exact rfl); (focus (rintro Z rfl; go_simp; exact rfl)); intro K hK; go_simp; refine hK _ ?_; clear hK K)
          refine wpP_done ?_
          clear d0 d2 d4 d5 d6 d7 hpc hcp
          generalize w6.drew = W6 at *
          go_wp2_with fail
          go_loopw [5] (fun z wr => ∃ i : Nat, i ≤ N ∧ z = .int .i64 (i : Int) ∧ Hid (RS wr D' S X ⟨V, b, g, nx, (pe.data.toList.take i).any (fun x => x != 255)⟩) ∧ Hid (Ch (fun x => x = S) w wr)) (fun z _ => N - (intOf z).toNat)
          case atStart => exact ⟨0, by omega, rfl, HR6, HC6⟩
          case round =>
            clear HR6 HC6
            obtain ⟨i, hi, rfl, HR, HC⟩ := hrel
            have hN := HN.out
            by_cases hli : i < N
            · have y0 : (i : Int) < N := by omega
              have hls : i < pe.size := by omega
              have hgi : pe.data.toList.getD i 0 = pe[i]'hls := by
                rw [List.getD_eq_getElem?_getD, List.getElem?_eq_getElem (by rw [Array.length_toList]; exact hls)]; rfl
              have hat := any_take (l := pe.data.toList) (i := i) (by rw [Array.length_toList]; exact hls)
              have k5 := HR.out.c5
              have f5 := HR.out.fr 5
              have hw5 := fun bb => HR.out.withClo bb
              have HW5 := Lib.hid hw5
              have hch := fun bb : Bool => HC.out.setCell (p := ⟨S, 5, none⟩) (fun _ => rfl) (.bool bb)
              have HCH : Hid (∀ bb : Bool, Ch (fun x => x = S) w (wr.setCell ⟨S, 5, none⟩ (.bool bb))) := hch
              rw [hgi] at hat
              have HAT := Lib.hid hat
              obtain ⟨cl, hcl⟩ : ∃ cl, (pe.data.toList.take i).any (fun x => x != 255) = cl := ⟨_, rfl⟩
              rw [hcl] at HAT
              have k5' : wr.cell? ⟨S, 5, none⟩ = some (.bool cl) := by rw [← hcl]; exact k5
              clear hat hgi hcl k5 hw5 hch hN
              cases cl
              · by_cases he : pe[i]'hls = 255
                · have h255 : ((pe[i]'hls).toNat : Int) = 255 := by rw [he]; rfl
                  have HN2 : Hid ((pe.data.toList.take (i + 1)).any (fun x => x != 255) = false) := by show _ = _; rw [HAT.out, he]; rfl
                  clear he
                  go_wp2_with fail
                  go_roundw
                  case rel => exact ⟨i + 1, by omega, by go_num, by (show RS _ _ _ _ _; rw [HN2.out]; exact HW5.out false), HCH.out false⟩
                  case measure => simp [intOf]; omega
                · have hb5 : (((pe[i]'hls).toNat : Int) == 255) = false := by
                    rw [beq_eq_false_iff_ne]
                    intro h9
                    apply he
                    apply UInt8.toNat_inj.1
                    have : ((255 : UInt8).toNat : Int) = 255 := rfl
                    omega
                  have hbne : (((pe[i]'hls).toNat : Int) != 255) = true := by rw [bne, hb5]; rfl
                  have HN2 : Hid ((pe.data.toList.take (i + 1)).any (fun x => x != 255) = true) := by show _ = _; rw [HAT.out]; simpa using he
                  clear he
                  go_wp2_with fail
                  go_roundw
                  case rel => exact ⟨i + 1, by omega, by go_num, by (show RS _ _ _ _ _; rw [HN2.out]; exact HW5.out true), HCH.out true⟩
                  case measure => simp [intOf]; omega
              · have HN2 : Hid ((pe.data.toList.take (i + 1)).any (fun x => x != 255) = true) := by show _ = _; rw [HAT.out]; rfl
                go_wp2_with fail
                go_roundw
                case rel => exact ⟨i + 1, by omega, by go_num, by (show RS _ _ _ _ _; rw [HN2.out]; exact HW5.out true), HCH.out true⟩
                case measure => simp [intOf]; omega
            · have y0 : ¬ (i : Int) < N := by omega
              have y1 : ¬ (i : Int) < (pe.size : Int) := by omega
              have hti : pe.data.toList.take i = pe.data.toList := List.take_of_length_le (by rw [Array.length_toList]; show pe.size ≤ i; omega)
              have HR7 := HR
              rw [hti] at HR7
              clear hti hN
              go_wp2_with fail
              (try simp only [Exit.inBlock, Exit.then])
              refine bodyPost_ret (results_none rfl _ _ _) rfl ?_
              rw [HFIN.out]
              exact ⟨rfl, ⟨D', HD'.out, HR7.out⟩, HC.out⟩
        · obtain ⟨hokb, q0, q1, q2, q3⟩ := HRO.out.1 _ _ _ _ hdec
          subst hokb
          injection q0 with _ q0
          injection q3 with _ q3
          have q1' : n0.data.toList = n := by injection q1 with q1; rw [q1]
          have q2' : v0.data.toList = v := by injection q2 with q2; rw [q2]
          subst q0 q3
          obtain ⟨hol, hcp, hc1, hc2⟩ := dec_some H64.out hdec
          rw [List.length_drop, pgsF_len] at hc2
          have hk := okLens_k hol
          have hnv := okLens_le hol
          have hz : zeros ((pgsF fl b).getD nx []) ≠ 0 := fun hz => by
            have hff : ((pgsF fl b).drop nx).getD 0 [] = (pgsF fl b).getD nx [] := by simp [List.getD_eq_getElem?_getD]
            have := dec_ff (ps := (pgsF fl b).drop nx) (by
              rw [hff, hpgd, List.getD_eq_getElem?_getD, List.getElem?_eq_getElem (by omega)]
              exact (zeros_one _).1 (by rw [← hpgd]; exact hz) _ (List.getElem_mem _))
            rw [this] at hdec; cases hdec
          obtain ⟨f', rfl⟩ : ∃ f', f = f' + 1 := ⟨f - 1, by omega⟩
          have hE2 := HE.out.1
          rw [rpl_some (by rw [pgsF_len]; exact ⟨hlt, hz⟩) hdec] at hE2
          have hVl := HE.out.2
          have HAS := Lib.hid (appV_srt HR5.out.srt k n v)
          have HAV := Lib.hid (appV_hv HR5.out.hv (k := k) hnv.1 hnv.2)
          have hnl : n.length ≤ 24 ∧ v.length ≤ 128 := hnv
          have HEE : Hid (rpl fl.P (pgsF fl b) [] 1 = rpl f' (pgsF fl b) (appV V k n v) (nx + c)) := hE2
          clear hE2 HE hz hdec HRO hcp hol hpgd hp64 q1 q2 hnv H64
          subst q1' q2'
          rcases hk with rfl | rfl | rfl
          · have HR6 := Lib.hid (HR5.out.below ((Below.refl _ w6).drew))
            have HC6 : Hid (Ch (fun x => x = S) w w6.drew) := HC5.out.drew
            have HT6 : Hid (Row w6.drew T 109 4 (fun j => if j = 0 then .int .u8 1 else if j = 1 then .string n0 else if j = 2 then .string v0 else .int .i64 c)) := HT5.out.drew
            clear HR5 HC5 HT5 HW5
            obtain ⟨a, cv, p1, hvs⟩ := HR6.out.c1
            have HVS := Lib.hid hvs
            obtain ⟨L, hL⟩ : ∃ L, V.length = L := ⟨_, rfl⟩
            have HLL := Lib.hid hL
            have S6 : Hid (w6.drew.cell? ⟨S, 1, none⟩ = some (.slice a L cv) ∧ w6.drew.cell? ⟨T, 1, none⟩ = some (.string n0) ∧ w6.drew.cell? ⟨T, 2, none⟩ = some (.string v0)) := ⟨by rw [← hL]; exact p1, HT6.out.cell (i := 1) (by omega), HT6.out.cell (i := 2) (by omega)⟩
            have hL1 : L ≤ 1000 := by omega
            have t0 : w6.cell? ⟨T, 0, none⟩ = some (.int .u8 1) := HT6.out.cell (i := 0) (by omega)
            have HWT := Lib.hid (rwith_any HVS.out HLL.out (by omega) HR6.out.srt n0 v0)
            clear hvs p1 hL
            generalize hw6 : w6.drew = W6 at *
            go_wp2_with fail
            refine wp_region_pt (fun Y => Y.cell? ⟨S, 1, none⟩ = some (.slice a L cv) ∧ Y.cell? ⟨T, 1, none⟩ = some (.string n0) ∧ Y.cell? ⟨T, 2, none⟩ = some (.string v0)) ((0, 0) :: (1, 0) :: (2, 0) :: (3, 0) :: (4, 0) :: (5, 0) :: (6, 0) :: (7, 0) :: (8, 0) :: (9, 1) :: (10, 0) :: (11, 0) :: (12, 2) :: []) (by kernel_rfl) (by kernel_rfl) ?_
            rw [hw6]
            clear hw6
            iterate 9 (apply wpP_go; (focus rfl); (focus rfl); (focus exact S6.out); (focus (rintro Z ⟨s0, s1, s2⟩; go_simp; exact rfl)); intro K hK; go_simp; refine hK _ ?_; clear hK K)
            apply wpP_one
            focus rfl
            intro K hK
            go_simp
            refine HWT.out.mono ?_
            rintro e V3 ⟨v2, rfl, hov⟩
            obtain ⟨a2, c2, rfl, hv2, hg2⟩ := hov.form
            have hlt2 := hov.lt
            have b3 := hov.bel
            have S8 : Hid (V3.cell? ⟨S, 1, none⟩ = some (.slice a L cv) ∧ V3.cell? ⟨T, 1, none⟩ = some (.string n0) ∧ V3.cell? ⟨T, 2, none⟩ = some (.string v0)) := ⟨cell_later b3 S6.out.1, cell_later b3 S6.out.2.1, cell_later b3 S6.out.2.2⟩
            refine hK _ _ S8.out ?_
            have HRA := Lib.hid (HR6.out.below b3)
            have HTA : Hid (Row V3 T 109 4 (fun j => if j = 0 then .int .u8 1 else if j = 1 then .string n0 else if j = 2 then .string v0 else .int .i64 c)) := HT6.out.ch (Ch.of_below b3 (fun _ => False)) id
            have HCA : Hid (Ch (fun x => x = S) w V3) := HC6.out.trans (Ch.of_below b3 _)
            have hszz := HC6.out.size
            have hV8 : (setV V n0.data.toList v0.data.toList).length ≤ nx + 1 := by have := setV_len V n0.data.toList v0.data.toList; omega
            have hS6 : S < W6.heap.size := HR6.out.fin S HR6.out.dS
            have HRB : Hid (RS (V3.setCell ⟨S, 1, none⟩ (.slice a2 (setV V n0.data.toList v0.data.toList).length c2)) (fun k => D' k ∨ a2 = some ⟨k, 0, none⟩) S X ⟨(setV V n0.data.toList v0.data.toList), b, g, nx, false⟩) := HRA.out.withV hv2 (fun k e => ⟨fun e2 => by have := hg2 k e; omega, hlt2 k e⟩) (by have := HAS.out; simpa [appV] using this) (by have := HAV.out; simpa [appV] using this) hV8
            have HDB : Hid (∀ i, (D' i ∨ a2 = some ⟨i, 0, none⟩) → DS i ∨ w.heap.size ≤ i) := fun i hi => hi.elim (HD'.out i) (fun e => .inr (Nat.le_trans hszz (hg2 i e)))
            have hTS' : T ≠ S := hTS
            have HTB : Hid (Row (V3.setCell ⟨S, 1, none⟩ (.slice a2 (setV V n0.data.toList v0.data.toList).length c2)) T 109 4 (fun j => if j = 0 then .int .u8 1 else if j = 1 then .string n0 else if j = 2 then .string v0 else .int .i64 c)) := HTA.out.far (p := ⟨S, 1, none⟩) hTS' _
            have HCB : Hid (Ch (fun x => x = S) w (V3.setCell ⟨S, 1, none⟩ (.slice a2 (setV V n0.data.toList v0.data.toList).length c2))) := HCA.out.setCell (p := ⟨S, 1, none⟩) (fun _ => rfl) _
            have p8 := S8.out.1
            have f8 := HRA.out.fr 1
            have HAE : Hid (appV V 1 n0.data.toList v0.data.toList = (setV V n0.data.toList v0.data.toList)) := rfl
            rw [HAE.out] at HEE
            clear hK K hov hv2 hg2 hlt2 b3 S6 HWT HVS HR6 HC6 HT6 HRA HTA HCA hV8 hszz hS6
            obtain ⟨L2, hL2⟩ : ∃ L2, (setV V n0.data.toList v0.data.toList).length = L2 := ⟨_, rfl⟩
            rw [hL2] at HRB HTB HCB ⊢
            iterate 2 (apply wpP_go; (focus rfl); (focus rfl); (focus exact S8.out); (focus (rintro Z ⟨s0, s1, s2⟩; go_simp; exact rfl)); intro K hK; go_simp; refine hK _ ?_; clear hK K)
            clear S8
            apply wpP_two
            focus rfl
            intro K hK
            go_simp
            refine hK _ _ ?_
            clear hK K p8 f8
            refine wpP_done ?_
            generalize V3.setCell ⟨S, 1, none⟩ (.slice a2 L2 c2) = W8 at *
            have HL2 := Lib.hid hL2
            clear hL2

            have S7 : Hid (W8.drew.cell? ⟨S, 4, none⟩ = some (.int .i64 nx) ∧ W8.drew.cell? ⟨T, 3, none⟩ = some (.int .i64 c)) := ⟨HRB.out.c4, HTB.out.cell (i := 3) (by omega)⟩
            have S7' := S7.out
            have HR7 := Lib.hid (HRB.out.below ((Below.refl _ W8).drew))
            have HC7 : Hid (Ch (fun x => x = S) w W8.drew) := HCB.out.drew
            have hnw : IntKind.i64.wrap ((nx : Int) + (c : Int)) = (nx : Int) + (c : Int) := IntWalk.i64_in _ ⟨by omega, by omega⟩
            have m4 := HR7.out.c4
            have mf := HR7.out.fr 4
            clear HRB HCB HTB
            go_wp2_with fail
            refine wp_region_pt (fun Y => Y = W8.drew) ((0, 0) :: (1, 0) :: (2, 0) :: (3, 0) :: (4, 0) :: (5, 0) :: (6, 0) :: (7, 0) :: (8, 0) :: (9, 0) :: (10, 2) :: []) (by kernel_rfl) (by kernel_rfl) ?_
            obtain ⟨t0, t1⟩ := S7'
            iterate 10 (apply wpP_go; (focus rfl); (focus rfl); (focus exact rfl); (focus (rintro Z rfl; go_simp; exact rfl)); intro K hK; go_simp; refine hK _ ?_; clear hK K)
            apply wpP_two
            focus rfl
            intro K hK
            go_simp
            refine hK _ _ ?_
            clear hK K t0 t1
            refine wpP_done ?_
            have hV9 : (setV V n0.data.toList v0.data.toList).length ≤ nx + 1 := by have := hVl; have := setV_len V n0.data.toList v0.data.toList; omega
            have HR8 : Hid (RS (W8.drew.setCell ⟨S, 4, none⟩ (.int .i64 ((nx + c : Nat) : Int))) (fun k => D' k ∨ a2 = some ⟨k, 0, none⟩) S X ⟨(setV V n0.data.toList v0.data.toList), b, g, nx + c, false⟩) := HR7.out.withNxt (nx := nx + c) (by omega) (by show (setV V n0.data.toList v0.data.toList).length ≤ nx + c + 1; omega)
            have HC8 : Hid (Ch (fun x => x = S) w (W8.drew.setCell ⟨S, 4, none⟩ (.int .i64 ((nx + c : Nat) : Int)))) := HC7.out.setCell (p := ⟨S, 4, none⟩) (fun _ => rfl) _
            clear m4 mf S7 HR7 HC7
            go_wp2_with fail
            have hpp : (nx : Int) + (c : Int) = ((nx + c : Nat) : Int) := by omega
            rw [hpp]
            go_roundw
            case rel => exact ⟨f', nx + c, (setV V n0.data.toList v0.data.toList), by omega, by omega, by omega, HR8.out.c4, ⟨HEE.out, by show (setV V n0.data.toList v0.data.toList).length ≤ nx + c; omega⟩, ⟨(fun k => D' k ∨ a2 = some ⟨k, 0, none⟩), HDB.out, HR8.out⟩, HC8⟩
            case measure =>
              change fl.P - (intOf (((W8.drew.setCell ⟨S, 4, none⟩ (.int .i64 ((nx + c : Nat) : Int))).cell? ⟨S, 4, none⟩).getD undef)).toNat < _
              rw [HR8.out.c4, HM4.out]
              simp [intOf]
              omega
          · have HR6 := Lib.hid (HR5.out.below ((Below.refl _ w6).drew))
            have HC6 : Hid (Ch (fun x => x = S) w w6.drew) := HC5.out.drew
            have HT6 : Hid (Row w6.drew T 109 4 (fun j => if j = 0 then .int .u8 2 else if j = 1 then .string n0 else if j = 2 then .string v0 else .int .i64 c)) := HT5.out.drew
            clear HR5 HC5 HT5 HW5
            obtain ⟨a, cv, p1, hvs⟩ := HR6.out.c1
            have HVS := Lib.hid hvs
            obtain ⟨L, hL⟩ : ∃ L, V.length = L := ⟨_, rfl⟩
            have HLL := Lib.hid hL
            have S6 : Hid (w6.drew.cell? ⟨S, 1, none⟩ = some (.slice a L cv) ∧ w6.drew.cell? ⟨T, 1, none⟩ = some (.string n0) ∧ w6.drew.cell? ⟨T, 2, none⟩ = some (.string v0)) := ⟨by rw [← hL]; exact p1, HT6.out.cell (i := 1) (by omega), HT6.out.cell (i := 2) (by omega)⟩
            have hL1 : L ≤ 1000 := by omega
            have t0 : w6.cell? ⟨T, 0, none⟩ = some (.int .u8 2) := HT6.out.cell (i := 0) (by omega)
            have HWT := Lib.hid (rwithout_any HVS.out HLL.out (by omega) n0)
            clear hvs p1 hL
            generalize hw6 : w6.drew = W6 at *
            go_wp2_with fail
            refine wp_region_pt (fun Y => Y.cell? ⟨S, 1, none⟩ = some (.slice a L cv) ∧ Y.cell? ⟨T, 1, none⟩ = some (.string n0) ∧ Y.cell? ⟨T, 2, none⟩ = some (.string v0)) ((0, 0) :: (1, 0) :: (2, 0) :: (3, 0) :: (4, 0) :: (5, 0) :: (6, 0) :: (7, 1) :: (8, 0) :: (9, 0) :: (10, 2) :: []) (by kernel_rfl) (by kernel_rfl) ?_
            rw [hw6]
            clear hw6
            iterate 7 (apply wpP_go; (focus rfl); (focus rfl); (focus exact S6.out); (focus (rintro Z ⟨s0, s1, s2⟩; go_simp; exact rfl)); intro K hK; go_simp; refine hK _ ?_; clear hK K)
            apply wpP_one
            focus rfl
            intro K hK
            go_simp
            refine HWT.out.mono ?_
            rintro e V3 ⟨v2, rfl, hov⟩
            obtain ⟨a2, c2, rfl, hv2, hg2⟩ := hov.form
            have hlt2 := hov.lt
            have b3 := hov.bel
            have S8 : Hid (V3.cell? ⟨S, 1, none⟩ = some (.slice a L cv) ∧ V3.cell? ⟨T, 1, none⟩ = some (.string n0) ∧ V3.cell? ⟨T, 2, none⟩ = some (.string v0)) := ⟨cell_later b3 S6.out.1, cell_later b3 S6.out.2.1, cell_later b3 S6.out.2.2⟩
            refine hK _ _ S8.out ?_
            have HRA := Lib.hid (HR6.out.below b3)
            have HTA : Hid (Row V3 T 109 4 (fun j => if j = 0 then .int .u8 2 else if j = 1 then .string n0 else if j = 2 then .string v0 else .int .i64 c)) := HT6.out.ch (Ch.of_below b3 (fun _ => False)) id
            have HCA : Hid (Ch (fun x => x = S) w V3) := HC6.out.trans (Ch.of_below b3 _)
            have hszz := HC6.out.size
            have hV8 : (delV V n0.data.toList).length ≤ nx + 1 := by have := delV_len V n0.data.toList; omega
            have hS6 : S < W6.heap.size := HR6.out.fin S HR6.out.dS
            have HRB : Hid (RS (V3.setCell ⟨S, 1, none⟩ (.slice a2 (delV V n0.data.toList).length c2)) (fun k => D' k ∨ a2 = some ⟨k, 0, none⟩) S X ⟨(delV V n0.data.toList), b, g, nx, false⟩) := HRA.out.withV hv2 (fun k e => ⟨fun e2 => by have := hg2 k e; omega, hlt2 k e⟩) (by have := HAS.out; simpa [appV] using this) (by have := HAV.out; simpa [appV] using this) hV8
            have HDB : Hid (∀ i, (D' i ∨ a2 = some ⟨i, 0, none⟩) → DS i ∨ w.heap.size ≤ i) := fun i hi => hi.elim (HD'.out i) (fun e => .inr (Nat.le_trans hszz (hg2 i e)))
            have hTS' : T ≠ S := hTS
            have HTB : Hid (Row (V3.setCell ⟨S, 1, none⟩ (.slice a2 (delV V n0.data.toList).length c2)) T 109 4 (fun j => if j = 0 then .int .u8 2 else if j = 1 then .string n0 else if j = 2 then .string v0 else .int .i64 c)) := HTA.out.far (p := ⟨S, 1, none⟩) hTS' _
            have HCB : Hid (Ch (fun x => x = S) w (V3.setCell ⟨S, 1, none⟩ (.slice a2 (delV V n0.data.toList).length c2))) := HCA.out.setCell (p := ⟨S, 1, none⟩) (fun _ => rfl) _
            have p8 := S8.out.1
            have f8 := HRA.out.fr 1
            have HAE : Hid (appV V 2 n0.data.toList v0.data.toList = (delV V n0.data.toList)) := rfl
            rw [HAE.out] at HEE
            clear hK K hov hv2 hg2 hlt2 b3 S6 HWT HVS HR6 HC6 HT6 HRA HTA HCA hV8 hszz hS6
            obtain ⟨L2, hL2⟩ : ∃ L2, (delV V n0.data.toList).length = L2 := ⟨_, rfl⟩
            rw [hL2] at HRB HTB HCB ⊢
            iterate 2 (apply wpP_go; (focus rfl); (focus rfl); (focus exact S8.out); (focus (rintro Z ⟨s0, s1, s2⟩; go_simp; exact rfl)); intro K hK; go_simp; refine hK _ ?_; clear hK K)
            clear S8
            apply wpP_two
            focus rfl
            intro K hK
            go_simp
            refine hK _ _ ?_
            clear hK K p8 f8
            refine wpP_done ?_
            generalize V3.setCell ⟨S, 1, none⟩ (.slice a2 L2 c2) = W8 at *
            have HL2 := Lib.hid hL2
            clear hL2

            have S7 : Hid (W8.drew.cell? ⟨S, 4, none⟩ = some (.int .i64 nx) ∧ W8.drew.cell? ⟨T, 3, none⟩ = some (.int .i64 c)) := ⟨HRB.out.c4, HTB.out.cell (i := 3) (by omega)⟩
            have S7' := S7.out
            have HR7 := Lib.hid (HRB.out.below ((Below.refl _ W8).drew))
            have HC7 : Hid (Ch (fun x => x = S) w W8.drew) := HCB.out.drew
            have hnw : IntKind.i64.wrap ((nx : Int) + (c : Int)) = (nx : Int) + (c : Int) := IntWalk.i64_in _ ⟨by omega, by omega⟩
            have m4 := HR7.out.c4
            have mf := HR7.out.fr 4
            clear HRB HCB HTB
            go_wp2_with fail
            refine wp_region_pt (fun Y => Y = W8.drew) ((0, 0) :: (1, 0) :: (2, 0) :: (3, 0) :: (4, 0) :: (5, 0) :: (6, 0) :: (7, 0) :: (8, 0) :: (9, 0) :: (10, 2) :: []) (by kernel_rfl) (by kernel_rfl) ?_
            obtain ⟨t0, t1⟩ := S7'
            iterate 10 (apply wpP_go; (focus rfl); (focus rfl); (focus exact rfl); (focus (rintro Z rfl; go_simp; exact rfl)); intro K hK; go_simp; refine hK _ ?_; clear hK K)
            apply wpP_two
            focus rfl
            intro K hK
            go_simp
            refine hK _ _ ?_
            clear hK K t0 t1
            refine wpP_done ?_
            have hV9 : (delV V n0.data.toList).length ≤ nx + 1 := by have := hVl; have := delV_len V n0.data.toList; omega
            have HR8 : Hid (RS (W8.drew.setCell ⟨S, 4, none⟩ (.int .i64 ((nx + c : Nat) : Int))) (fun k => D' k ∨ a2 = some ⟨k, 0, none⟩) S X ⟨(delV V n0.data.toList), b, g, nx + c, false⟩) := HR7.out.withNxt (nx := nx + c) (by omega) (by show (delV V n0.data.toList).length ≤ nx + c + 1; omega)
            have HC8 : Hid (Ch (fun x => x = S) w (W8.drew.setCell ⟨S, 4, none⟩ (.int .i64 ((nx + c : Nat) : Int)))) := HC7.out.setCell (p := ⟨S, 4, none⟩) (fun _ => rfl) _
            clear m4 mf S7 HR7 HC7
            go_wp2_with fail
            have hpp : (nx : Int) + (c : Int) = ((nx + c : Nat) : Int) := by omega
            rw [hpp]
            go_roundw
            case rel => exact ⟨f', nx + c, (delV V n0.data.toList), by omega, by omega, by omega, HR8.out.c4, ⟨HEE.out, by show (delV V n0.data.toList).length ≤ nx + c; omega⟩, ⟨(fun k => D' k ∨ a2 = some ⟨k, 0, none⟩), HDB.out, HR8.out⟩, HC8⟩
            case measure =>
              change fl.P - (intOf (((W8.drew.setCell ⟨S, 4, none⟩ (.int .i64 ((nx + c : Nat) : Int))).cell? ⟨S, 4, none⟩).getD undef)).toNat < _
              rw [HR8.out.c4, HM4.out]
              simp [intOf]
              omega
          · have HAE : Hid (appV V 3 n0.data.toList v0.data.toList = V) := rfl
            rw [HAE.out] at HEE
            have HT6 : Hid (Row w6 T 109 4 (fun j => if j = 0 then .int .u8 3 else if j = 1 then .string n0 else if j = 2 then .string v0 else .int .i64 c)) := HT5.out
            have t0 : w6.cell? ⟨T, 0, none⟩ = some (.int .u8 3) := HT5.out.cell (i := 0) (by omega)
            clear HT5 HW5

            have S7 : Hid (w6.drew.cell? ⟨S, 4, none⟩ = some (.int .i64 nx) ∧ w6.drew.cell? ⟨T, 3, none⟩ = some (.int .i64 c)) := ⟨HR5.out.c4, HT6.out.cell (i := 3) (by omega)⟩
            have S7' := S7.out
            have HR7 := Lib.hid (HR5.out.below ((Below.refl _ w6).drew))
            have HC7 : Hid (Ch (fun x => x = S) w w6.drew) := HC5.out.drew
            have hnw : IntKind.i64.wrap ((nx : Int) + (c : Int)) = (nx : Int) + (c : Int) := IntWalk.i64_in _ ⟨by omega, by omega⟩
            have m4 := HR7.out.c4
            have mf := HR7.out.fr 4
            clear HR5 HC5 HT6
            go_wp2_with fail
            refine wp_region_pt (fun Y => Y = w6.drew) ((0, 0) :: (1, 0) :: (2, 0) :: (3, 0) :: (4, 0) :: (5, 0) :: (6, 0) :: (7, 0) :: (8, 0) :: (9, 0) :: (10, 2) :: []) (by kernel_rfl) (by kernel_rfl) ?_
            obtain ⟨t0, t1⟩ := S7'
            iterate 10 (apply wpP_go; (focus rfl); (focus rfl); (focus exact rfl); (focus (rintro Z rfl; go_simp; exact rfl)); intro K hK; go_simp; refine hK _ ?_; clear hK K)
            apply wpP_two
            focus rfl
            intro K hK
            go_simp
            refine hK _ _ ?_
            clear hK K t0 t1
            refine wpP_done ?_
            have hV9 : V.length ≤ nx + 1 := by have := hVl; have := hVl; omega
            have HR8 : Hid (RS (w6.drew.setCell ⟨S, 4, none⟩ (.int .i64 ((nx + c : Nat) : Int))) D' S X ⟨V, b, g, nx + c, false⟩) := HR7.out.withNxt (nx := nx + c) (by omega) (by show V.length ≤ nx + c + 1; omega)
            have HC8 : Hid (Ch (fun x => x = S) w (w6.drew.setCell ⟨S, 4, none⟩ (.int .i64 ((nx + c : Nat) : Int)))) := HC7.out.setCell (p := ⟨S, 4, none⟩) (fun _ => rfl) _
            clear m4 mf S7 HR7 HC7
            go_wp2_with fail
            have hpp : (nx : Int) + (c : Int) = ((nx + c : Nat) : Int) := by omega
            rw [hpp]
            go_roundw
            case rel => exact ⟨f', nx + c, V, by omega, by omega, by omega, HR8.out.c4, ⟨HEE.out, by show V.length ≤ nx + c; omega⟩, ⟨D', HD'.out, HR8.out⟩, HC8⟩
            case measure =>
              change fl.P - (intOf (((w6.drew.setCell ⟨S, 4, none⟩ (.int .i64 ((nx + c : Nat) : Int))).cell? ⟨S, 4, none⟩).getD undef)).toNat < _
              rw [HR8.out.c4, HM4.out]
              simp [intOf]
              omega
      · intro K hK
        go_simp
        have hT1 : Row (W.alloc (.cells #[.int .u8 0, .string ⟨#[]⟩, .string ⟨#[]⟩, .int .i64 0] 109)) W.heap.size 109 4 (fun j => if j = 0 then .int .u8 0 else if j = 1 then .string ⟨#[]⟩ else if j = 2 then .string ⟨#[]⟩ else .int .i64 0) := Row.ofList W 109 _ _ 4 rfl
        have b4 : Below W.heap.size W (W.alloc (.cells #[.int .u8 0, .string ⟨#[]⟩, .string ⟨#[]⟩, .int .i64 0] 109)) := (Below.refl _ _).alloc (Nat.le_refl _) _
        have HR3 := Lib.hid (HR2.out.below b4)
        have HW3 := Lib.hid (S2.out.2.2.2.below b4)
        have HC3 : Hid (Ch (fun x => x = S) w (W.alloc (.cells #[.int .u8 0, .string ⟨#[]⟩, .string ⟨#[]⟩, .int .i64 0] 109))) := HC2.out.trans (Ch.of_below b4 _)
        refine hK _ _ ⟨HR3.out.c0, HR3.out.c4, HR3.out.c2, HW3.out⟩ ?_
        obtain ⟨T, hT⟩ : ∃ T, W.heap.size = T := ⟨_, rfl⟩
        have hTS : T ≠ S := by have := HR2.out.fin S HR2.out.dS; omega
        have hTD : ¬ D T := fun h => by have := S2.out.2.2.2.fin T h; omega
        have hTD' : ¬ D' T := fun h => by have := HR2.out.fin T h; omega
        have hTw : w.heap.size ≤ T := by rw [← hT]; exact HC2.out.size
        obtain ⟨V1, hV1⟩ : ∃ V1, W.alloc (.cells #[.int .u8 0, .string ⟨#[]⟩, .string ⟨#[]⟩, .int .i64 0] 109) = V1 := ⟨_, rfl⟩
        rw [hV1] at hT1 HR3 HW3 HC3
        rw [hT] at hT1
        simp only [hV1, hT]
        clear hK K b4 hV1 hT S2 HR2 HC2
        apply wpT_one
        focus rfl
        intro K hK
        go_simp
        refine (HRD.out _).mono ?_
        rintro e V2 ⟨k0, n0, v0, c0, okb, rfl, hro, b1⟩
        have HRO := Lib.hid hro
        have HR4 := Lib.hid (HR3.out.below b1)
        have HW4 := Lib.hid (HW3.out.below b1)
        have HC4 : Hid (Ch (fun x => x = S) w V2) := HC3.out.trans (Ch.of_below b1 _)
        have hT1 := hT1.ch (Ch.of_below b1 (fun _ => False)) id
        refine hK _ _ ⟨HR4.out.c0, HR4.out.c4, HR4.out.c2, HW4.out⟩ ?_
        clear hK K b1 hro HRD HR3 HW3 HC3
        have S3 : Hid (V2.cell? ⟨S, 0, none⟩ = some (fptr X) ∧ V2.cell? ⟨S, 4, none⟩ = some (.int .i64 nx) ∧ V2.cell? ⟨S, 2, none⟩ = some (.int .i64 b) ∧ RW V2 D X y fl) := ⟨HR4.out.c0, HR4.out.c4, HR4.out.c2, HW4.out⟩
        iterate 3 (apply wpT_go; (focus rfl); (focus rfl); (focus exact S3.out); (focus (rintro Z ⟨s0, s1, s2, s3⟩; go_simp; exact rfl)); intro K hK; go_simp; refine hK _ ?_; clear hK K)
        clear S3
        have r0 := hT1.cell (i := 0) (by omega)
        have r1 := hT1.cell (i := 1) (by omega)
        have r2 := hT1.cell (i := 2) (by omega)
        have r3 := hT1.cell (i := 3) (by omega)
        have f0 := hT1.frozen 0
        have f1 := hT1.frozen 1
        have f2 := hT1.frozen 2
        have f3 := hT1.frozen 3
        have hCT : Ch (fun x => x = T) V2 ((((V2.setCell ⟨T, 0, none⟩ (.int .u8 k0)).setCell ⟨T, 1, none⟩ (.string n0)).setCell ⟨T, 2, none⟩ (.string v0)).setCell ⟨T, 3, none⟩ (.int .i64 c0)) :=
          ((((Ch.refl (fun x => x = T) V2).setCell (p := ⟨T, 0, none⟩) (fun _ => rfl) _).setCell (p := ⟨T, 1, none⟩) (fun _ => rfl) _).setCell (p := ⟨T, 2, none⟩) (fun _ => rfl) _).setCell (p := ⟨T, 3, none⟩) (fun _ => rfl) _
        have hT5 : Row ((((V2.setCell ⟨T, 0, none⟩ (.int .u8 k0)).setCell ⟨T, 1, none⟩ (.string n0)).setCell ⟨T, 2, none⟩ (.string v0)).setCell ⟨T, 3, none⟩ (.int .i64 c0)) T 109 4 (fun j => if j = 0 then .int .u8 k0 else if j = 1 then .string n0 else if j = 2 then .string v0 else .int .i64 c0) := (hT1.set4 (.int .u8 k0) (.string n0) (.string v0) (.int .i64 c0)).congr fun j hj => by
          rcases (by omega : j = 0 ∨ j = 1 ∨ j = 2 ∨ j = 3) with e | e | e | e <;> subst e <;> simp
        have HR5 := Lib.hid (HR4.out.ch hCT (fun k hk e => hTD' (e ▸ hk)))
        have HW5 := Lib.hid (HW4.out.ch hCT (fun k hk e => hTD (e ▸ hk)))
        have HC5 : Hid (Ch (fun x => x = S) w ((((V2.setCell ⟨T, 0, none⟩ (.int .u8 k0)).setCell ⟨T, 1, none⟩ (.string n0)).setCell ⟨T, 2, none⟩ (.string v0)).setCell ⟨T, 3, none⟩ (.int .i64 c0))) := HC4.out.andThen hCT (fun k e hk => absurd hk (by rw [e]; omega))
        have HT5 := Lib.hid hT5
        clear hCT hT5 hT1 HR4 HW4 HC4
        apply wpT_one
        focus rfl
        intro K hK
        go_simp
        refine hK _ _ ⟨HR5.out.c0, HR5.out.c4, HR5.out.c2, HW5.out⟩ ?_
        clear hK K r0 r1 r2 r3 f0 f1 f2 f3
        generalize (((V2.setCell ⟨T, 0, none⟩ (.int .u8 k0)).setCell ⟨T, 1, none⟩ (.string n0)).setCell ⟨T, 2, none⟩ (.string v0)).setCell ⟨T, 3, none⟩ (.int .i64 c0) = w6 at *
        apply wpT_two
        focus rfl
        intro K hK
        go_simp
        refine hK _ _ ?_
        clear hK K
        refine wpT_done ?_
        have hpgd : (pgsF fl b).getD nx [] = fl.pg b nx := pgsF_get fl b nx hlt
        have hp64 : (fl.pg b nx).length = 64 := H.out.len b nx HB.out hlt
        rcases hdec : dec ((pgsF fl b).drop nx) with _ | ⟨k, n, v, c⟩
        · have hokb := HRO.out.2 hdec
          subst hokb
          obtain ⟨pe, hpe⟩ : ∃ pe : ByteArray, str (fl.pg b nx) = .string pe := ⟨_, rfl⟩
          have hpel : pe.data.toList = fl.pg b nx := by injection hpe with hpe; rw [← hpe]
          have hE2 := HE.out.1
          have hfin : rpl fl.P (pgsF fl b) [] 1 = (V, nx, pe.data.toList.any (fun x => x != 255)) := by
            rw [hE2, hpel]
            by_cases hz : zeros (fl.pg b nx) = 0
            · rw [rpl_stop (by rw [hpgd]; exact fun h => h.2 hz)]
              have : (fl.pg b nx).any (fun x => x != 255) = false := by
                rw [List.any_eq_false]; intro x hx; simp [(zeros_one _).1 hz x hx]
              rw [this]
            · obtain ⟨f', rfl⟩ : ∃ f', f = f' + 1 := ⟨f - 1, by omega⟩
              rw [rpl_none (by rw [pgsF_len, hpgd]; exact ⟨hlt, hz⟩) hdec]
              have : (fl.pg b nx).any (fun x => x != 255) = true := by
                rw [List.any_eq_true]
                refine Classical.byContradiction fun hn => hz ((zeros_one _).2 fun x hx => ?_)
                refine Classical.byContradiction fun hx2 => hn ⟨x, hx, by simpa using hx2⟩
              rw [this]
          have HFIN := Lib.hid hfin
          obtain ⟨N, hN⟩ : ∃ N, pe.size = N := ⟨_, rfl⟩
          have hN64 : N = 64 := by rw [← hN, bsz, hpel, hp64]
          have HN := Lib.hid hN
          have d0 : w6.drew.cell? ⟨S, 0, none⟩ = some (fptr X) := HR5.out.c0
          have d2 : w6.drew.cell? ⟨S, 2, none⟩ = some (.int .i64 b) := HR5.out.c2
          have d4 : w6.drew.cell? ⟨S, 4, none⟩ = some (.int .i64 nx) := HR5.out.c4
          have d5 : w6.drew.cell? ⟨X, 3, none⟩ = some (.slice (some ⟨y.pb, 0, none⟩) fl.B y.pc) := HW5.out.c3
          have d6 : w6.drew.cell? ⟨y.pb, b, none⟩ = some (.slice (some ⟨y.g b, 0, none⟩) fl.P (y.cp b)) := HW5.out.cs HB.out
          have d7 : w6.drew.cell? ⟨y.g b, nx, none⟩ = some (.string pe) := by rw [← hpe]; exact HW5.out.cg HB.out hlt
          have hbI : (b : Int) < (fl.B : Int) := by have := HB.out; omega
          have hpc := HW5.out.pc
          have hcp := HW5.out.cp b HB.out
          have HR6 := Lib.hid (HR5.out.below ((Below.refl _ w6).drew))
          have HC6 : Hid (Ch (fun x => x = S) w w6.drew) := HC5.out.drew
          clear hpe hpel hE2 hfin hdec HRO HE HT5 hpgd hp64 HR5 HC5 HW5 hN
          go_wp2_with fail
          refine wp_region_pl (fun Y => Y = w6.drew) ((0, 0) :: (1, 0) :: (2, 0) :: (3, 0) :: (4, 0) :: (5, 0) :: (6, 0) :: (7, 0) :: (8, 0) :: (9, 0) :: (10, 0) :: (11, 0) :: (12, 0) :: (13, 0) :: (14, 0) :: (15, 0) :: (16, 0) :: (17, 0) :: (18, 0) :: (19, 0) :: []) (by kernel_rfl) (by kernel_rfl) ?_
          iterate 20 (apply wpP_go; (focus rfl); (focus rfl); (focus exact rfl); (focus (rintro Z rfl; go_simp; exact rfl)); intro K hK; go_simp; refine hK _ ?_; clear hK K)
          refine wpP_done ?_
          clear d0 d2 d4 d5 d6 d7 hpc hcp
          generalize w6.drew = W6 at *
          go_wp2_with fail
          go_loopw [5] (fun z wr => ∃ i : Nat, i ≤ N ∧ z = .int .i64 (i : Int) ∧ Hid (RS wr D' S X ⟨V, b, g, nx, (pe.data.toList.take i).any (fun x => x != 255)⟩) ∧ Hid (Ch (fun x => x = S) w wr)) (fun z _ => N - (intOf z).toNat)
          case atStart => exact ⟨0, by omega, rfl, HR6, HC6⟩
          case round =>
            clear HR6 HC6
            obtain ⟨i, hi, rfl, HR, HC⟩ := hrel
            have hN := HN.out
            by_cases hli : i < N
            · have y0 : (i : Int) < N := by omega
              have hls : i < pe.size := by omega
              have hgi : pe.data.toList.getD i 0 = pe[i]'hls := by
                rw [List.getD_eq_getElem?_getD, List.getElem?_eq_getElem (by rw [Array.length_toList]; exact hls)]; rfl
              have hat := any_take (l := pe.data.toList) (i := i) (by rw [Array.length_toList]; exact hls)
              have k5 := HR.out.c5
              have f5 := HR.out.fr 5
              have hw5 := fun bb => HR.out.withClo bb
              have HW5 := Lib.hid hw5
              have hch := fun bb : Bool => HC.out.setCell (p := ⟨S, 5, none⟩) (fun _ => rfl) (.bool bb)
              have HCH : Hid (∀ bb : Bool, Ch (fun x => x = S) w (wr.setCell ⟨S, 5, none⟩ (.bool bb))) := hch
              rw [hgi] at hat
              have HAT := Lib.hid hat
              obtain ⟨cl, hcl⟩ : ∃ cl, (pe.data.toList.take i).any (fun x => x != 255) = cl := ⟨_, rfl⟩
              rw [hcl] at HAT
              have k5' : wr.cell? ⟨S, 5, none⟩ = some (.bool cl) := by rw [← hcl]; exact k5
              clear hat hgi hcl k5 hw5 hch hN
              cases cl
              · by_cases he : pe[i]'hls = 255
                · have h255 : ((pe[i]'hls).toNat : Int) = 255 := by rw [he]; rfl
                  have HN2 : Hid ((pe.data.toList.take (i + 1)).any (fun x => x != 255) = false) := by show _ = _; rw [HAT.out, he]; rfl
                  clear he
                  go_wp2_with fail
                  go_roundw
                  case rel => exact ⟨i + 1, by omega, by go_num, by (show RS _ _ _ _ _; rw [HN2.out]; exact HW5.out false), HCH.out false⟩
                  case measure => simp [intOf]; omega
                · have hb5 : (((pe[i]'hls).toNat : Int) == 255) = false := by
                    rw [beq_eq_false_iff_ne]
                    intro h9
                    apply he
                    apply UInt8.toNat_inj.1
                    have : ((255 : UInt8).toNat : Int) = 255 := rfl
                    omega
                  have hbne : (((pe[i]'hls).toNat : Int) != 255) = true := by rw [bne, hb5]; rfl
                  have HN2 : Hid ((pe.data.toList.take (i + 1)).any (fun x => x != 255) = true) := by show _ = _; rw [HAT.out]; simpa using he
                  clear he
                  go_wp2_with fail
                  go_roundw
                  case rel => exact ⟨i + 1, by omega, by go_num, by (show RS _ _ _ _ _; rw [HN2.out]; exact HW5.out true), HCH.out true⟩
                  case measure => simp [intOf]; omega
              · have HN2 : Hid ((pe.data.toList.take (i + 1)).any (fun x => x != 255) = true) := by show _ = _; rw [HAT.out]; rfl
                go_wp2_with fail
                go_roundw
                case rel => exact ⟨i + 1, by omega, by go_num, by (show RS _ _ _ _ _; rw [HN2.out]; exact HW5.out true), HCH.out true⟩
                case measure => simp [intOf]; omega
            · have y0 : ¬ (i : Int) < N := by omega
              have y1 : ¬ (i : Int) < (pe.size : Int) := by omega
              have hti : pe.data.toList.take i = pe.data.toList := List.take_of_length_le (by rw [Array.length_toList]; show pe.size ≤ i; omega)
              have HR7 := HR
              rw [hti] at HR7
              clear hti hN
              go_wp2_with fail
              (try simp only [Exit.inBlock, Exit.then])
              refine bodyPost_ret (results_none rfl _ _ _) rfl ?_
              rw [HFIN.out]
              exact ⟨rfl, ⟨D', HD'.out, HR7.out⟩, HC.out⟩
        · obtain ⟨hokb, q0, q1, q2, q3⟩ := HRO.out.1 _ _ _ _ hdec
          subst hokb
          injection q0 with _ q0
          injection q3 with _ q3
          have q1' : n0.data.toList = n := by injection q1 with q1; rw [q1]
          have q2' : v0.data.toList = v := by injection q2 with q2; rw [q2]
          subst q0 q3
          obtain ⟨hol, hcp, hc1, hc2⟩ := dec_some H64.out hdec
          rw [List.length_drop, pgsF_len] at hc2
          have hk := okLens_k hol
          have hnv := okLens_le hol
          have hz : zeros ((pgsF fl b).getD nx []) ≠ 0 := fun hz => by
            have hff : ((pgsF fl b).drop nx).getD 0 [] = (pgsF fl b).getD nx [] := by simp [List.getD_eq_getElem?_getD]
            have := dec_ff (ps := (pgsF fl b).drop nx) (by
              rw [hff, hpgd, List.getD_eq_getElem?_getD, List.getElem?_eq_getElem (by omega)]
              exact (zeros_one _).1 (by rw [← hpgd]; exact hz) _ (List.getElem_mem _))
            rw [this] at hdec; cases hdec
          obtain ⟨f', rfl⟩ : ∃ f', f = f' + 1 := ⟨f - 1, by omega⟩
          have hE2 := HE.out.1
          rw [rpl_some (by rw [pgsF_len]; exact ⟨hlt, hz⟩) hdec] at hE2
          have hVl := HE.out.2
          have HAS := Lib.hid (appV_srt HR5.out.srt k n v)
          have HAV := Lib.hid (appV_hv HR5.out.hv (k := k) hnv.1 hnv.2)
          have hnl : n.length ≤ 24 ∧ v.length ≤ 128 := hnv
          have HEE : Hid (rpl fl.P (pgsF fl b) [] 1 = rpl f' (pgsF fl b) (appV V k n v) (nx + c)) := hE2
          clear hE2 HE hz hdec HRO hcp hol hpgd hp64 q1 q2 hnv H64
          subst q1' q2'
          rcases hk with rfl | rfl | rfl
          · have HR6 := Lib.hid (HR5.out.below ((Below.refl _ w6).drew))
            have HC6 : Hid (Ch (fun x => x = S) w w6.drew) := HC5.out.drew
            have HT6 : Hid (Row w6.drew T 109 4 (fun j => if j = 0 then .int .u8 1 else if j = 1 then .string n0 else if j = 2 then .string v0 else .int .i64 c)) := HT5.out.drew
            clear HR5 HC5 HT5 HW5
            obtain ⟨a, cv, p1, hvs⟩ := HR6.out.c1
            have HVS := Lib.hid hvs
            obtain ⟨L, hL⟩ : ∃ L, V.length = L := ⟨_, rfl⟩
            have HLL := Lib.hid hL
            have S6 : Hid (w6.drew.cell? ⟨S, 1, none⟩ = some (.slice a L cv) ∧ w6.drew.cell? ⟨T, 1, none⟩ = some (.string n0) ∧ w6.drew.cell? ⟨T, 2, none⟩ = some (.string v0)) := ⟨by rw [← hL]; exact p1, HT6.out.cell (i := 1) (by omega), HT6.out.cell (i := 2) (by omega)⟩
            have hL1 : L ≤ 1000 := by omega
            have t0 : w6.cell? ⟨T, 0, none⟩ = some (.int .u8 1) := HT6.out.cell (i := 0) (by omega)
            have HWT := Lib.hid (rwith_any HVS.out HLL.out (by omega) HR6.out.srt n0 v0)
            clear hvs p1 hL
            generalize hw6 : w6.drew = W6 at *
            go_wp2_with fail
            refine wp_region_pt (fun Y => Y.cell? ⟨S, 1, none⟩ = some (.slice a L cv) ∧ Y.cell? ⟨T, 1, none⟩ = some (.string n0) ∧ Y.cell? ⟨T, 2, none⟩ = some (.string v0)) ((0, 0) :: (1, 0) :: (2, 0) :: (3, 0) :: (4, 0) :: (5, 0) :: (6, 0) :: (7, 0) :: (8, 0) :: (9, 1) :: (10, 0) :: (11, 0) :: (12, 2) :: []) (by kernel_rfl) (by kernel_rfl) ?_
            rw [hw6]
            clear hw6
            iterate 9 (apply wpP_go; (focus rfl); (focus rfl); (focus exact S6.out); (focus (rintro Z ⟨s0, s1, s2⟩; go_simp; exact rfl)); intro K hK; go_simp; refine hK _ ?_; clear hK K)
            apply wpP_one
            focus rfl
            intro K hK
            go_simp
            refine HWT.out.mono ?_
            rintro e V3 ⟨v2, rfl, hov⟩
            obtain ⟨a2, c2, rfl, hv2, hg2⟩ := hov.form
            have hlt2 := hov.lt
            have b3 := hov.bel
            have S8 : Hid (V3.cell? ⟨S, 1, none⟩ = some (.slice a L cv) ∧ V3.cell? ⟨T, 1, none⟩ = some (.string n0) ∧ V3.cell? ⟨T, 2, none⟩ = some (.string v0)) := ⟨cell_later b3 S6.out.1, cell_later b3 S6.out.2.1, cell_later b3 S6.out.2.2⟩
            refine hK _ _ S8.out ?_
            have HRA := Lib.hid (HR6.out.below b3)
            have HTA : Hid (Row V3 T 109 4 (fun j => if j = 0 then .int .u8 1 else if j = 1 then .string n0 else if j = 2 then .string v0 else .int .i64 c)) := HT6.out.ch (Ch.of_below b3 (fun _ => False)) id
            have HCA : Hid (Ch (fun x => x = S) w V3) := HC6.out.trans (Ch.of_below b3 _)
            have hszz := HC6.out.size
            have hV8 : (setV V n0.data.toList v0.data.toList).length ≤ nx + 1 := by have := setV_len V n0.data.toList v0.data.toList; omega
            have hS6 : S < W6.heap.size := HR6.out.fin S HR6.out.dS
            have HRB : Hid (RS (V3.setCell ⟨S, 1, none⟩ (.slice a2 (setV V n0.data.toList v0.data.toList).length c2)) (fun k => D' k ∨ a2 = some ⟨k, 0, none⟩) S X ⟨(setV V n0.data.toList v0.data.toList), b, g, nx, false⟩) := HRA.out.withV hv2 (fun k e => ⟨fun e2 => by have := hg2 k e; omega, hlt2 k e⟩) (by have := HAS.out; simpa [appV] using this) (by have := HAV.out; simpa [appV] using this) hV8
            have HDB : Hid (∀ i, (D' i ∨ a2 = some ⟨i, 0, none⟩) → DS i ∨ w.heap.size ≤ i) := fun i hi => hi.elim (HD'.out i) (fun e => .inr (Nat.le_trans hszz (hg2 i e)))
            have hTS' : T ≠ S := hTS
            have HTB : Hid (Row (V3.setCell ⟨S, 1, none⟩ (.slice a2 (setV V n0.data.toList v0.data.toList).length c2)) T 109 4 (fun j => if j = 0 then .int .u8 1 else if j = 1 then .string n0 else if j = 2 then .string v0 else .int .i64 c)) := HTA.out.far (p := ⟨S, 1, none⟩) hTS' _
            have HCB : Hid (Ch (fun x => x = S) w (V3.setCell ⟨S, 1, none⟩ (.slice a2 (setV V n0.data.toList v0.data.toList).length c2))) := HCA.out.setCell (p := ⟨S, 1, none⟩) (fun _ => rfl) _
            have p8 := S8.out.1
            have f8 := HRA.out.fr 1
            have HAE : Hid (appV V 1 n0.data.toList v0.data.toList = (setV V n0.data.toList v0.data.toList)) := rfl
            rw [HAE.out] at HEE
            clear hK K hov hv2 hg2 hlt2 b3 S6 HWT HVS HR6 HC6 HT6 HRA HTA HCA hV8 hszz hS6
            obtain ⟨L2, hL2⟩ : ∃ L2, (setV V n0.data.toList v0.data.toList).length = L2 := ⟨_, rfl⟩
            rw [hL2] at HRB HTB HCB ⊢
            iterate 2 (apply wpP_go; (focus rfl); (focus rfl); (focus exact S8.out); (focus (rintro Z ⟨s0, s1, s2⟩; go_simp; exact rfl)); intro K hK; go_simp; refine hK _ ?_; clear hK K)
            clear S8
            apply wpP_two
            focus rfl
            intro K hK
            go_simp
            refine hK _ _ ?_
            clear hK K p8 f8
            refine wpP_done ?_
            generalize V3.setCell ⟨S, 1, none⟩ (.slice a2 L2 c2) = W8 at *
            have HL2 := Lib.hid hL2
            clear hL2

            have S7 : Hid (W8.drew.cell? ⟨S, 4, none⟩ = some (.int .i64 nx) ∧ W8.drew.cell? ⟨T, 3, none⟩ = some (.int .i64 c)) := ⟨HRB.out.c4, HTB.out.cell (i := 3) (by omega)⟩
            have S7' := S7.out
            have HR7 := Lib.hid (HRB.out.below ((Below.refl _ W8).drew))
            have HC7 : Hid (Ch (fun x => x = S) w W8.drew) := HCB.out.drew
            have hnw : IntKind.i64.wrap ((nx : Int) + (c : Int)) = (nx : Int) + (c : Int) := IntWalk.i64_in _ ⟨by omega, by omega⟩
            have m4 := HR7.out.c4
            have mf := HR7.out.fr 4
            clear HRB HCB HTB
            go_wp2_with fail
            refine wp_region_pt (fun Y => Y = W8.drew) ((0, 0) :: (1, 0) :: (2, 0) :: (3, 0) :: (4, 0) :: (5, 0) :: (6, 0) :: (7, 0) :: (8, 0) :: (9, 0) :: (10, 2) :: []) (by kernel_rfl) (by kernel_rfl) ?_
            obtain ⟨t0, t1⟩ := S7'
            iterate 10 (apply wpP_go; (focus rfl); (focus rfl); (focus exact rfl); (focus (rintro Z rfl; go_simp; exact rfl)); intro K hK; go_simp; refine hK _ ?_; clear hK K)
            apply wpP_two
            focus rfl
            intro K hK
            go_simp
            refine hK _ _ ?_
            clear hK K t0 t1
            refine wpP_done ?_
            have hV9 : (setV V n0.data.toList v0.data.toList).length ≤ nx + 1 := by have := hVl; have := setV_len V n0.data.toList v0.data.toList; omega
            have HR8 : Hid (RS (W8.drew.setCell ⟨S, 4, none⟩ (.int .i64 ((nx + c : Nat) : Int))) (fun k => D' k ∨ a2 = some ⟨k, 0, none⟩) S X ⟨(setV V n0.data.toList v0.data.toList), b, g, nx + c, false⟩) := HR7.out.withNxt (nx := nx + c) (by omega) (by show (setV V n0.data.toList v0.data.toList).length ≤ nx + c + 1; omega)
            have HC8 : Hid (Ch (fun x => x = S) w (W8.drew.setCell ⟨S, 4, none⟩ (.int .i64 ((nx + c : Nat) : Int)))) := HC7.out.setCell (p := ⟨S, 4, none⟩) (fun _ => rfl) _
            clear m4 mf S7 HR7 HC7
            go_wp2_with fail
            have hpp : (nx : Int) + (c : Int) = ((nx + c : Nat) : Int) := by omega
            rw [hpp]
            go_roundw
            case rel => exact ⟨f', nx + c, (setV V n0.data.toList v0.data.toList), by omega, by omega, by omega, HR8.out.c4, ⟨HEE.out, by show (setV V n0.data.toList v0.data.toList).length ≤ nx + c; omega⟩, ⟨(fun k => D' k ∨ a2 = some ⟨k, 0, none⟩), HDB.out, HR8.out⟩, HC8⟩
            case measure =>
              change fl.P - (intOf (((W8.drew.setCell ⟨S, 4, none⟩ (.int .i64 ((nx + c : Nat) : Int))).cell? ⟨S, 4, none⟩).getD undef)).toNat < _
              rw [HR8.out.c4, HM4.out]
              simp [intOf]
              omega
          · have HR6 := Lib.hid (HR5.out.below ((Below.refl _ w6).drew))
            have HC6 : Hid (Ch (fun x => x = S) w w6.drew) := HC5.out.drew
            have HT6 : Hid (Row w6.drew T 109 4 (fun j => if j = 0 then .int .u8 2 else if j = 1 then .string n0 else if j = 2 then .string v0 else .int .i64 c)) := HT5.out.drew
            clear HR5 HC5 HT5 HW5
            obtain ⟨a, cv, p1, hvs⟩ := HR6.out.c1
            have HVS := Lib.hid hvs
            obtain ⟨L, hL⟩ : ∃ L, V.length = L := ⟨_, rfl⟩
            have HLL := Lib.hid hL
            have S6 : Hid (w6.drew.cell? ⟨S, 1, none⟩ = some (.slice a L cv) ∧ w6.drew.cell? ⟨T, 1, none⟩ = some (.string n0) ∧ w6.drew.cell? ⟨T, 2, none⟩ = some (.string v0)) := ⟨by rw [← hL]; exact p1, HT6.out.cell (i := 1) (by omega), HT6.out.cell (i := 2) (by omega)⟩
            have hL1 : L ≤ 1000 := by omega
            have t0 : w6.cell? ⟨T, 0, none⟩ = some (.int .u8 2) := HT6.out.cell (i := 0) (by omega)
            have HWT := Lib.hid (rwithout_any HVS.out HLL.out (by omega) n0)
            clear hvs p1 hL
            generalize hw6 : w6.drew = W6 at *
            go_wp2_with fail
            refine wp_region_pt (fun Y => Y.cell? ⟨S, 1, none⟩ = some (.slice a L cv) ∧ Y.cell? ⟨T, 1, none⟩ = some (.string n0) ∧ Y.cell? ⟨T, 2, none⟩ = some (.string v0)) ((0, 0) :: (1, 0) :: (2, 0) :: (3, 0) :: (4, 0) :: (5, 0) :: (6, 0) :: (7, 1) :: (8, 0) :: (9, 0) :: (10, 2) :: []) (by kernel_rfl) (by kernel_rfl) ?_
            rw [hw6]
            clear hw6
            iterate 7 (apply wpP_go; (focus rfl); (focus rfl); (focus exact S6.out); (focus (rintro Z ⟨s0, s1, s2⟩; go_simp; exact rfl)); intro K hK; go_simp; refine hK _ ?_; clear hK K)
            apply wpP_one
            focus rfl
            intro K hK
            go_simp
            refine HWT.out.mono ?_
            rintro e V3 ⟨v2, rfl, hov⟩
            obtain ⟨a2, c2, rfl, hv2, hg2⟩ := hov.form
            have hlt2 := hov.lt
            have b3 := hov.bel
            have S8 : Hid (V3.cell? ⟨S, 1, none⟩ = some (.slice a L cv) ∧ V3.cell? ⟨T, 1, none⟩ = some (.string n0) ∧ V3.cell? ⟨T, 2, none⟩ = some (.string v0)) := ⟨cell_later b3 S6.out.1, cell_later b3 S6.out.2.1, cell_later b3 S6.out.2.2⟩
            refine hK _ _ S8.out ?_
            have HRA := Lib.hid (HR6.out.below b3)
            have HTA : Hid (Row V3 T 109 4 (fun j => if j = 0 then .int .u8 2 else if j = 1 then .string n0 else if j = 2 then .string v0 else .int .i64 c)) := HT6.out.ch (Ch.of_below b3 (fun _ => False)) id
            have HCA : Hid (Ch (fun x => x = S) w V3) := HC6.out.trans (Ch.of_below b3 _)
            have hszz := HC6.out.size
            have hV8 : (delV V n0.data.toList).length ≤ nx + 1 := by have := delV_len V n0.data.toList; omega
            have hS6 : S < W6.heap.size := HR6.out.fin S HR6.out.dS
            have HRB : Hid (RS (V3.setCell ⟨S, 1, none⟩ (.slice a2 (delV V n0.data.toList).length c2)) (fun k => D' k ∨ a2 = some ⟨k, 0, none⟩) S X ⟨(delV V n0.data.toList), b, g, nx, false⟩) := HRA.out.withV hv2 (fun k e => ⟨fun e2 => by have := hg2 k e; omega, hlt2 k e⟩) (by have := HAS.out; simpa [appV] using this) (by have := HAV.out; simpa [appV] using this) hV8
            have HDB : Hid (∀ i, (D' i ∨ a2 = some ⟨i, 0, none⟩) → DS i ∨ w.heap.size ≤ i) := fun i hi => hi.elim (HD'.out i) (fun e => .inr (Nat.le_trans hszz (hg2 i e)))
            have hTS' : T ≠ S := hTS
            have HTB : Hid (Row (V3.setCell ⟨S, 1, none⟩ (.slice a2 (delV V n0.data.toList).length c2)) T 109 4 (fun j => if j = 0 then .int .u8 2 else if j = 1 then .string n0 else if j = 2 then .string v0 else .int .i64 c)) := HTA.out.far (p := ⟨S, 1, none⟩) hTS' _
            have HCB : Hid (Ch (fun x => x = S) w (V3.setCell ⟨S, 1, none⟩ (.slice a2 (delV V n0.data.toList).length c2))) := HCA.out.setCell (p := ⟨S, 1, none⟩) (fun _ => rfl) _
            have p8 := S8.out.1
            have f8 := HRA.out.fr 1
            have HAE : Hid (appV V 2 n0.data.toList v0.data.toList = (delV V n0.data.toList)) := rfl
            rw [HAE.out] at HEE
            clear hK K hov hv2 hg2 hlt2 b3 S6 HWT HVS HR6 HC6 HT6 HRA HTA HCA hV8 hszz hS6
            obtain ⟨L2, hL2⟩ : ∃ L2, (delV V n0.data.toList).length = L2 := ⟨_, rfl⟩
            rw [hL2] at HRB HTB HCB ⊢
            iterate 2 (apply wpP_go; (focus rfl); (focus rfl); (focus exact S8.out); (focus (rintro Z ⟨s0, s1, s2⟩; go_simp; exact rfl)); intro K hK; go_simp; refine hK _ ?_; clear hK K)
            clear S8
            apply wpP_two
            focus rfl
            intro K hK
            go_simp
            refine hK _ _ ?_
            clear hK K p8 f8
            refine wpP_done ?_
            generalize V3.setCell ⟨S, 1, none⟩ (.slice a2 L2 c2) = W8 at *
            have HL2 := Lib.hid hL2
            clear hL2

            have S7 : Hid (W8.drew.cell? ⟨S, 4, none⟩ = some (.int .i64 nx) ∧ W8.drew.cell? ⟨T, 3, none⟩ = some (.int .i64 c)) := ⟨HRB.out.c4, HTB.out.cell (i := 3) (by omega)⟩
            have S7' := S7.out
            have HR7 := Lib.hid (HRB.out.below ((Below.refl _ W8).drew))
            have HC7 : Hid (Ch (fun x => x = S) w W8.drew) := HCB.out.drew
            have hnw : IntKind.i64.wrap ((nx : Int) + (c : Int)) = (nx : Int) + (c : Int) := IntWalk.i64_in _ ⟨by omega, by omega⟩
            have m4 := HR7.out.c4
            have mf := HR7.out.fr 4
            clear HRB HCB HTB
            go_wp2_with fail
            refine wp_region_pt (fun Y => Y = W8.drew) ((0, 0) :: (1, 0) :: (2, 0) :: (3, 0) :: (4, 0) :: (5, 0) :: (6, 0) :: (7, 0) :: (8, 0) :: (9, 0) :: (10, 2) :: []) (by kernel_rfl) (by kernel_rfl) ?_
            obtain ⟨t0, t1⟩ := S7'
            iterate 10 (apply wpP_go; (focus rfl); (focus rfl); (focus exact rfl); (focus (rintro Z rfl; go_simp; exact rfl)); intro K hK; go_simp; refine hK _ ?_; clear hK K)
            apply wpP_two
            focus rfl
            intro K hK
            go_simp
            refine hK _ _ ?_
            clear hK K t0 t1
            refine wpP_done ?_
            have hV9 : (delV V n0.data.toList).length ≤ nx + 1 := by have := hVl; have := delV_len V n0.data.toList; omega
            have HR8 : Hid (RS (W8.drew.setCell ⟨S, 4, none⟩ (.int .i64 ((nx + c : Nat) : Int))) (fun k => D' k ∨ a2 = some ⟨k, 0, none⟩) S X ⟨(delV V n0.data.toList), b, g, nx + c, false⟩) := HR7.out.withNxt (nx := nx + c) (by omega) (by show (delV V n0.data.toList).length ≤ nx + c + 1; omega)
            have HC8 : Hid (Ch (fun x => x = S) w (W8.drew.setCell ⟨S, 4, none⟩ (.int .i64 ((nx + c : Nat) : Int)))) := HC7.out.setCell (p := ⟨S, 4, none⟩) (fun _ => rfl) _
            clear m4 mf S7 HR7 HC7
            go_wp2_with fail
            have hpp : (nx : Int) + (c : Int) = ((nx + c : Nat) : Int) := by omega
            rw [hpp]
            go_roundw
            case rel => exact ⟨f', nx + c, (delV V n0.data.toList), by omega, by omega, by omega, HR8.out.c4, ⟨HEE.out, by show (delV V n0.data.toList).length ≤ nx + c; omega⟩, ⟨(fun k => D' k ∨ a2 = some ⟨k, 0, none⟩), HDB.out, HR8.out⟩, HC8⟩
            case measure =>
              change fl.P - (intOf (((W8.drew.setCell ⟨S, 4, none⟩ (.int .i64 ((nx + c : Nat) : Int))).cell? ⟨S, 4, none⟩).getD undef)).toNat < _
              rw [HR8.out.c4, HM4.out]
              simp [intOf]
              omega
          · have HAE : Hid (appV V 3 n0.data.toList v0.data.toList = V) := rfl
            rw [HAE.out] at HEE
            have HT6 : Hid (Row w6 T 109 4 (fun j => if j = 0 then .int .u8 3 else if j = 1 then .string n0 else if j = 2 then .string v0 else .int .i64 c)) := HT5.out
            have t0 : w6.cell? ⟨T, 0, none⟩ = some (.int .u8 3) := HT5.out.cell (i := 0) (by omega)
            clear HT5 HW5

            have S7 : Hid (w6.drew.cell? ⟨S, 4, none⟩ = some (.int .i64 nx) ∧ w6.drew.cell? ⟨T, 3, none⟩ = some (.int .i64 c)) := ⟨HR5.out.c4, HT6.out.cell (i := 3) (by omega)⟩
            have S7' := S7.out
            have HR7 := Lib.hid (HR5.out.below ((Below.refl _ w6).drew))
            have HC7 : Hid (Ch (fun x => x = S) w w6.drew) := HC5.out.drew
            have hnw : IntKind.i64.wrap ((nx : Int) + (c : Int)) = (nx : Int) + (c : Int) := IntWalk.i64_in _ ⟨by omega, by omega⟩
            have m4 := HR7.out.c4
            have mf := HR7.out.fr 4
            clear HR5 HC5 HT6
            go_wp2_with fail
            refine wp_region_pt (fun Y => Y = w6.drew) ((0, 0) :: (1, 0) :: (2, 0) :: (3, 0) :: (4, 0) :: (5, 0) :: (6, 0) :: (7, 0) :: (8, 0) :: (9, 0) :: (10, 2) :: []) (by kernel_rfl) (by kernel_rfl) ?_
            obtain ⟨t0, t1⟩ := S7'
            iterate 10 (apply wpP_go; (focus rfl); (focus rfl); (focus exact rfl); (focus (rintro Z rfl; go_simp; exact rfl)); intro K hK; go_simp; refine hK _ ?_; clear hK K)
            apply wpP_two
            focus rfl
            intro K hK
            go_simp
            refine hK _ _ ?_
            clear hK K t0 t1
            refine wpP_done ?_
            have hV9 : V.length ≤ nx + 1 := by have := hVl; have := hVl; omega
            have HR8 : Hid (RS (w6.drew.setCell ⟨S, 4, none⟩ (.int .i64 ((nx + c : Nat) : Int))) D' S X ⟨V, b, g, nx + c, false⟩) := HR7.out.withNxt (nx := nx + c) (by omega) (by show V.length ≤ nx + c + 1; omega)
            have HC8 : Hid (Ch (fun x => x = S) w (w6.drew.setCell ⟨S, 4, none⟩ (.int .i64 ((nx + c : Nat) : Int)))) := HC7.out.setCell (p := ⟨S, 4, none⟩) (fun _ => rfl) _
            clear m4 mf S7 HR7 HC7
            go_wp2_with fail
            have hpp : (nx : Int) + (c : Int) = ((nx + c : Nat) : Int) := by omega
            rw [hpp]
            go_roundw
            case rel => exact ⟨f', nx + c, V, by omega, by omega, by omega, HR8.out.c4, ⟨HEE.out, by show V.length ≤ nx + c; omega⟩, ⟨D', HD'.out, HR8.out⟩, HC8⟩
            case measure =>
              change fl.P - (intOf (((w6.drew.setCell ⟨S, 4, none⟩ (.int .i64 ((nx + c : Nat) : Int))).cell? ⟨S, 4, none⟩).getD undef)).toNat < _
              rw [HR8.out.c4, HM4.out]
              simp [intOf]
              omega
    · have hltI : ¬ (nx : Int) < (fl.P : Int) := by omega
      have hE2 : rpl fl.P (pgsF fl b) [] 1 = (V, nx, false) := HE.out.1.trans (rpl_stop (by rw [pgsF_len]; exact fun h => absurd h.1 hlt))
      have HE2 := Lib.hid hE2
      have S1 : Hid (wr.drew.cell? ⟨S, 0, none⟩ = some (fptr X) ∧ wr.drew.cell? ⟨S, 4, none⟩ = some (.int .i64 nx) ∧ wr.drew.cell? ⟨X, 1, none⟩ = some (.int .i64 fl.P)) := ⟨hrs.c0, hrs.c4, hrw.c1⟩
      have HR2 := Lib.hid (hrs.below ((Below.refl _ wr).drew))
      have HC2 : Hid (Ch (fun x => x = S) w wr.drew) := HC.out.drew
      clear hE2 hrs hrw HC HE
      go_wp2_with fail
      refine wp_region_pl (fun Y => Y.cell? ⟨S, 0, none⟩ = some (fptr X) ∧ Y.cell? ⟨S, 4, none⟩ = some (.int .i64 nx) ∧ Y.cell? ⟨X, 1, none⟩ = some (.int .i64 fl.P)) ((0, 0) :: (1, 0) :: (2, 0) :: (3, 0) :: (4, 0) :: (5, 0) :: (6, 0) :: (7, 0) :: (8, 0) :: (9, 0) :: (10, 0) :: (11, 0) :: (12, 0) :: []) (by kernel_rfl) (by kernel_rfl) ?_
      iterate 13 (apply wpP_go; (focus rfl); (focus rfl); (focus exact S1.out); (focus (rintro Z ⟨s0, s1, s2⟩; go_simp; exact rfl)); intro K hK; go_simp; refine hK _ ?_; clear hK K)
      refine wpP_done ?_
      clear S1
      go_wp2_with fail
      go_end0
      rw [HE2.out]
      exact ⟨rfl, ⟨D', HD'.out, HR2.out⟩, HC2.out⟩
end
end Go.Proofs.YtfglopkglnpokaaGreat
