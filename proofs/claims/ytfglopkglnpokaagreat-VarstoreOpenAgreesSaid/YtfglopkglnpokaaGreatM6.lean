/- change, Set, Delete, Format, a call of the law. Conditions: those that each theorem names. -/
import Derived.Test.YtfglopkglnpokaaGreatM5
namespace Go.Proofs.YtfglopkglnpokaaGreat
open Go.RowKit
def chgV (V : Vars) (k : Nat) (n v : Str) : Vars := if k = 1 then setV V n v else delV V n
def chgF (fl : FL) (st : ST) (k : Nat) (n v : Str) : Int × FL × ST :=
  if fl.off = true then (16, fl, st) else
  if st.clo = true ∨ fl.P < st.nxt + pgs (recd k n v).length then cmpF fl st (chgV st.V k n v) else
  if (wrL fl st.blk st.nxt (pagesR (recd k n v))).1 ≠ 0 then ((wrL fl st.blk st.nxt (pagesR (recd k n v))).1, (wrL fl st.blk st.nxt (pagesR (recd k n v))).2, st)
  else (0, (wrL fl st.blk st.nxt (pagesR (recd k n v))).2, ⟨chgV st.V k n v, st.blk, st.gen, st.nxt + pgs (recd k n v).length, st.clo⟩)
/-- What a call of the store leaves. -/
def Left (w w' : World) (D DS : Nat → Prop) (S X n : Nat) (y : FLay) (r : Int × FL × ST) : Prop :=
  FW w' D X y r.2.1 ∧ Ch (fun k => D k ∨ DS k) w w' ∧ ∃ D' m', (∀ i, D' i → DS i ∨ w.heap.size ≤ i) ∧ SW w' D' S X m' (n + 1) r.2.2
section
variable {w w' : World} {D DS : Nat → Prop} {S X m n : Nat} {st : ST} {y : FLay} {fl f : FL} {k : Nat} {nm v : Str} {e : Int} {np : Nat}
theorem chg1 (ho : fl.off = true) : chgF fl st k nm v = (16, fl, st) := by unfold chgF; rw [if_pos ho]
theorem chg2 (ho : fl.off = false) (h : st.clo = true ∨ fl.P < st.nxt + pgs (recd k nm v).length) : chgF fl st k nm v = cmpF fl st (chgV st.V k nm v) := by
  unfold chgF; rw [if_neg (by simp [ho]), if_pos h]
theorem chg3 (ho : fl.off = false) (h : ¬ (st.clo = true ∨ fl.P < st.nxt + pgs (recd k nm v).length)) (hw : wrL fl st.blk st.nxt (pagesR (recd k nm v)) = (e, f)) (he : e ≠ 0) : chgF fl st k nm v = (e, f, st) := by
  unfold chgF; rw [if_neg (by simp [ho]), if_neg h, hw, if_pos he]
theorem chg4 (ho : fl.off = false) (h : ¬ (st.clo = true ∨ fl.P < st.nxt + pgs (recd k nm v).length)) (hw : wrL fl st.blk st.nxt (pagesR (recd k nm v)) = (0, f)) : chgF fl st k nm v = (0, f, ⟨chgV st.V k nm v, st.blk, st.gen, st.nxt + pgs (recd k nm v).length, st.clo⟩) := by
  unfold chgF; rw [if_neg (by simp [ho]), if_neg h, hw, if_neg (by simp)]
theorem Left.same {r : Int × FL × ST} (hc : r = (e, f, st)) (hf : FW w' D X y f) (c : Ch D w w') (hs : SW w DS S X m n st) (hdis : ∀ k, D k → ¬ DS k) : Left w w' D DS S X n y r := by
  subst hc
  exact ⟨hf, c.mono fun i h _ => .inl h, DS, m, fun i h => .inl h, (hs.ch c fun k h1 h2 => hdis k h2 h1).mono (Nat.le_succ _)⟩
theorem chgV_srt {V : Vars} (h : Srt V) (k : Nat) (n v : Str) : Srt (chgV V k n v) := by
  unfold chgV; split
  · exact h.set _ _
  · exact h.del _
theorem chgV_hv {V : Vars} {k : Nat} {n v : Str} (h : ∀ p ∈ V, p.1.length ≤ 24 ∧ p.2.length ≤ 128) (hn : n.length ≤ 24) (hv : v.length ≤ 128) : ∀ p ∈ chgV V k n v, p.1.length ≤ 24 ∧ p.2.length ≤ 128 := by
  unfold chgV; split
  · intro p hp
    rcases mem_setV hp with e | e
    · rw [e]; exact ⟨hn, hv⟩
    · exact h p e
  · intro p hp
    exact h p (List.mem_filter.1 hp).1
set_option maxRecDepth 100000 in
set_option maxHeartbeats 2000000 in
theorem change_any (hs : SW w DS S X m n st) (h : FW w D X y fl) (hdis : ∀ k, D k → ¬ DS k) (hb : st.blk < fl.B) (hn : n < 1000) (hk : k = 1 ∨ k = 2) {ke ve : ByteArray} (hke : ke.size ≤ 24) (hve : ve.size ≤ 128) :
    Calls Tryz.prog 70 #[fptr S, .int .i64 (k : Int), .string ke, .string ve] w fun e w' => e = .returned (.int .i64 (chgF fl st k ke.data.toList ve.data.toList).1) ∧ Left w w' D DS S X n y (chgF fl st k ke.data.toList ve.data.toList) := by
  have H := Lib.hid h
  have HS := Lib.hid hs
  have hP := h.hP
  have hB := h.hB
  have hnx := hs.hn
  have hg := hs.hg
  have HHV := Lib.hid (chgV_hv (k := k) (n := ke.data.toList) (v := ve.data.toList) hs.hv hke hve)
  have HSR := Lib.hid (chgV_srt hs.srt k ke.data.toList ve.data.toList)
  obtain ⟨blk, hblk⟩ : ∃ blk, st.blk = blk := ⟨_, rfl⟩
  obtain ⟨nxt, hnxt⟩ : ∃ nxt, st.nxt = nxt := ⟨_, rfl⟩
  obtain ⟨clo, hclo⟩ : ∃ clo, st.clo = clo := ⟨_, rfl⟩
  have hcc := hs.c2
  have S1 : Hid (w.drew.cell? ⟨S, 0, none⟩ = some (fptr X) ∧ w.drew.cell? ⟨S, 2, none⟩ = some (.int .i64 blk) ∧ FW w.drew D X y fl) := ⟨hs.c0, by rw [← hblk]; exact hs.c2, h.drew⟩
  rw [hblk] at hb
  rw [hnxt] at hnx
  have HBL := Lib.hid hblk
  have HNX := Lib.hid hnxt
  have HCL := Lib.hid hclo
  clear h hs hblk hnxt hclo hcc
  have HB1 : Hid (Ch D w w.drew) := (Ch.refl D w).drew
  cases ho : fl.off
  · have hrd : readF fl blk 0 = (fl.pg blk 0, 0) := by unfold readF; rw [ho]; rfl
    go_enter Tryz.func70, Tryz.ntmps70
    go_wp2_with fail
    refine wp_region_pl (fun Y => Y.cell? ⟨S, 0, none⟩ = some (fptr X) ∧ Y.cell? ⟨S, 2, none⟩ = some (.int .i64 blk) ∧ FW Y D X y fl) ((0, 0) :: (1, 0) :: (2, 0) :: (3, 0) :: (4, 0) :: (5, 0) :: (6, 0) :: (7, 0) :: (8, 0) :: (9, 0) :: (10, 0) :: (11, 0) :: (12, 0) :: (13, 0) :: []) (by kernel_rfl) (by kernel_rfl) ?_
    iterate 8 (apply wpP_go; (focus rfl); (focus rfl); (focus exact S1.out); (focus (rintro Z ⟨s0, s1, s2⟩; go_simp; exact rfl)); intro K hK; go_simp; refine hK _ ?_; clear hK K)
    apply wpP_call
    focus rfl
    focus rfl
    focus exact S1.out
    focus (rintro Z ⟨s0, s1, s2⟩; go_simp; exact ⟨rfl, rfl⟩)
    focus (rintro Z ⟨s0, s1, s2⟩; have := read_any (p := 0) s2 hb (by omega); rw [hrd] at this; exact this)
    intro K hK
    go_simp
    refine hK _ ?_
    clear hK K
    iterate 5 (apply wpP_go; (focus rfl); (focus rfl); (focus exact S1.out); (focus (rintro Z ⟨s0, s1, s2⟩; go_simp; exact rfl)); intro K hK; go_simp; refine hK _ ?_; clear hK K)
    refine wpP_done ?_
    have hsd := HS.out.ch HB1.out fun k h1 h2 => hdis k h2 h1
    have c1 := hsd.c1
    have HCLN := Lib.hid hsd.map.clone
    obtain ⟨g, hg'⟩ : ∃ g, w.drew.heap.size = g := ⟨_, rfl⟩
    have hgw : w.heap.size ≤ g := by rw [← hg']; exact HB1.out.size
    rw [hg'] at HCLN
    have HBD : Hid (Below w.heap.size w w.drew) := (Below.refl _ _).drew
    clear hsd S1 hg'
    go_wp2_with fail
    refine HCLN.out.mono ?_
    rintro e w1 ⟨rfl, hm1, b1⟩
    have HM1 := Lib.hid hm1
    have HB1' : Hid (Below w.heap.size w w1) := HBD.out.trans (b1.mono hgw)
    clear hm1 b1 HCLN HBD HB1 c1 hrd
    go_upto_if 35 with fail
    go_cut [11] (fun x11 wx => x11 = .map (some g) ∧ Hid (SM wx g (n + 1) (chgV st.V k ke.data.toList ve.data.toList)) ∧ Hid (Below w.heap.size w wx))
    case first =>
      rcases hk with rfl | rfl
      · obtain ⟨w2, hru, hm2, c2⟩ := HM1.out.store (by omega) (s := ke) (by unfold maxLen; omega) ve
        have HM2 := Lib.hid hm2
        have HC2 := Lib.hid c2
        clear hm2 c2
        go_wp2_with fail
        go_meet
        exact ⟨rfl, HM2.out, HB1'.out.trans (HC2.out.below HB1'.out.size (fun i e => by rw [e]; exact hgw))⟩
      · obtain ⟨w2, hru, hm2, c2⟩ := HM1.out.drop (s := ke) (by unfold maxLen; omega) 0
        have HM2 := Lib.hid hm2
        have HC2 := Lib.hid c2
        clear hm2 c2
        go_wp2_with fail
        go_meet
        exact ⟨rfl, HM2.out.mono (by omega), HB1'.out.trans (HC2.out.below HB1'.out.size (fun i e => by rw [e]; exact hgw))⟩
    case rest =>
      obtain ⟨rfl, HM2, HB2⟩ := hcut
      clear HM1 HB1'
      have HEN := Lib.hid (encode_any k ke ve wc (by omega) (by omega) (by omega))
      obtain ⟨re, hre⟩ : ∃ s : ByteArray, s = ⟨(recd k ke.data.toList ve.data.toList).toArray⟩ := ⟨_, rfl⟩
      rw [← hre] at HEN
      have hrl : re.data.toList = recd k ke.data.toList ve.data.toList := by rw [hre]
      have hrs : re.size = (recd k ke.data.toList ve.data.toList).length := by rw [← hrl]; rfl
      have hrz : re.size ≤ 157 := by
        have h1 : ke.data.toList.length = ke.size := rfl
        have h2 : ve.data.toList.length = ve.size := rfl
        rw [hrs, recd_len]; omega
      have HRL := Lib.hid hrl
      have HRS := Lib.hid hrs
      clear hre hrl hrs
      go_wp2_with fail
      refine HEN.out.mono ?_
      rintro e w3 ⟨rfl, b3⟩
      have HB3 : Hid (Below w.heap.size w w3) := HB2.out.trans (b3.mono HB2.out.size)
      have HM3 : Hid (SM w3 g (n + 1) (chgV st.V k ke.data.toList ve.data.toList)) := HM2.out.ch (Ch.of_below b3 (fun _ => False)) id
      clear HB2 HM2 b3 HEN
      have hs3 := HS.out.below HB3.out
      have S9 : Hid (w3.drew.cell? ⟨S, 0, none⟩ = some (fptr X) ∧ w3.drew.cell? ⟨S, 4, none⟩ = some (.int .i64 nxt) ∧ w3.drew.cell? ⟨S, 5, none⟩ = some (.bool clo) ∧ FW w3.drew D X y fl) := ⟨hs3.c0, by rw [← HNX.out]; exact hs3.c4, by rw [← HCL.out]; exact hs3.c5, (H.out.below HB3.out).drew⟩
      have HBd : Hid (Below w.heap.size w w3.drew) := HB3.out.drew
      have HMd : Hid (SM w3.drew g (n + 1) (chgV st.V k ke.data.toList ve.data.toList)) := HM3.out.ch ((Ch.refl (fun _ => False) w3).drew) id
      clear hs3 HB3 HM3
      obtain ⟨np, hnp⟩ : ∃ np, pgs re.size = np := ⟨_, rfl⟩
      have hpgl : np ≤ 5 := by rw [← hnp]; unfold pgs; omega
      have HNP := Lib.hid hnp
      have HPO : Hid (∀ Z, Calls Tryz.prog 87 #[.int .i64 (re.size : Int)] Z fun e w' => e = .returned (.int .i64 (np : Int)) ∧ Z = w') := fun Z => by rw [← hnp]; exact pagesOf_any re.size Z (by omega)
      have hwi : IntKind.i64.wrap ((nxt : Int) + (np : Int)) = (nxt : Int) + (np : Int) := IntWalk.i64_in _ ⟨by omega, by omega⟩
      clear hnp
      go_upto_region 9 with fail
      go_cut [65] (fun x65 wx => ∃ bb : Bool, x65 = .bool bb ∧ Hid (bb = (clo || decide (fl.P < nxt + np))) ∧ Hid (SM wx g (n + 1) (chgV st.V k ke.data.toList ve.data.toList)) ∧ Hid (Below w.heap.size w wx))
      case first =>
        cases clo
        · refine wp_region_pl (fun Y => Y.cell? ⟨S, 0, none⟩ = some (fptr X) ∧ Y.cell? ⟨S, 4, none⟩ = some (.int .i64 nxt) ∧ Y.cell? ⟨S, 5, none⟩ = some (.bool false) ∧ FW Y D X y fl) ((0, 0) :: (1, 0) :: (2, 0) :: (3, 0) :: (4, 0) :: (5, 0) :: (6, 0) :: (7, 0) :: (8, 0) :: (9, 0) :: (10, 0) :: (11, 0) :: (12, 0) :: (13, 0) :: (14, 0) :: (15, 0) :: (16, 0) :: (17, 1) :: (18, 0) :: (19, 0) :: (20, 0) :: []) (by kernel_rfl) (by kernel_rfl) ?_
          iterate 11 (apply wpP_go; (focus rfl); (focus rfl); (focus exact S9.out); (focus (rintro Z ⟨s0, s1, s2, s3⟩; go_simp; exact rfl)); intro K hK; go_simp; refine hK _ ?_; clear hK K)
          apply wpP_call
          focus rfl
          focus rfl
          focus exact S9.out
          focus (rintro Z ⟨s0, s1, s2, s3⟩; go_simp; exact ⟨rfl, rfl⟩)
          focus (rintro Z ⟨s0, s1, s2, s3⟩; exact HPO.out Z)
          intro K hK
          go_simp
          refine hK _ ?_
          clear hK K
          iterate 5 (apply wpP_go; (focus rfl); (focus rfl); (focus exact S9.out); (focus (rintro Z ⟨s0, s1, s2, s3⟩; go_simp; exact rfl)); intro K hK; go_simp; refine hK _ ?_; clear hK K)
          apply wpP_one
          focus rfl
          intro K hK
          go_simp
          refine (shape_any S9.out.2.2.2).mono ?_
          rintro e V1 ⟨rfl, b1⟩
          have S9' : Hid (V1.cell? ⟨S, 0, none⟩ = some (fptr X) ∧ V1.cell? ⟨S, 4, none⟩ = some (.int .i64 nxt) ∧ V1.cell? ⟨S, 5, none⟩ = some (.bool false) ∧ FW V1 D X y fl) := ⟨cell_later b1 S9.out.1, cell_later b1 S9.out.2.1, cell_later b1 S9.out.2.2.1, S9.out.2.2.2.below b1⟩
          refine hK _ _ S9'.out ?_
          clear hK K
          have HM4 : Hid (SM V1 g (n + 1) (chgV st.V k ke.data.toList ve.data.toList)) := HMd.out.ch (Ch.of_below b1 (fun _ => False)) id
          have HB4 : Hid (Below w.heap.size w V1) := HBd.out.trans (b1.mono HBd.out.size)
          clear S9 HMd HBd b1
          iterate 1 (apply wpP_go; (focus rfl); (focus rfl); (focus exact S9'.out); (focus (rintro Z ⟨s0, s1, s2, s3⟩; have hfp := field_P (.int .i64 fl.B) (.int .i64 fl.P) (.int .i64 fl.E) Z; go_simp; exact rfl)); intro K hK; go_simp; refine hK _ ?_; clear hK K)
          by_cases hfl : fl.P < nxt + np
          · have hflI : (fl.P : Int) < (nxt : Int) + np := by omega
            iterate 2 (apply wpP_go; (focus rfl); (focus rfl); (focus exact S9'.out); (focus (rintro Z ⟨s0, s1, s2, s3⟩; go_simp; exact rfl)); intro K hK; go_simp; refine hK _ ?_; clear hK K)
            refine wpP_done ?_
            clear S9'
            go_wp2_with fail
            go_meet
            exact ⟨_, rfl, (by show _ = (false || _); simp [hfl]), HM4.out, HB4.out⟩
          · have hflI : ¬ (fl.P : Int) < (nxt : Int) + np := by omega
            iterate 2 (apply wpP_go; (focus rfl); (focus rfl); (focus exact S9'.out); (focus (rintro Z ⟨s0, s1, s2, s3⟩; go_simp; exact rfl)); intro K hK; go_simp; refine hK _ ?_; clear hK K)
            refine wpP_done ?_
            clear S9'
            go_wp2_with fail
            go_meet
            exact ⟨_, rfl, (by show _ = (false || _); simp [hfl]), HM4.out, HB4.out⟩
        · refine wp_region_pl (fun Y => Y.cell? ⟨S, 0, none⟩ = some (fptr X) ∧ Y.cell? ⟨S, 4, none⟩ = some (.int .i64 nxt) ∧ Y.cell? ⟨S, 5, none⟩ = some (.bool true) ∧ FW Y D X y fl) ((0, 0) :: (1, 0) :: (2, 0) :: (3, 0) :: (4, 0) :: (5, 0) :: (6, 0) :: (7, 0) :: (8, 0) :: (9, 0) :: (10, 0) :: (11, 0) :: (12, 0) :: (13, 0) :: (14, 0) :: (15, 0) :: (16, 0) :: (17, 0) :: (18, 0) :: (19, 0) :: (20, 0) :: []) (by kernel_rfl) (by kernel_rfl) ?_
          iterate 5 (apply wpP_go; (focus rfl); (focus rfl); (focus exact S9.out); (focus (rintro Z ⟨s0, s1, s2, s3⟩; go_simp; exact rfl)); intro K hK; go_simp; refine hK _ ?_; clear hK K)
          iterate 15 (apply wpP_not; (focus rfl); (focus rfl); (focus exact S9.out); intro K hK; go_simp; refine hK _ ?_; clear hK K)
          iterate 1 (apply wpP_go; (focus rfl); (focus rfl); (focus exact S9.out); (focus (rintro Z ⟨s0, s1, s2, s3⟩; go_simp; exact rfl)); intro K hK; go_simp; refine hK _ ?_; clear hK K)
          refine wpP_done ?_
          go_wp2_with fail
          go_meet
          exact ⟨_, rfl, (by show _ = (true || _); simp), HMd.out, HBd.out⟩
      case rest =>
        clear S9 HMd HBd
        obtain ⟨bb, rfl, HBB, HM4, HB4⟩ := hcut
        have HDg : Hid (¬ D g ∧ ¬ DS g) := ⟨fun h => by have := H.out.fin g h; omega, fun h => by have := HS.out.fin g h; omega⟩
        have HF4 := Lib.hid (H.out.below HB4.out)
        have HS4 := Lib.hid (HS.out.below HB4.out)
        by_cases hfull : clo = true ∨ fl.P < nxt + np
        · have hfb : bb = true := by rw [HBB.out]; simpa using hfull
          subst hfb
          have HE := Lib.hid (chg2 (st := st) (k := k) (nm := ke.data.toList) (v := ve.data.toList) ho (by rw [HCL.out, HNX.out, ← HRS.out, HNP.out]; exact hfull))
          have HCM := Lib.hid (compact_any HS4.out HF4.out ho hdis HM4.out (by omega) HSR.out HHV.out HDg.out.1 HDg.out.2)
          clear hfull
          go_wp2_with fail
          refine HCM.out.mono ?_
          rintro e w5 ⟨rfl, h5, c5, s5⟩
          have HF5 := Lib.hid h5
          have HC5 := Lib.hid c5
          have HS5 := Lib.hid s5
          clear h5 c5 s5 HCM
          go_wp2_with fail
          go_ret
          rw [HE.out]
          exact ⟨rfl, HF5.out, (Ch.of_below HB4.out _).trans HC5.out, fun k => DS k ∨ k = g, _, (fun i h => h.elim .inl (fun e => .inr (by rw [e]; exact hgw))), by have := HS5.out; rw [Nat.max_eq_right (Nat.le_succ n)] at this; exact this⟩
        · have hfb : bb = false := by rw [HBB.out]; simpa using hfull
          subst hfb
          have hroom : nxt + np ≤ fl.P := by omega
          have HNF : Hid (¬ (st.clo = true ∨ fl.P < st.nxt + pgs (recd k ke.data.toList ve.data.toList).length)) := by show ¬ _; rw [HCL.out, HNX.out, ← HRS.out, HNP.out]; exact hfull
          have S11 : Hid (wc.drew.cell? ⟨S, 0, none⟩ = some (fptr X) ∧ wc.drew.cell? ⟨S, 2, none⟩ = some (.int .i64 blk) ∧ wc.drew.cell? ⟨S, 4, none⟩ = some (.int .i64 nxt)) := ⟨HS4.out.c0, by rw [← HBL.out]; exact HS4.out.c2, by rw [← HNX.out]; exact HS4.out.c4⟩
          have HC4 : Hid (Ch D w wc.drew) := (Ch.of_below HB4.out D).drew
          have HFd := Lib.hid HF4.out.drew
          have HMd : Hid (SM wc.drew g (n + 1) (chgV st.V k ke.data.toList ve.data.toList)) := HM4.out.ch ((Ch.refl (fun _ => False) wc).drew) id
          obtain ⟨e3, f3, he3⟩ : ∃ e f', wrL fl blk nxt (pagesR re.data.toList) = (e, f') := ⟨_, _, rfl⟩
          have HWR : Hid (Calls Tryz.prog 77 #[fptr X, .int .i64 blk, .int .i64 nxt, .string re] wc.drew fun e w' => e = .returned (.int .i64 e3) ∧ FW w' D X y f3 ∧ Ch D wc.drew w') := by
            have := write_any HFd.out (b := blk) (p := nxt) (d := re) hb (by omega) (by rw [HNP.out]; exact hroom)
            rw [he3] at this
            exact this
          rw [HRL.out] at he3
          have HE3 := Lib.hid he3
          have hDS : ¬ D S := fun h => hdis _ h HS.out.dS
          clear hfull he3 HF4 HS4 HM4 HFd
          go_upto_region 11 with fail
          refine wp_region_pl (fun Y => Y.cell? ⟨S, 0, none⟩ = some (fptr X) ∧ Y.cell? ⟨S, 2, none⟩ = some (.int .i64 blk) ∧ Y.cell? ⟨S, 4, none⟩ = some (.int .i64 nxt)) ((0, 0) :: (1, 0) :: (2, 0) :: (3, 0) :: (4, 0) :: (5, 0) :: (6, 0) :: (7, 0) :: (8, 0) :: (9, 0) :: (10, 0) :: (11, 0) :: (12, 0) :: (13, 1) :: (14, 0) :: []) (by kernel_rfl) (by kernel_rfl) ?_
          iterate 13 (apply wpP_go; (focus rfl); (focus rfl); (focus exact S11.out); (focus (rintro Z ⟨s0, s1, s2⟩; go_simp; exact rfl)); intro K hK; go_simp; refine hK _ ?_; clear hK K)
          apply wpP_one
          focus rfl
          intro K hK
          go_simp
          refine HWR.out.mono ?_
          rintro e V2 ⟨rfl, h5, c5⟩
          have hSl : S < wc.drew.heap.size := Nat.lt_of_lt_of_le (HS.out.fin _ HS.out.dS) HC4.out.size
          have HF5 := Lib.hid h5
          have HC5 : Hid (Ch D w V2) := HC4.out.trans c5
          have HM5 : Hid (SM V2 g (n + 1) (chgV st.V k ke.data.toList ve.data.toList)) := HMd.out.ch c5 HDg.out.1
          have S12 : Hid (V2.cell? ⟨S, 0, none⟩ = some (fptr X) ∧ V2.cell? ⟨S, 2, none⟩ = some (.int .i64 blk) ∧ V2.cell? ⟨S, 4, none⟩ = some (.int .i64 nxt)) := ⟨(c5.cell ⟨S, 0, none⟩ hSl hDS).trans S11.out.1, (c5.cell ⟨S, 2, none⟩ hSl hDS).trans S11.out.2.1, (c5.cell ⟨S, 4, none⟩ hSl hDS).trans S11.out.2.2⟩
          refine hK _ _ S12.out ?_
          clear hK K c5 h5 S11 HC4 HWR hSl HMd
          iterate 1 (apply wpP_go; (focus rfl); (focus rfl); (focus exact S12.out); (focus (rintro Z ⟨s0, s1, s2⟩; go_simp; exact rfl)); intro K hK; go_simp; refine hK _ ?_; clear hK K)
          refine wpP_done ?_
          by_cases he : e3 = 0
          · subst he
            have HE := Lib.hid (chg4 (st := st) (k := k) (nm := ke.data.toList) (v := ve.data.toList) ho HNF.out (by rw [HBL.out, HNX.out]; exact HE3.out))
            have r0 := (HS.out.ch HC5.out fun k h1 h2 => hdis k h2 h1).top
            have r0' : Rg V2.drew S 95 6 (stc st X m) := r0.ch ((Ch.refl (fun _ => False) V2).drew) id
            have S13 : Hid (V2.drew.cell? ⟨S, 4, none⟩ = some (.int .i64 nxt)) := S12.out.2.2
            have HF6 := Lib.hid HF5.out.drew
            have HC6 : Hid (Ch D w V2.drew) := HC5.out.drew
            have HM6 : Hid (SM V2.drew g (n + 1) (chgV st.V k ke.data.toList ve.data.toList)) := HM5.out.ch ((Ch.refl (fun _ => False) V2).drew) id
            clear S12 HF5 HC5 HM5 r0
            go_upto_region 14 with fail
            refine wp_region_pl (fun Y => Y.cell? ⟨S, 4, none⟩ = some (.int .i64 nxt)) ((0, 0) :: (1, 0) :: (2, 0) :: (3, 0) :: (4, 0) :: (5, 0) :: (6, 0) :: (7, 0) :: (8, 1) :: (9, 0) :: (10, 2) :: []) (by kernel_rfl) (by kernel_rfl) ?_
            generalize V2.drew = V3 at *
            have f4 := r0'.frozen 4
            have q4 := r0'.cell (i := 4) (by omega)
            rw [show stc st X m 4 = .int .i64 nxt by rw [← HNX.out]; rfl] at q4
            have r1 := r0'.set (i := 4) (by omega) (.int .i64 ((nxt : Int) + (np : Int)))
            have q1 := r1.cell (i := 1) (by omega)
            have f1 := r1.frozen 1
            have r2 := r1.set (i := 1) (by omega) (.map (some g))
            have HR2 := Lib.hid (r2.congr (v' := stc ⟨chgV st.V k ke.data.toList ve.data.toList, blk, st.gen, nxt + np, clo⟩ X g) fun j hj => by
              rcases (by omega : j = 0 ∨ j = 1 ∨ j = 2 ∨ j = 3 ∨ j = 4 ∨ j = 5) with e | e | e | e | e | e <;> subst e <;> simp [upd, stc, HBL.out, HCL.out])
            have hCh : Ch (fun x => x = S) V3 ((V3.setCell ⟨S, 4, none⟩ (.int .i64 ((nxt : Int) + (np : Int)))).setCell ⟨S, 1, none⟩ (.map (some g))) :=
              ((Ch.refl (fun x => x = S) V3).setCell (p := ⟨S, 4, none⟩) (fun _ => rfl) _).setCell (p := ⟨S, 1, none⟩) (fun _ => rfl) _
            have HCH := Lib.hid hCh
            clear r0' r1 r2 hCh
            iterate 6 (apply wpP_go; (focus rfl); (focus rfl); (focus exact S13.out); (focus (intro Z s0; go_simp; exact rfl)); intro K hK; go_simp; refine hK _ ?_; clear hK K)
            apply wpP_call
            focus rfl
            focus rfl
            focus exact S13.out
            focus (intro Z s0; go_simp; exact ⟨rfl, rfl⟩)
            focus (intro Z s0; exact HPO.out Z)
            intro K hK
            go_simp
            refine hK _ ?_
            clear hK K
            iterate 1 (apply wpP_go; (focus rfl); (focus rfl); (focus exact S13.out); (focus (intro Z s0; go_simp; exact rfl)); intro K hK; go_simp; refine hK _ ?_; clear hK K)
            apply wpP_one
            focus rfl
            intro K hK
            go_simp
            refine hK _ _ S13.out ?_
            clear hK K
            iterate 1 (apply wpP_go; (focus rfl); (focus rfl); (focus exact S13.out); (focus (intro Z s0; go_simp; exact rfl)); intro K hK; go_simp; refine hK _ ?_; clear hK K)
            apply wpP_two
            focus rfl
            intro K hK
            go_simp
            refine hK _ _ ?_
            clear hK K
            refine wpP_done ?_
            clear S13
            go_wp2_with fail
            go_ret
            rw [HE.out, HBL.out, HNX.out, HCL.out, ← HRS.out, HNP.out]
            have hgS : g ≠ S := fun e => HDg.out.2 (e ▸ HS.out.dS)
            have hszz : w.heap.size ≤ _ := Nat.le_trans HC6.out.size HCH.out.size
            have hgl := HM6.out.lt
            refine ⟨rfl, HF6.out.ch HCH.out (fun k hk e => hDS (e ▸ hk)), (HC6.out.mono fun _ h _ => .inl h).andThen HCH.out (fun k e _ => by rw [e]; exact .inr HS.out.dS), fun k => DS k ∨ k = g, g, (fun i h => h.elim .inl (fun e => .inr (by rw [e]; exact hgw))), ?_⟩
            exact ⟨HR2.out, HM6.out.ch HCH.out hgS, .inl HS.out.dS, .inr rfl, fun k hk => hk.elim (fun h => Nat.lt_of_lt_of_le (HS.out.fin k h) hszz) (fun e => by rw [e]; exact Nat.lt_of_lt_of_le hgl HCH.out.size), HSR.out, HHV.out, hg, by show nxt + np ≤ 1000; omega, by show blk ≤ 1000; omega⟩
          · have hed : (e3 == 0) = false := by simpa using he
            have HE := Lib.hid (chg3 (st := st) (k := k) (nm := ke.data.toList) (v := ve.data.toList) ho HNF.out (by rw [HBL.out, HNX.out]; exact HE3.out) he)
            clear S12
            go_wp2_with fail
            go_ret
            rw [HE.out]
            exact ⟨rfl, Left.same rfl HF5.out HC5.out HS.out hdis⟩
  · have hrd : readF fl blk 0 = ([], 16) := by unfold readF; rw [ho]; rfl
    have HE := Lib.hid (chg1 (st := st) (k := k) (nm := ke.data.toList) (v := ve.data.toList) ho)
    go_enter Tryz.func70, Tryz.ntmps70
    go_wp2_with fail
    refine wp_region_pl (fun Y => Y.cell? ⟨S, 0, none⟩ = some (fptr X) ∧ Y.cell? ⟨S, 2, none⟩ = some (.int .i64 blk) ∧ FW Y D X y fl) ((0, 0) :: (1, 0) :: (2, 0) :: (3, 0) :: (4, 0) :: (5, 0) :: (6, 0) :: (7, 0) :: (8, 0) :: (9, 0) :: (10, 0) :: (11, 0) :: (12, 0) :: (13, 0) :: []) (by kernel_rfl) (by kernel_rfl) ?_
    iterate 8 (apply wpP_go; (focus rfl); (focus rfl); (focus exact S1.out); (focus (rintro Z ⟨s0, s1, s2⟩; go_simp; exact rfl)); intro K hK; go_simp; refine hK _ ?_; clear hK K)
    apply wpP_call
    focus rfl
    focus rfl
    focus exact S1.out
    focus (rintro Z ⟨s0, s1, s2⟩; go_simp; exact ⟨rfl, rfl⟩)
    focus (rintro Z ⟨s0, s1, s2⟩; have := read_any (p := 0) s2 hb (by omega); rw [hrd] at this; exact this)
    intro K hK
    go_simp
    refine hK _ ?_
    clear hK K
    iterate 5 (apply wpP_go; (focus rfl); (focus rfl); (focus exact S1.out); (focus (rintro Z ⟨s0, s1, s2⟩; go_simp; exact rfl)); intro K hK; go_simp; refine hK _ ?_; clear hK K)
    refine wpP_done ?_
    have HFd := Lib.hid S1.out.2.2
    clear S1
    go_wp2_with fail
    go_ret
    rw [HE.out]
    exact ⟨rfl, Left.same rfl HFd.out HB1.out HS.out hdis⟩
end
end Go.Proofs.YtfglopkglnpokaaGreat
namespace Go.Proofs.YtfglopkglnpokaaGreat
open Go.RowKit
def setF (fl : FL) (st : ST) (n v : Str) : Int × FL × ST :=
  if okLens 1 n.length v.length = false then (1, fl, st) else if getV st.V n = some v then (0, fl, st) else chgF fl st 1 n v
def delF (fl : FL) (st : ST) (n : Str) : Int × FL × ST :=
  if okLens 2 n.length 0 = false then (1, fl, st) else if getV st.V n = none then (6, fl, st) else chgF fl st 2 n []
theorem okLens_le {k n v : Nat} (h : okLens k n v = true) : n ≤ 24 ∧ v ≤ 128 := by
  simp only [okLens, Bool.or_eq_true, Bool.and_eq_true, decide_eq_true_eq, beq_iff_eq] at h
  omega
section
variable {w w' : World} {D DS : Nat → Prop} {S X m n : Nat} {st : ST} {y : FLay} {fl : FL}
set_option maxRecDepth 100000 in
set_option maxHeartbeats 2000000 in
theorem set_any (hs : SW w DS S X m n st) (h : FW w D X y fl) (hdis : ∀ k, D k → ¬ DS k) (hb : st.blk < fl.B) (hn : n < 1000) {ke ve : ByteArray} (hke : ke.size ≤ 1000000) (hve : ve.size ≤ 1000000) :
    Calls Tryz.prog 32 #[fptr S, .string ke, .string ve] w fun e w' => e = .returned (.int .i64 (setF fl st ke.data.toList ve.data.toList).1) ∧ Left w w' D DS S X n y (setF fl st ke.data.toList ve.data.toList) := by
  have H := Lib.hid h
  have HS := Lib.hid hs
  have HPM : Hid (Calls Tryz.prog 69 #[.int .i64 1, .int .i64 (ke.size : Int), .int .i64 (ve.size : Int)] w fun e w' => e = .returned (.bool (okLens 1 ke.size ve.size)) ∧ w = w') := permitted_any 1 ke.size ve.size w (by omega) (by omega)
  have hlk := hs.map.look (s := ke) (by unfold maxLen; omega)
  have c1 := hs.c1
  have HLS : Hid (Left w w D DS S X n y (0, fl, st) ∧ Left w w D DS S X n y (1, fl, st)) := ⟨Left.same rfl h (Ch.refl D w) hs hdis, Left.same rfl h (Ch.refl D w) hs hdis⟩
  obtain ⟨ok, hok⟩ : ∃ ok, okLens 1 ke.size ve.size = ok := ⟨_, rfl⟩
  rw [hok] at HPM
  have HOK := Lib.hid hok
  clear h hs hok
  cases ok
  · have HE : Hid (setF fl st ke.data.toList ve.data.toList = (1, fl, st)) := by show _ = _; unfold setF; rw [if_pos]; exact HOK.out
    go_enter Tryz.func32, Tryz.ntmps32
    go_wp2_with fail
    refine HPM.out.mono ?_
    rintro e w' ⟨rfl, rfl⟩
    go_wp2_with fail
    go_ret
    rw [HE.out]
    exact ⟨rfl, HLS.out.2⟩
  · have hle := okLens_le HOK.out
    have HCG : Hid (Calls Tryz.prog 70 #[fptr S, .int .i64 1, .string ke, .string ve] w fun e w' => e = .returned (.int .i64 (chgF fl st 1 ke.data.toList ve.data.toList).1) ∧ Left w w' D DS S X n y (chgF fl st 1 ke.data.toList ve.data.toList)) := change_any HS.out H.out hdis hb hn (.inl rfl) hle.1 hle.2
    cases hgv : getV st.V ke.data.toList
    · have HE : Hid (setF fl st ke.data.toList ve.data.toList = chgF fl st 1 ke.data.toList ve.data.toList) := by
        show _ = _; unfold setF; rw [if_neg (by show ¬ okLens 1 ke.size ve.size = false; rw [HOK.out]; simp), hgv, if_neg (by simp)]
      rw [hgv] at hlk
      simp only [Option.getD_none, Option.isSome_none] at hlk
      clear hgv
      go_enter Tryz.func32, Tryz.ntmps32
      go_wp2_with fail
      refine HPM.out.mono ?_
      rintro e w' ⟨rfl, rfl⟩
      go_wp2_with fail
      refine HCG.out.mono ?_
      rintro e w5 ⟨rfl, hl⟩
      have HL := Lib.hid hl
      clear hl HCG
      go_wp2_with fail
      go_ret
      rw [HE.out]
      exact ⟨rfl, HL.out⟩
    · rename_i ov
      rw [hgv] at hlk
      simp only [Option.getD_some, Option.isSome_some] at hlk
      obtain ⟨oe, hoe⟩ : ∃ s : ByteArray, s = ⟨ov.toArray⟩ := ⟨_, rfl⟩
      have hol : oe.data.toList = ov := by rw [hoe]
      rw [show str ov = .string oe by rw [hoe]] at hlk
      by_cases heq : oe = ve
      · have HE : Hid (setF fl st ke.data.toList ve.data.toList = (0, fl, st)) := by
          show _ = _; unfold setF; rw [if_neg (by show ¬ okLens 1 ke.size ve.size = false; rw [HOK.out]; simp), hgv, if_pos (by rw [← hol, heq])]
        have hd1 : (oe.toList == ve.toList) = true := by rw [heq]; simp
        have HEQ := Lib.hid heq
        clear hgv hoe hol heq
        go_enter Tryz.func32, Tryz.ntmps32
        go_wp2_with fail
        refine HPM.out.mono ?_
        rintro e w' ⟨rfl, rfl⟩
        go_wp2_with fail
        go_ret
        rw [HE.out]
        exact ⟨rfl, HLS.out.1⟩
      · have HE : Hid (setF fl st ke.data.toList ve.data.toList = chgF fl st 1 ke.data.toList ve.data.toList) := by
          show _ = _; unfold setF; rw [if_neg (by show ¬ okLens 1 ke.size ve.size = false; rw [HOK.out]; simp), hgv, if_neg (by
            intro h9
            apply heq
            have h8 := Option.some.inj h9
            rw [hoe, h8])]
        have hd1 : (oe.toList == ve.toList) = false := by
          rw [beq_eq_false_iff_ne]
          intro h9
          rw [ByteArray.toList_eq, ByteArray.toList_eq] at h9
          exact heq (by cases oe; cases ve; congr 1; exact Array.toList_inj.1 h9)
        clear hgv hoe hol
        go_enter Tryz.func32, Tryz.ntmps32
        go_wp2_with fail
        refine HPM.out.mono ?_
        rintro e w' ⟨rfl, rfl⟩
        go_wp2_with fail
        refine HCG.out.mono ?_
        rintro e w5 ⟨rfl, hl⟩
        have HL := Lib.hid hl
        clear hl HCG
        go_wp2_with fail
        go_ret
        rw [HE.out]
        exact ⟨rfl, HL.out⟩
set_option maxRecDepth 100000 in
set_option maxHeartbeats 2000000 in
theorem delete_any (hs : SW w DS S X m n st) (h : FW w D X y fl) (hdis : ∀ k, D k → ¬ DS k) (hb : st.blk < fl.B) (hn : n < 1000) {ke : ByteArray} (hke : ke.size ≤ 1000000) :
    Calls Tryz.prog 34 #[fptr S, .string ke] w fun e w' => e = .returned (.int .i64 (delF fl st ke.data.toList).1) ∧ Left w w' D DS S X n y (delF fl st ke.data.toList) := by
  have H := Lib.hid h
  have HS := Lib.hid hs
  have HPM : Hid (Calls Tryz.prog 69 #[.int .i64 2, .int .i64 (ke.size : Int), .int .i64 0] w fun e w' => e = .returned (.bool (okLens 2 ke.size 0)) ∧ w = w') := permitted_any 2 ke.size 0 w (by omega) (by omega)
  have hlk := hs.map.look (s := ke) (by unfold maxLen; omega)
  have c1 := hs.c1
  have HLS : Hid (Left w w D DS S X n y (6, fl, st) ∧ Left w w D DS S X n y (1, fl, st)) := ⟨Left.same rfl h (Ch.refl D w) hs hdis, Left.same rfl h (Ch.refl D w) hs hdis⟩
  obtain ⟨ok, hok⟩ : ∃ ok, okLens 2 ke.size 0 = ok := ⟨_, rfl⟩
  rw [hok] at HPM
  have HOK := Lib.hid hok
  clear h hs hok
  cases ok
  · have HE : Hid (delF fl st ke.data.toList = (1, fl, st)) := by show _ = _; unfold delF; rw [if_pos]; exact HOK.out
    go_enter Tryz.func34, Tryz.ntmps34
    go_wp2_with fail
    refine HPM.out.mono ?_
    rintro e w' ⟨rfl, rfl⟩
    go_wp2_with fail
    go_ret
    rw [HE.out]
    exact ⟨rfl, HLS.out.2⟩
  · have hle := okLens_le HOK.out
    have HCG : Hid (Calls Tryz.prog 70 #[fptr S, .int .i64 2, .string ke, .string ⟨#[]⟩] w fun e w' => e = .returned (.int .i64 (chgF fl st 2 ke.data.toList []).1) ∧ Left w w' D DS S X n y (chgF fl st 2 ke.data.toList [])) := change_any HS.out H.out hdis hb hn (.inr rfl) hle.1 (ve := ⟨#[]⟩) hle.2
    cases hgv : getV st.V ke.data.toList
    · have HE : Hid (delF fl st ke.data.toList = (6, fl, st)) := by
        show _ = _; unfold delF; rw [if_neg (by show ¬ okLens 2 ke.size 0 = false; rw [HOK.out]; simp), hgv, if_pos rfl]
      rw [hgv] at hlk
      simp only [Option.getD_none, Option.isSome_none] at hlk
      clear hgv
      go_enter Tryz.func34, Tryz.ntmps34
      go_wp2_with fail
      refine HPM.out.mono ?_
      rintro e w' ⟨rfl, rfl⟩
      go_wp2_with fail
      go_ret
      rw [HE.out]
      exact ⟨rfl, HLS.out.1⟩
    · have HE : Hid (delF fl st ke.data.toList = chgF fl st 2 ke.data.toList []) := by
        show _ = _; unfold delF; rw [if_neg (by show ¬ okLens 2 ke.size 0 = false; rw [HOK.out]; simp), hgv, if_neg (by simp)]
      rw [hgv] at hlk
      simp only [Option.getD_some, Option.isSome_some] at hlk
      clear hgv
      go_enter Tryz.func34, Tryz.ntmps34
      go_wp2_with fail
      refine HPM.out.mono ?_
      rintro e w' ⟨rfl, rfl⟩
      go_wp2_with fail
      refine HCG.out.mono ?_
      rintro e w5 ⟨rfl, hl⟩
      have HL := Lib.hid hl
      clear hl HCG
      go_wp2_with fail
      go_ret
      rw [HE.out]
      exact ⟨rfl, HL.out⟩
end
end Go.Proofs.YtfglopkglnpokaaGreat
namespace Go.Proofs.YtfglopkglnpokaaGreat
open Go.RowKit
def fmt1 : Nat → Nat → FL → Int × FL
  | 0, _, fl => (0, fl)
  | r + 1, b, fl => if fl.off = true then (16, fl) else if blankP (pgsF fl b) = true then fmt1 r (b + 1) fl else if (eraseF fl b).1 ≠ 0 then eraseF fl b else fmt1 r (b + 1) (eraseF fl b).2
def least (fl : FL) (k : Nat) : Nat := (List.range k).foldl (fun l b => if fl.er b < fl.er l then b else l) 0
theorem least_succ (fl : FL) (k : Nat) : least fl (k + 1) = if fl.er k < fl.er (least fl k) then k else least fl k := by
  unfold least
  rw [List.range_succ, List.foldl_append]
  rfl
def fmtF (fl : FL) : Int × FL :=
  if (decide (2 ≤ fl.B) && decide (2 ≤ fl.P)) = false then (1, fl) else
  if (fmt1 fl.B 0 fl).1 ≠ 0 then fmt1 fl.B 0 fl else wrL (fmt1 fl.B 0 fl).2 (least (fmt1 fl.B 0 fl).2 fl.B) 0 (pagesR (hdr 1))
section
variable {w w' : World} {D : Nat → Prop} {X : Nat} {y : FLay} {fl : FL}
set_option maxRecDepth 100000 in
set_option maxHeartbeats 2000000 in
theorem format_any (h : FW w D X y fl) : Calls Tryz.prog 40 #[fptr X] w fun e w' => e = .returned (.int .i64 (fmtF fl).1) ∧ FW w' D X y (fmtF fl).2 ∧ Ch D w w' := by
  have HUS := Lib.hid (usable_any h)
  have H := Lib.hid h
  have hB := h.hB
  have hP := h.hP
  obtain ⟨us, hus⟩ : ∃ us, (decide (2 ≤ fl.B) && decide (2 ≤ fl.P)) = us := ⟨_, rfl⟩
  rw [hus] at HUS
  have HU := Lib.hid hus
  clear h hus
  cases us
  · have HE : Hid (fmtF fl = (1, fl)) := by show _ = _; unfold fmtF; rw [if_pos HU.out]
    go_enter Tryz.func40, Tryz.ntmps40
    go_wp2_with fail
    refine HUS.out.mono ?_
    rintro e w1 ⟨rfl, b1⟩
    have HF1 := Lib.hid (H.out.below b1)
    have HC1 : Hid (Ch D w w1) := Ch.of_below b1 D
    clear b1
    go_wp2_with fail
    go_ret
    rw [HE.out]
    exact ⟨rfl, HF1.out, HC1.out⟩
  · have hB2 : 2 ≤ fl.B := by have := HU.out; simp at this; exact this.1
    have hP2 : 2 ≤ fl.P := by have := HU.out; simp at this; exact this.2
    go_enter Tryz.func40, Tryz.ntmps40
    go_wp2_with fail
    refine HUS.out.mono ?_
    rintro e w1 ⟨rfl, b1⟩
    have HSH := Lib.hid (shape_any (H.out.below b1))
    have HF1 := Lib.hid (H.out.below b1)
    have HC1 : Hid (Ch D w w1) := Ch.of_below b1 D
    clear b1 HUS
    go_wp2_with fail
    refine HSH.out.mono ?_
    rintro e w2 ⟨rfl, b2⟩
    have hfb := field_B (.int .i64 fl.B) (.int .i64 fl.P) (.int .i64 fl.E) w2
    have HW0 : Hid (∃ f, FW w2 D X y f ∧ f.B = fl.B ∧ f.P = fl.P ∧ fmt1 fl.B 0 fl = fmt1 (fl.B - 0) 0 f) := ⟨fl, HF1.out.below b2, rfl, rfl, rfl⟩
    have HC2 : Hid (Ch D w w2) := HC1.out.trans (Ch.of_below b2 D)
    clear b2 HF1 HC1 HSH
    go_wp2_with fail
    clear hfb
    go_loopw [15] (fun z wr => ∃ k : Nat, k ≤ fl.B ∧ z = .int .i64 (k : Int) ∧ Hid (∃ f, FW wr D X y f ∧ f.B = fl.B ∧ f.P = fl.P ∧ fmt1 fl.B 0 fl = fmt1 (fl.B - k) k f) ∧ Hid (Ch D w wr)) (fun z _ => fl.B - (intOf z).toNat)
    case atStart => exact ⟨0, by omega, rfl, HW0, HC2⟩
    case round =>
      clear HW0 HC2
      obtain ⟨k, hk, rfl, HF, HC⟩ := hrel
      by_cases hlt : k < fl.B
      · have y0 : (k : Int) < fl.B := by omega
        obtain ⟨f, hf, fB, fP, hfm⟩ := HF.out
        have hkf : k < f.B := by rw [fB]; exact hlt
        rw [show fl.B - k = (fl.B - (k + 1)) + 1 by omega, fmt1] at hfm
        have HRB := Lib.hid (readBlock_any hf hkf)
        have HFF := Lib.hid hf
        have HEQ : Hid (f.B = fl.B ∧ f.P = fl.P) := ⟨fB, fP⟩
        clear HF hf
        cases ho : f.off
        · rw [ho, if_neg (by simp)] at hfm
          have HFM := Lib.hid hfm
          clear hfm
          go_wp2_with fail
          refine HRB.out.mono ?_
          rintro e w3 ⟨b3, ⟨h1, _⟩ | ⟨_, g, rfl, hg, hps⟩⟩
          · rw [ho] at h1; cases h1
          have HF3 := Lib.hid (HFF.out.below b3)
          have HC3 : Hid (Ch D w w3) := HC.out.trans (Ch.of_below b3 D)
          have HIB := Lib.hid (isBlank_any hps (pgsF_len f k) (fun p hp => by
            unfold pgsF at hp
            obtain ⟨j, hj, rfl⟩ := List.mem_map.1 hp
            rw [HF3.out.len k j hkf (by simpa using hj)]
            omega) (by rw [fP]; omega))
          have HER := Lib.hid (erase_any HF3.out hkf)
          obtain ⟨bl, hbl⟩ : ∃ bl, blankP (pgsF f k) = bl := ⟨_, rfl⟩
          rw [hbl] at HIB
          have HBL := Lib.hid hbl
          obtain ⟨e3, f3, he3⟩ : ∃ e f', eraseF f k = (e, f') := ⟨_, _, rfl⟩
          have hsame := eraseF_same f k
          rw [he3] at HER hsame
          have HE3 := Lib.hid he3
          have HSM : Hid (f3.B = fl.B ∧ f3.P = fl.P) := ⟨hsame.1.trans fB, hsame.2.trans fP⟩
          clear hbl b3 hps HRB HC HFF he3 hsame fB fP hg
          cases bl
          · by_cases he : e3 = 0
            · subst he
              have HN : Hid (fmt1 fl.B 0 fl = fmt1 (fl.B - (k + 1)) (k + 1) f3) := by
                show _ = _
                rw [HFM.out, HBL.out, HE3.out, if_neg (by simp), if_neg (by simp)]
              go_wp2_with fail
              refine HIB.out.mono ?_
              rintro e w' ⟨rfl, rfl⟩
              go_wp2_with fail
              refine HER.out.mono ?_
              rintro e w5 ⟨rfl, h5, c5⟩
              have HF5 := Lib.hid h5
              have HC5 : Hid (Ch D w w5) := HC3.out.trans c5
              clear h5 c5
              go_wp2_with fail
              go_roundw
              case rel => exact ⟨k + 1, by omega, by go_num, ⟨f3, HF5.out, HSM.out.1, HSM.out.2, HN.out⟩, HC5⟩
              case measure => simp [intOf]; omega
            · have hed : (e3 == 0) = false := by simpa using he
              have HN : Hid (fmtF fl = (e3, f3)) := by
                have h9 : fmt1 fl.B 0 fl = (e3, f3) := by rw [HFM.out, HBL.out, HE3.out, if_neg (by simp), if_pos he]
                show _ = _
                unfold fmtF
                rw [if_neg (by rw [HU.out]; simp), h9, if_pos he]
              go_wp2_with fail
              refine HIB.out.mono ?_
              rintro e w' ⟨rfl, rfl⟩
              go_wp2_with fail
              refine HER.out.mono ?_
              rintro e w5 ⟨rfl, h5, c5⟩
              have HF5 := Lib.hid h5
              have HC5 : Hid (Ch D w w5) := HC3.out.trans c5
              clear h5 c5
              go_wp2_with fail
              go_ret
              rw [HN.out]
              exact ⟨rfl, HF5.out, HC5.out⟩
          · have HN : Hid (fmt1 fl.B 0 fl = fmt1 (fl.B - (k + 1)) (k + 1) f) := by
              show _ = _
              rw [HFM.out, HBL.out, if_pos rfl]
            go_wp2_with fail
            refine HIB.out.mono ?_
            rintro e w' ⟨rfl, rfl⟩
            go_wp2_with fail
            go_roundw
            case rel => exact ⟨k + 1, by omega, by go_num, ⟨f, HF3.out, HEQ.out.1, HEQ.out.2, HN.out⟩, HC3⟩
            case measure => simp [intOf]; omega
        · rw [ho, if_pos rfl] at hfm
          have HN : Hid (fmtF fl = (16, f)) := by
            show _ = _
            unfold fmtF
            rw [if_neg (by rw [HU.out]; simp), hfm, if_pos (by simp)]
          clear hfm
          go_wp2_with fail
          refine HRB.out.mono ?_
          rintro e w3 ⟨b3, ⟨_, rfl⟩ | ⟨h1, _⟩⟩
          · have HF3 := Lib.hid (HFF.out.below b3)
            have HC3 : Hid (Ch D w w3) := HC.out.trans (Ch.of_below b3 D)
            clear b3
            go_wp2_with fail
            go_ret
            rw [HN.out]
            exact ⟨rfl, HF3.out, HC3.out⟩
          · rw [ho] at h1; cases h1
      · have ek : k = fl.B := by omega
        obtain ⟨f, hf, fB, fP, hfm⟩ := HF.out
        rw [ek, Nat.sub_self, fmt1] at hfm
        have HFM := Lib.hid hfm
        have HSH := Lib.hid (shape_any hf)
        have HFF := Lib.hid hf
        have HEQ : Hid (f.B = fl.B ∧ f.P = fl.P) := ⟨fB, fP⟩
        rw [fB] at HSH
        clear HF hf hfm fB fP
        go_wp2_with fail
        refine HSH.out.mono ?_
        rintro e w3 ⟨rfl, b3⟩
        have hfb := field_B (.int .i64 fl.B) (.int .i64 f.P) (.int .i64 f.E) w3
        have HF3 := Lib.hid (HFF.out.below b3)
        have HC3 : Hid (Ch D w w3) := HC.out.trans (Ch.of_below b3 D)
        have HL0 : Hid (0 = least f 0) := rfl
        clear b3 HFF HC HSH
        go_wp2_with fail
        clear hfb
        go_loopw [7, 39] (fun x7 z wr => ∃ j l : Nat, j ≤ fl.B ∧ l < fl.B ∧ x7 = .int .i64 (l : Int) ∧ z = .int .i64 (j : Int) ∧ Hid (l = least f j) ∧ Hid (FW wr D X y f) ∧ Hid (Ch D w wr)) (fun _ z _ => fl.B - (intOf z).toNat)
        case atStart => exact ⟨0, 0, by omega, by omega, rfl, rfl, HL0, HF3, HC3⟩
        case round =>
          clear HL0 HF3 HC3
          obtain ⟨j, l, hj, hl, rfl, rfl, HL, HF, HC⟩ := hrel
          by_cases hlt2 : j < fl.B
          · have y0 : (j : Int) < fl.B := by omega
            have HE1 := Lib.hid (erases_any HF.out (b := j) (by rw [HEQ.out.1]; exact hlt2))
            have HE2 := Lib.hid (erases_any HF.out (b := l) (by rw [HEQ.out.1]; exact hl))
            have hle1 : f.er j ≤ 1000000000 := by have := HF.out.her j (by rw [HEQ.out.1]; exact hlt2); have := HF.out.hE; omega
            by_cases hless : f.er j < f.er l
            · have hI : (f.er j : Int) < (f.er l : Int) := by omega
              have HL2 : Hid (j = least f (j + 1)) := by show _ = _; rw [least_succ, ← HL.out, if_pos hless]
              go_wp2_with fail
              refine HE1.out.mono ?_
              rintro e w' ⟨rfl, rfl⟩
              go_wp2_with fail
              refine HE2.out.mono ?_
              rintro e w' ⟨rfl, rfl⟩
              go_wp2_with fail
              go_roundw
              case rel => exact ⟨j + 1, j, by omega, hlt2, rfl, by go_num, HL2, HF, HC⟩
              case measure => simp [intOf]; omega
            · have hI : ¬ (f.er j : Int) < (f.er l : Int) := by omega
              have HL2 : Hid (l = least f (j + 1)) := by show _ = _; rw [least_succ, ← HL.out, if_neg hless]
              go_wp2_with fail
              refine HE1.out.mono ?_
              rintro e w' ⟨rfl, rfl⟩
              go_wp2_with fail
              refine HE2.out.mono ?_
              rintro e w' ⟨rfl, rfl⟩
              go_wp2_with fail
              go_roundw
              case rel => exact ⟨j + 1, l, by omega, hl, rfl, by go_num, HL2, HF, HC⟩
              case measure => simp [intOf]; omega
          · have ej : j = fl.B := by omega
            have HLL : Hid (l = least f fl.B) := by show _ = _; rw [← ej]; exact HL.out
            obtain ⟨hd, hhd⟩ : ∃ s : ByteArray, s = ⟨(hdr 1).toArray⟩ := ⟨_, rfl⟩
            have hdl : hd.data.toList = hdr 1 := by rw [hhd]
            have hdz : hd.size = 13 := by rw [bsz, hdl]; unfold hdr; rw [recd_len]; simp [be8]
            have HHD : Hid (Calls Tryz.prog 78 #[.int .u64 1] wr fun e w' => e = .returned (str (hdr 1)) ∧ Below wr.heap.size wr w') := header_any 1 wr
            rw [show str (hdr 1) = .string hd by rw [hhd]] at HHD
            obtain ⟨e3, f3, he3⟩ : ∃ e f', wrL f l 0 (pagesR (hdr 1)) = (e, f') := ⟨_, _, rfl⟩
            have HWR : Hid (∀ V1, FW V1 D X y f → Calls Tryz.prog 77 #[fptr X, .int .i64 l, .int .i64 0, .string hd] V1 fun e w' => e = .returned (.int .i64 e3) ∧ FW w' D X y f3 ∧ Ch D V1 w') := fun V1 hV1 => by
              have := write_any hV1 (b := l) (p := 0) (d := hd) (by rw [HEQ.out.1]; exact hl) (by omega) (by rw [HEQ.out.2, hdz]; unfold pgs; omega)
              rw [hdl, he3] at this
              exact this
            have HN : Hid (fmtF fl = (e3, f3)) := by
              show _ = _
              unfold fmtF
              rw [if_neg (by rw [HU.out]; simp), HFM.out, if_neg (by simp)]
              show wrL f (least f fl.B) 0 _ = _
              rw [← HLL.out]
              exact he3
            clear hhd hdl he3
            go_wp2_with fail
            refine HHD.out.mono ?_
            rintro e w5 ⟨rfl, b5⟩
            have HF5 := Lib.hid (HF.out.below b5)
            have HC5 : Hid (Ch D w w5) := HC.out.trans (Ch.of_below b5 D)
            clear b5 HF HC
            go_wp2_with fail
            refine (HWR.out w5 HF5.out).mono ?_
            rintro e w6 ⟨rfl, h6, c6⟩
            have HF6 := Lib.hid h6
            have HC6 : Hid (Ch D w w6) := HC5.out.trans c6
            clear h6 c6
            go_wp2_with fail
            go_ret
            rw [HN.out]
            exact ⟨rfl, HF6.out, HC6.out⟩
end
end Go.Proofs.YtfglopkglnpokaaGreat
namespace Go.Proofs.YtfglopkglnpokaaGreat
open Go.RowKit
def two64 : Int := 18446744073709551616
def mo (n : Int) (m : Nat) : Nat := (n % two64).toNat % m
theorem mo_lt (n : Int) (m : Nat) (hm : 0 < m) : mo n m < m := Nat.mod_lt _ hm
theorem mo_eq (n : Int) (m : Nat) : (n % 18446744073709551616) % (m : Int) = ((mo n m : Nat) : Int) := by
  have h : 0 ≤ n % 18446744073709551616 := Int.emod_nonneg _ (by decide)
  unfold mo two64
  rw [Int.natCast_emod, Int.toNat_of_nonneg h]
theorem mo_walk (v : Int) (m : Nat) (h2 : 1 ≤ m) (h3 : m ≤ 1000000) : wrap64 ((IntKind.u64.wrap v).tmod m) = ((mo v m : Nat) : Int) := by
  have e : IntKind.u64.wrap v = v % 18446744073709551616 := by simp [IntKind.wrap_u64]
  have h' := mo_lt v m h2
  rw [e, IntWalk.rem_in _ _ (by omega), mo_eq]
  exact IntWalk.wrap64_in _ (by omega)
theorem mod_any (n : Int) (m : Nat) (w : World) (hm : 1 ≤ m) (hm2 : m ≤ 1000000) : Calls Tryz.prog 11 #[.int .i64 n, .int .i64 (m : Int)] w fun e w' => e = .returned (.int .i64 ((mo n m : Nat) : Int)) ∧ w = w' := by
  go_enter Tryz.func11, Tryz.ntmps11
  go_wp2
  go_ret
  exact ⟨ret_int (mo_walk n m hm hm2), rfl⟩
theorem ix0 (w : World) : (Instr.index 87 (.agg #[.string ⟨#[97]⟩, .string ⟨#[98]⟩, .string ⟨#[66, 111, 111, 116]⟩, .string ⟨#[120, 49]⟩, .string ⟨#[0, 255]⟩, .string ⟨#[97, 32, 110, 97, 109, 101, 32, 111, 102, 32, 50, 52, 32, 98, 121, 116, 101, 115, 44, 32, 102, 117, 108, 108]⟩]) (.int .i64 0)).run Tryz.prog w = .ok (.string ⟨#[97]⟩) w := by kernel_rfl
theorem ix1 (w : World) : (Instr.index 87 (.agg #[.string ⟨#[97]⟩, .string ⟨#[98]⟩, .string ⟨#[66, 111, 111, 116]⟩, .string ⟨#[120, 49]⟩, .string ⟨#[0, 255]⟩, .string ⟨#[97, 32, 110, 97, 109, 101, 32, 111, 102, 32, 50, 52, 32, 98, 121, 116, 101, 115, 44, 32, 102, 117, 108, 108]⟩]) (.int .i64 1)).run Tryz.prog w = .ok (.string ⟨#[98]⟩) w := by kernel_rfl
theorem ix2 (w : World) : (Instr.index 87 (.agg #[.string ⟨#[97]⟩, .string ⟨#[98]⟩, .string ⟨#[66, 111, 111, 116]⟩, .string ⟨#[120, 49]⟩, .string ⟨#[0, 255]⟩, .string ⟨#[97, 32, 110, 97, 109, 101, 32, 111, 102, 32, 50, 52, 32, 98, 121, 116, 101, 115, 44, 32, 102, 117, 108, 108]⟩]) (.int .i64 2)).run Tryz.prog w = .ok (.string ⟨#[66, 111, 111, 116]⟩) w := by kernel_rfl
theorem ix3 (w : World) : (Instr.index 87 (.agg #[.string ⟨#[97]⟩, .string ⟨#[98]⟩, .string ⟨#[66, 111, 111, 116]⟩, .string ⟨#[120, 49]⟩, .string ⟨#[0, 255]⟩, .string ⟨#[97, 32, 110, 97, 109, 101, 32, 111, 102, 32, 50, 52, 32, 98, 121, 116, 101, 115, 44, 32, 102, 117, 108, 108]⟩]) (.int .i64 3)).run Tryz.prog w = .ok (.string ⟨#[120, 49]⟩) w := by kernel_rfl
theorem ix4 (w : World) : (Instr.index 87 (.agg #[.string ⟨#[97]⟩, .string ⟨#[98]⟩, .string ⟨#[66, 111, 111, 116]⟩, .string ⟨#[120, 49]⟩, .string ⟨#[0, 255]⟩, .string ⟨#[97, 32, 110, 97, 109, 101, 32, 111, 102, 32, 50, 52, 32, 98, 121, 116, 101, 115, 44, 32, 102, 117, 108, 108]⟩]) (.int .i64 4)).run Tryz.prog w = .ok (.string ⟨#[0, 255]⟩) w := by kernel_rfl
theorem ix5 (w : World) : (Instr.index 87 (.agg #[.string ⟨#[97]⟩, .string ⟨#[98]⟩, .string ⟨#[66, 111, 111, 116]⟩, .string ⟨#[120, 49]⟩, .string ⟨#[0, 255]⟩, .string ⟨#[97, 32, 110, 97, 109, 101, 32, 111, 102, 32, 50, 52, 32, 98, 121, 116, 101, 115, 44, 32, 102, 117, 108, 108]⟩]) (.int .i64 5)).run Tryz.prog w = .ok (.string ⟨#[97, 32, 110, 97, 109, 101, 32, 111, 102, 32, 50, 52, 32, 98, 121, 116, 101, 115, 44, 32, 102, 117, 108, 108]⟩) w := by kernel_rfl
def names : List Str := [[97], [98], [66, 111, 111, 116], [120, 49], [0, 255], [97, 32, 110, 97, 109, 101, 32, 111, 102, 32, 50, 52, 32, 98, 121, 116, 101, 115, 44, 32, 102, 117, 108, 108]]
def nameOf (k : Int) : Str := names.getD (mo k 6) []
theorem nameOf_len (k : Int) : 1 ≤ (nameOf k).length ∧ (nameOf k).length ≤ 24 := by
  unfold nameOf
  have h := mo_lt k 6 (by omega)
  generalize mo k 6 = i at *
  rcases (by omega : i = 0 ∨ i = 1 ∨ i = 2 ∨ i = 3 ∨ i = 4 ∨ i = 5) with e | e | e | e | e | e <;> subst e <;> decide
set_option maxRecDepth 100000 in
set_option maxHeartbeats 2000000 in
theorem name_any (k : Int) (w : World) : Calls Tryz.prog 12 #[.int .i64 k] w fun e w' => e = .returned (str (nameOf k)) ∧ w = w' := by
  have HM : Hid (Calls Tryz.prog 11 #[.int .i64 k, .int .i64 6] w fun e w' => e = .returned (.int .i64 ((mo k 6 : Nat) : Int)) ∧ w = w') := mod_any k 6 w (by omega) (by omega)
  have h := mo_lt k 6 (by omega)
  have h0 := ix0 w
  have h1 := ix1 w
  have h2 := ix2 w
  have h3 := ix3 w
  have h4 := ix4 w
  have h5 := ix5 w
  unfold nameOf
  generalize mo k 6 = i at *
  rcases (by omega : i = 0 ∨ i = 1 ∨ i = 2 ∨ i = 3 ∨ i = 4 ∨ i = 5) with e | e | e | e | e | e <;> subst e
  all_goals
    go_enter Tryz.func12, Tryz.ntmps12
    go_wp2_with fail
    refine HM.out.mono ?_
    rintro e w' ⟨rfl, rfl⟩
    go_wp2_with fail
    go_ret
    exact ⟨rfl, rfl⟩
end Go.Proofs.YtfglopkglnpokaaGreat
namespace Go.Proofs.YtfglopkglnpokaaGreat
open Go.RowKit
def valLen (ln : Int) : Nat := if mo ln 11 = 0 then 128 - mo ln 3 else mo ln 40
def valB (ln : Int) (fill : UInt8) (i : Nat) : UInt8 := UInt8.ofNat ((fill.toNat + i * (1 + valLen ln % 3)) % 256)
def valOf (ln : Int) (fill : UInt8) : Str := (List.range (valLen ln)).map (valB ln fill)
theorem valLen_le (ln : Int) : valLen ln ≤ 128 := by
  unfold valLen
  have := mo_lt ln 40 (by omega)
  split <;> omega
theorem valOf_len (ln : Int) (fill : UInt8) : (valOf ln fill).length = valLen ln := by simp [valOf]
set_option maxRecDepth 100000 in
set_option maxHeartbeats 2000000 in
theorem value_any (kd nm ln : Int) (fill : UInt8) (w : World) :
    Calls Tryz.prog 13 #[.agg #[.int .i64 kd, .int .i64 nm, .int .i64 ln, .int .u8 (fill.toNat : Int)]] w fun e w' => e = .returned (str (valOf ln fill)) ∧ Below w.heap.size w w' := by
  obtain ⟨i0, hi0, hx0, hx1, hx2⟩ := info_parts Tryz.infoU
  have HM40 : Hid (∀ w, Calls Tryz.prog 11 #[.int .i64 ln, .int .i64 40] w fun e w' => e = .returned (.int .i64 ((mo ln 40 : Nat) : Int)) ∧ w = w') := fun w => mod_any ln 40 w (by omega) (by omega)
  have HM11 : Hid (∀ w, Calls Tryz.prog 11 #[.int .i64 ln, .int .i64 11] w fun e w' => e = .returned (.int .i64 ((mo ln 11 : Nat) : Int)) ∧ w = w') := fun w => mod_any ln 11 w (by omega) (by omega)
  have HM3 : Hid (∀ w, Calls Tryz.prog 11 #[.int .i64 ln, .int .i64 3] w fun e w' => e = .returned (.int .i64 ((mo ln 3 : Nat) : Int)) ∧ w = w') := fun w => mod_any ln 3 w (by omega) (by omega)
  have hl3 := mo_lt ln 3 (by omega)
  have hl40 := mo_lt ln 40 (by omega)
  have hl11 := mo_lt ln 11 (by omega)
  obtain ⟨vl, hvl⟩ : ∃ vl, valLen ln = vl := ⟨_, rfl⟩
  have HVL := Lib.hid hvl
  have hvle : vl ≤ 128 := by rw [← hvl]; exact valLen_le ln
  unfold valLen at hvl
  have HVE := Lib.hid hvl
  clear hvl
  obtain ⟨m3, hm3⟩ : ∃ m3, mo ln 3 = m3 := ⟨_, rfl⟩
  obtain ⟨m11, hm11⟩ : ∃ m11, mo ln 11 = m11 := ⟨_, rfl⟩
  obtain ⟨m40, hm40⟩ : ∃ m40, mo ln 40 = m40 := ⟨_, rfl⟩
  rw [hm3] at HM3 HVE hl3
  rw [hm11] at HM11 HVE hl11
  rw [hm40] at HM40 HVE hl40
  clear hm3 hm11 hm40
  have R1 : Rg (w.alloc (.cells #[.int .i64 kd, .int .i64 nm, .int .i64 ln, .int .u8 (fill.toNat : Int)] 37)) w.heap.size 37 4 (fun j => if j = 0 then .int .i64 kd else if j = 1 then .int .i64 nm else if j = 2 then .int .i64 ln else .int .u8 (fill.toNat : Int)) :=
    ⟨_, heap_alloc_new w _, fun j hj => by rcases (by omega : j = 0 ∨ j = 1 ∨ j = 2 ∨ j = 3) with e | e | e | e <;> subst e <;> rfl⟩
  have B1 : Below w.heap.size w (w.alloc (.cells #[.int .i64 kd, .int .i64 nm, .int .i64 ln, .int .u8 (fill.toNat : Int)] 37)) := (Below.refl _ _).alloc (Nat.le_refl _) _
  go_enter Tryz.func13, Tryz.ntmps13
  go_wp2_with fail
  obtain ⟨Z, hZ⟩ : ∃ Z, w.heap.size = Z := ⟨_, rfl⟩
  have hZ2 := hZ
  generalize w.alloc (.cells #[.int .i64 kd, .int .i64 nm, .int .i64 ln, .int .u8 (fill.toNat : Int)] 37) = w1 at *
  rw [hZ] at R1
  have c2 := R1.cell (i := 2) (by omega)
  have HR1 := Lib.hid R1
  have HB1 := Lib.hid B1
  clear R1 B1 hZ2
  refine (HM40.out w1).mono ?_
  rintro e w' ⟨rfl, rfl⟩
  rw [hZ]
  go_wp2_with fail
  refine (HM11.out w1).mono ?_
  rintro e w' ⟨rfl, rfl⟩
  go_upto_if 12 with fail
  go_cut [3] (fun x3 wx => x3 = .int .i64 (vl : Int) ∧ wx = w1)
  case first =>
    by_cases h0 : m11 = 0
    · subst h0
      have hv2 : 128 - m3 = vl := by have := HVE.out; rwa [if_pos rfl] at this
      go_wp2_with fail
      refine (HM3.out w1).mono ?_
      rintro e w' ⟨rfl, rfl⟩
      go_wp2_with fail
      go_meet
      exact ⟨by go_num, rfl⟩
    · have hv2 : m40 = vl := by have := HVE.out; rwa [if_neg h0] at this
      have h0d : ((m11 : Int) == 0) = false := by simpa using h0
      go_wp2_with fail
      go_meet
      exact ⟨by rw [hv2], rfl⟩
  case rest =>
    obtain ⟨rfl, rfl⟩ := hcut
    clear HM40 HM11 HM3 HVE c2
    have hmk : (Instr.makeSlice 40 (.int .i64 (vl : Int)) (.int .i64 (vl : Int))).run Tryz.prog wc = .ok (.slice (some ⟨wc.heap.size, 0, none⟩) vl vl) (wc.alloc (.cells (madeCells (Value.int .u8 0).cells vl) 5)) := by
      have := run_make (P := Tryz.prog) wc 40 5 i0 (.int .u8 0) Tryz.underlying40 hi0 hx0 .i64 .i64 (vl : Int) (vl : Int) (by omega) (by omega) (by rw [hx2]; omega) (by omega)
      rw [hx1] at this
      simpa using this
    have R2 : Bt (wc.alloc (.cells (madeCells (Value.int .u8 0).cells vl) 5)) wc.heap.size vl (List.replicate vl 0) := Rg.bt ((Rg.made wc 5 vl (.int .u8 0) rfl).congr fun i hi => by
      rw [List.getD_eq_getElem?_getD, List.getElem?_replicate, if_pos hi]; rfl) (by simp)
    have B2 : Below wc.heap.size wc (wc.alloc (.cells (madeCells (Value.int .u8 0).cells vl) 5)) := (Below.refl _ _).alloc (Nat.le_refl _) _
    obtain ⟨w2, hw2⟩ : ∃ w2, wc.alloc (.cells (madeCells (Value.int .u8 0).cells vl) 5) = w2 := ⟨_, rfl⟩
    obtain ⟨g, hg⟩ : ∃ g, wc.heap.size = g := ⟨_, rfl⟩
    rw [hw2] at R2 B2 hmk
    have HRZ : Hid (Rg w2 Z 37 4 (fun j => if j = 0 then .int .i64 kd else if j = 1 then .int .i64 nm else if j = 2 then .int .i64 ln else .int .u8 (fill.toNat : Int))) := HR1.out.ch (Ch.of_below B2 (fun _ => False)) id
    have hZg : Z < g := by rw [← hg]; exact HR1.out.lt
    have HB2 : Hid (Below Z w w2) := by
      have := HB1.out
      rw [hZ] at this; exact this.trans (B2.mono (by rw [hg]; exact Nat.le_of_lt hZg))
    rw [hg] at R2 hmk
    have HRB : Hid (∃ c : Str, Bt w2 g vl c ∧ ∀ j, j < 0 → c.getD j 0 = valB ln fill j) := ⟨_, R2, fun j hj => absurd hj (Nat.not_lt_zero j)⟩
    clear R2 B2 hw2 hg HB1 HR1
    go_wp2_with fail
    clear hmk
    go_loopw [5] (fun z wr => ∃ i : Nat, i ≤ vl ∧ z = .int .i64 (i : Int) ∧ Hid (∃ c : Str, Bt wr g vl c ∧ ∀ j, j < i → c.getD j 0 = valB ln fill j) ∧ Hid (Rg wr Z 37 4 (fun j => if j = 0 then .int .i64 kd else if j = 1 then .int .i64 nm else if j = 2 then .int .i64 ln else .int .u8 (fill.toNat : Int))) ∧ Hid (Below Z w wr)) (fun z _ => vl - (intOf z).toNat)
    case atStart => exact ⟨0, by omega, rfl, HRB, HRZ, HB2⟩
    case round =>
      clear HRB HRZ HB2
      obtain ⟨i, hi, rfl, HRB, HRZ, HB⟩ := hrel
      by_cases hlt : i < vl
      · have y0 : (i : Int) < vl := by omega
        obtain ⟨c, hbt, hcj⟩ := HRB.out
        have cb := hbt.cell hlt
        have fb := hbt.frozen hlt
        have c3 := HRZ.out.cell (i := 3) (by omega)
        rw [if_neg (by omega), if_neg (by omega), if_neg (by omega)] at c3
        have hfl : fill.toNat < 256 := fill.toNat_lt
        obtain ⟨u, hu⟩ : ∃ u : UInt8, u = valB ln fill i := ⟨_, rfl⟩
        have htb : i * (1 + vl % 3) ≤ 128 * 3 := Nat.mul_le_mul (by omega) (by omega)
        have htc : (i : Int) * (1 + (vl : Int) % 3) = ((i * (1 + vl % 3) : Nat) : Int) := by simp
        have hue : ((fill.toNat : Int) + wrap64 ((i : Int) * (1 + (vl : Int) % 3))) % 256 = (u.toNat : Int) := by
          rw [htc, IntWalk.wrap64_in _ ⟨by omega, by omega⟩, hu]
          unfold valB
          rw [HVL.out, u8_of (by omega)]
          omega
        have HBT := Lib.hid hbt
        have HCJ := Lib.hid hcj
        clear hbt hcj HRB
        have HR2 : Hid (∃ c : Str, Bt (wr.setCell ⟨g, i, none⟩ (.int .u8 (((fill.toNat : Int) + wrap64 ((i : Int) * (1 + (vl : Int) % 3))) % 256))) g vl c ∧ ∀ j, j < i + 1 → c.getD j 0 = valB ln fill j) := by
          rw [hue]
          refine ⟨_, HBT.out.set hlt u, fun j hj => ?_⟩
          have hcl : c.length = vl := by obtain ⟨_, _, _, h1, _⟩ := HBT.out; exact h1
          by_cases e : j = i
          · subst e
            rw [List.getD_eq_getElem?_getD, List.getElem?_set_self (by omega), hu]; rfl
          · rw [List.getD_eq_getElem?_getD, List.getElem?_set_ne (Ne.symm e), ← List.getD_eq_getElem?_getD, HCJ.out j (by omega)]
        have HZ2 : Hid (Rg (wr.setCell ⟨g, i, none⟩ (.int .u8 (((fill.toNat : Int) + wrap64 ((i : Int) * (1 + (vl : Int) % 3))) % 256))) Z 37 4 (fun j => if j = 0 then .int .i64 kd else if j = 1 then .int .i64 nm else if j = 2 then .int .i64 ln else .int .u8 (fill.toNat : Int))) := HRZ.out.far (p := ⟨g, i, none⟩) (by show g ≠ Z; omega) _
        have HB2 : Hid (Below Z w (wr.setCell ⟨g, i, none⟩ (.int .u8 (((fill.toNat : Int) + wrap64 ((i : Int) * (1 + (vl : Int) % 3))) % 256)))) := HB.out.setCell (p := ⟨g, i, none⟩) (by show Z ≤ g; omega) _
        clear hue htc htb hu HBT HCJ HRZ HB hfl
        go_wp2_with fail
        exact ⟨⟨i + 1, by omega, by go_num, HR2, HZ2, HB2⟩, by simp [intOf]; omega⟩
      · have ei : i = vl := by omega
        obtain ⟨c, hbt, hcj⟩ := HRB.out
        have hcl : c.length = vl := by obtain ⟨_, _, _, h1, _⟩ := hbt; exact h1
        have hce : c = valOf ln fill := by
          apply List.ext_getElem
          · rw [valOf_len, HVL.out, hcl]
          · intro j h1 h2
            have := hcj j (by omega)
            rw [List.getD_eq_getElem?_getD, List.getElem?_eq_getElem h1] at this
            simp only [Option.getD_some] at this
            rw [this]
            have h3 : (valOf ln fill)[j]? = some (valB ln fill j) := by
              unfold valOf
              rw [List.getElem?_map, List.getElem?_range (by rw [HVL.out]; omega)]
              rfl
            rw [List.getElem?_eq_getElem h2] at h3
            exact (Option.some.inj h3).symm
        have hcs := hbt.str vl
        rw [hce] at hcs
        have HBF := Lib.hid HB.out
        clear hbt hcj HRB hce HRZ HB
        go_wp2_with fail
        go_ret
        exact ⟨rfl, by rw [hZ]; exact HBF.out⟩
end Go.Proofs.YtfglopkglnpokaaGreat
namespace Go.Proofs.YtfglopkglnpokaaGreat
open Go.RowKit
theorem Left.after {w w1 w' : World} {D DS : Nat → Prop} {S X n : Nat} {y : FLay} {r : Int × FL × ST} (b : Below w.heap.size w w1) (h : Left w1 w' D DS S X n y r) : Left w w' D DS S X n y r := by
  obtain ⟨h1, h2, D', m', h3, h4⟩ := h
  exact ⟨h1, (Ch.of_below b _).trans h2, D', m', fun i hi => (h3 i hi).imp id (fun h => Nat.le_trans b.size h), h4⟩
theorem Row.loadC {w : World} {B : Nat} {v : Nat → Value} (h : Row w B 37 4 v) : (loadVar 37 ⟨B, 0, none⟩).run Tryz.prog w = .ok (.agg #[v 0, v 1, v 2, v 3]) w :=
  run_loadVar_row w B 37 _ _ (0, 0) _ h.arr4 Tryz.underlying37 rfl (by kernel_rfl)
def doF (fl : FL) (st : ST) (kd nm ln : Int) (fill : UInt8) : Int × FL × ST :=
  if mo kd 8 = 5 ∨ mo kd 8 = 6 then delF fl st (nameOf nm) else setF fl st (nameOf nm) (valOf ln fill)
section
variable {w : World} {D DS : Nat → Prop} {S X m n : Nat} {st : ST} {y : FLay} {fl : FL}
set_option maxRecDepth 100000 in
set_option maxHeartbeats 2000000 in
theorem do_any (hs : SW w DS S X m n st) (h : FW w D X y fl) (hdis : ∀ k, D k → ¬ DS k) (hb : st.blk < fl.B) (hn : n < 1000) (kd nm ln : Int) (fill : UInt8) :
    Calls Tryz.prog 28 #[fptr S, .agg #[.int .i64 kd, .int .i64 nm, .int .i64 ln, .int .u8 (fill.toNat : Int)]] w fun e w' => e = .returned (.int .i64 (doF fl st kd nm ln fill).1) ∧ Left w w' D DS S X n y (doF fl st kd nm ln fill) := by
  have H := Lib.hid h
  have HS := Lib.hid hs
  clear h hs
  have HM8 : Hid (∀ w, Calls Tryz.prog 11 #[.int .i64 kd, .int .i64 8] w fun e w' => e = .returned (.int .i64 ((mo kd 8 : Nat) : Int)) ∧ w = w') := fun w => mod_any kd 8 w (by omega) (by omega)
  have hl8 := mo_lt kd 8 (by omega)
  obtain ⟨ne, hne⟩ : ∃ s : ByteArray, s = ⟨(nameOf nm).toArray⟩ := ⟨_, rfl⟩
  have hnl : ne.data.toList = nameOf nm := by rw [hne]
  have HNM : Hid (∀ w, Calls Tryz.prog 12 #[.int .i64 nm] w fun e w' => e = .returned (.string ne) ∧ w = w') := fun w => by rw [hne]; exact name_any nm w
  have hnz : ne.size ≤ 24 := by rw [bsz, hnl]; exact (nameOf_len nm).2
  have HNL := Lib.hid hnl
  clear hne hnl
  have R1 : Row (w.alloc (.cells #[.int .i64 kd, .int .i64 nm, .int .i64 ln, .int .u8 (fill.toNat : Int)] 37)) w.heap.size 37 4 (fun j => if j = 0 then .int .i64 kd else if j = 1 then .int .i64 nm else if j = 2 then .int .i64 ln else .int .u8 (fill.toNat : Int)) :=
    Row.ofList w _ _ _ 4 rfl
  have B1 : Below w.heap.size w (w.alloc (.cells #[.int .i64 kd, .int .i64 nm, .int .i64 ln, .int .u8 (fill.toNat : Int)] 37)) := (Below.refl _ _).alloc (Nat.le_refl _) _
  obtain ⟨k8, hk8⟩ : ∃ k8, mo kd 8 = k8 := ⟨_, rfl⟩
  rw [hk8] at HM8 hl8
  by_cases hd : k8 = 5 ∨ k8 = 6
  · have HE : Hid (doF fl st kd nm ln fill = delF fl st ne.data.toList) := by show _ = _; unfold doF; rw [hk8, if_pos hd, HNL.out]
    have hcase : ((k8 : Int) == 5) = true ∨ ((k8 : Int) == 5) = false ∧ ((k8 : Int) == 6) = true := by
      rcases hd with e | e <;> subst e <;> simp
    clear hk8
    go_enter Tryz.func28, Tryz.ntmps28
    go_wp2_with fail
    have HDL := Lib.hid (delete_any (HS.out.below B1) (H.out.below B1) hdis hb hn (ke := ne) (by omega))
    have c1 := R1.cell (i := 1) (by omega)
    have HB1 := Lib.hid B1
    clear R1 B1
    refine (HM8.out _).mono ?_
    rintro e w' ⟨rfl, rfl⟩
    rcases hd with e | e <;> subst e
    all_goals
      go_wp2_with fail
      refine (HNM.out _).mono ?_
      rintro e w' ⟨rfl, rfl⟩
      go_wp2_with fail
      refine HDL.out.mono ?_
      rintro e w5 ⟨rfl, hl⟩
      have HL := Lib.hid (Left.after HB1.out hl)
      clear hl HDL
      go_wp2_with fail
      go_ret
      rw [HE.out]
      exact ⟨rfl, HL.out⟩
  · have h5 : ¬ k8 = 5 := fun e => hd (.inl e)
    have h6 : ¬ k8 = 6 := fun e => hd (.inr e)
    have d5 : ((k8 : Int) == 5) = false := by rw [beq_eq_false_iff_ne]; omega
    have d6 : ((k8 : Int) == 6) = false := by rw [beq_eq_false_iff_ne]; omega
    have i5 : ¬ (k8 : Int) = 5 := by omega
    have i6 : ¬ (k8 : Int) = 6 := by omega
    obtain ⟨ve, hve⟩ : ∃ s : ByteArray, s = ⟨(valOf ln fill).toArray⟩ := ⟨_, rfl⟩
    have hvl : ve.data.toList = valOf ln fill := by rw [hve]
    have hvz : ve.size ≤ 128 := by rw [bsz, hvl, valOf_len]; exact valLen_le ln
    have HVA : Hid (∀ w, Calls Tryz.prog 13 #[.agg #[.int .i64 kd, .int .i64 nm, .int .i64 ln, .int .u8 (fill.toNat : Int)]] w fun e w' => e = .returned (.string ve) ∧ Below w.heap.size w w') := fun w => by rw [hve]; exact value_any kd nm ln fill w
    have HE : Hid (doF fl st kd nm ln fill = setF fl st ne.data.toList ve.data.toList) := by show _ = _; unfold doF; rw [hk8, if_neg hd, HNL.out, hvl]
    clear hk8 hve hvl hd
    go_enter Tryz.func28, Tryz.ntmps28
    go_wp2_with fail
    have c1 := R1.cell (i := 1) (by omega)
    obtain ⟨Z, hZ⟩ : ∃ Z, w.heap.size = Z := ⟨_, rfl⟩
    have HB1 := Lib.hid B1
    clear B1
    generalize w.alloc (.cells #[.int .i64 kd, .int .i64 nm, .int .i64 ln, .int .u8 (fill.toNat : Int)] 37) = w1 at *
    rw [hZ] at R1 c1
    have HR1 : Hid (Row w1.drew Z 37 4 (fun j => if j = 0 then .int .i64 kd else if j = 1 then .int .i64 nm else if j = 2 then .int .i64 ln else .int .u8 (fill.toNat : Int))) := R1.ch ((Ch.refl (fun _ => False) w1).drew) id
    have HBD : Hid (Below w.heap.size w w1.drew) := HB1.out.drew
    clear R1
    refine (HM8.out _).mono ?_
    rintro e w' ⟨rfl, rfl⟩
    rw [hZ]
    go_wp2_with fail
    refine wp_region_pl (fun Y => Row Y Z 37 4 (fun j => if j = 0 then .int .i64 kd else if j = 1 then .int .i64 nm else if j = 2 then .int .i64 ln else .int .u8 (fill.toNat : Int))) ((0, 0) :: (1, 0) :: (2, 0) :: (3, 0) :: (4, 0) :: (5, 1) :: (6, 1) :: (7, 0) :: []) (by kernel_rfl) (by kernel_rfl) ?_
    iterate 3 (apply wpP_go; (focus rfl); (focus rfl); (focus exact HR1.out); (focus (intro Y s0; have c1 := s0.cell (i := 1) (by omega); go_simp; exact rfl)); intro K hK; go_simp; refine hK _ ?_; clear hK K)
    apply wpP_call
    focus rfl
    focus rfl
    focus exact HR1.out
    focus (intro Y s0; go_simp; exact ⟨rfl, rfl⟩)
    focus (intro Y s0; exact HNM.out Y)
    intro K hK
    go_simp
    refine hK _ ?_
    clear hK K
    iterate 1 (apply wpP_go; (focus rfl); (focus rfl); (focus exact HR1.out); (focus (intro Y s0; have q0 := s0.cell (i := 0) (by omega); have q1 := s0.cell (i := 1) (by omega); have q2 := s0.cell (i := 2) (by omega); have q3 := s0.cell (i := 3) (by omega); go_simp; exact rfl)); intro K hK; go_simp; refine hK _ ?_; clear hK K)
    apply wpP_one
    focus rfl
    intro K hK
    go_simp
    refine (HVA.out _).mono ?_
    rintro e V1 ⟨rfl, b1⟩
    have HR2 : Hid (Row V1 Z 37 4 (fun j => if j = 0 then .int .i64 kd else if j = 1 then .int .i64 nm else if j = 2 then .int .i64 ln else .int .u8 (fill.toNat : Int))) := HR1.out.ch (Ch.of_below b1 (fun _ => False)) id
    have HB2 : Hid (Below w.heap.size w V1) := HBD.out.trans (b1.mono HBD.out.size)
    have HST := Lib.hid (set_any (HS.out.below HB2.out) (H.out.below HB2.out) hdis hb hn (ke := ne) (ve := ve) (by omega) (by omega))
    refine hK _ _ HR2.out ?_
    clear hK K b1 HR1 HBD
    apply wpP_one
    focus rfl
    intro K hK
    go_simp
    refine HST.out.mono ?_
    rintro e V2 ⟨rfl, hl⟩
    have hc : Ch (fun k => D k ∨ DS k) V1 V2 := by obtain ⟨_, l2, _⟩ := hl; exact l2
    have HL := Lib.hid (Left.after HB2.out hl)
    have HR3 : Hid (Row V2 Z 37 4 (fun j => if j = 0 then .int .i64 kd else if j = 1 then .int .i64 nm else if j = 2 then .int .i64 ln else .int .u8 (fill.toNat : Int))) := HR2.out.ch hc (fun hq => hq.elim (fun hq => by have := H.out.fin Z hq; omega) (fun hq => by have := HS.out.fin Z hq; omega))
    refine hK _ _ HR3.out ?_
    clear hK K hl hc
    iterate 1 (apply wpP_go; (focus rfl); (focus rfl); (focus exact HR3.out); (focus (intro Y s0; go_simp; exact rfl)); intro K hK; go_simp; refine hK _ ?_; clear hK K)
    refine wpP_done ?_
    clear HR3 HR2 HST
    go_wp2_with fail
    go_ret
    rw [HE.out]
    exact ⟨rfl, HL.out⟩
end
end Go.Proofs.YtfglopkglnpokaaGreat
