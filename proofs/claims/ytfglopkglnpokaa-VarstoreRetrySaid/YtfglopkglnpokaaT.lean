/- change. Condition: the record's block is a block; sizes. -/
import Derived.Test.YtfglopkglnpokaaS
namespace Go.Proofs.Ytfglopkglnpokaa
open Go.RowKit
def chgV (V : Vars) (k : Nat) (n v : Str) : Vars := if k = 1 then setV V n v else delV V n
def chgF (fl : FL) (st : ST) (k : Nat) (n v : Str) : Int × FL × ST :=
  if fl.off = true then (16, fl, st) else
  if st.clo = true ∨ fl.P < st.nxt + pgs (recd k n v).length then cmpF fl st (chgV st.V k n v) else
  if (wrL fl st.blk st.nxt (pagesR (recd k n v))).1 ≠ 0 then ((wrL fl st.blk st.nxt (pagesR (recd k n v))).1, (wrL fl st.blk st.nxt (pagesR (recd k n v))).2, st)
  else (0, (wrL fl st.blk st.nxt (pagesR (recd k n v))).2, ⟨chgV st.V k n v, st.blk, st.gen, st.nxt + pgs (recd k n v).length, st.clo⟩)
/-- What a call of the store leaves. -/
def Left (w w' : World) (D DS : Nat → Prop) (S X n : Nat) (y : FLay) (r : Int × FL × ST) : Prop :=
  FW w' D X y r.2.1 ∧ Ch (fun k => D k ∨ DS k) w w' ∧ ∃ D' m', (∀ i, D' i → DS i ∨ w.heap.size ≤ i) ∧ SW w' D' S X m' (n + 1) r.2.2
section
variable {w w' : World} {D DS : Nat → Prop} {S X m n : Nat} {st : ST} {y : FLay} {fl f : FL} {k : Nat} {nm v : Str} {e : Int} {np : Nat}
theorem chg1 (ho : fl.off = true) : chgF fl st k nm v = (16, fl, st) := by unfold chgF; rw [if_pos ho]
theorem chg2 (ho : fl.off = false) (h : st.clo = true ∨ fl.P < st.nxt + pgs (recd k nm v).length) : chgF fl st k nm v = cmpF fl st (chgV st.V k nm v) := by
  unfold chgF; rw [if_neg (by simp [ho]), if_pos h]
theorem chg3 (ho : fl.off = false) (h : ¬ (st.clo = true ∨ fl.P < st.nxt + pgs (recd k nm v).length)) (hw : wrL fl st.blk st.nxt (pagesR (recd k nm v)) = (e, f)) (he : e ≠ 0) : chgF fl st k nm v = (e, f, st) := by
  unfold chgF; rw [if_neg (by simp [ho]), if_neg h, hw, if_pos he]
theorem chg4 (ho : fl.off = false) (h : ¬ (st.clo = true ∨ fl.P < st.nxt + pgs (recd k nm v).length)) (hw : wrL fl st.blk st.nxt (pagesR (recd k nm v)) = (0, f)) : chgF fl st k nm v = (0, f, ⟨chgV st.V k nm v, st.blk, st.gen, st.nxt + pgs (recd k nm v).length, st.clo⟩) := by
  unfold chgF; rw [if_neg (by simp [ho]), if_neg h, hw, if_neg (by simp)]
theorem Left.same {r : Int × FL × ST} (hc : r = (e, f, st)) (hf : FW w' D X y f) (c : Ch D w w') (hs : SW w DS S X m n st) (hdis : ∀ k, D k → ¬ DS k) : Left w w' D DS S X n y r := by
  subst hc
  exact ⟨hf, c.mono fun i h _ => .inl h, DS, m, fun i h => .inl h, (hs.ch c fun k h1 h2 => hdis k h2 h1).mono (Nat.le_succ _)⟩
theorem chgV_srt {V : Vars} (h : Srt V) (k : Nat) (n v : Str) : Srt (chgV V k n v) := by
  unfold chgV; split
  · exact h.set _ _
  · exact h.del _
theorem chgV_hv {V : Vars} {k : Nat} {n v : Str} (h : ∀ p ∈ V, p.1.length ≤ 24 ∧ p.2.length ≤ 128) (hn : n.length ≤ 24) (hv : v.length ≤ 128) : ∀ p ∈ chgV V k n v, p.1.length ≤ 24 ∧ p.2.length ≤ 128 := by
  unfold chgV; split
  · intro p hp
    rcases mem_setV hp with e | e
    · rw [e]; exact ⟨hn, hv⟩
    · exact h p e
  · intro p hp
    exact h p (List.mem_filter.1 hp).1
set_option maxRecDepth 100000 in
set_option maxHeartbeats 2000000 in
theorem change_any (hs : SW w DS S X m n st) (h : FW w D X y fl) (hdis : ∀ k, D k → ¬ DS k) (hb : st.blk < fl.B) (hn : n < 1000) (hk : k = 1 ∨ k = 2) {ke ve : ByteArray} (hke : ke.size ≤ 24) (hve : ve.size ≤ 128) :
    Calls Try.prog 50 #[fptr S, .int .i64 (k : Int), .string ke, .string ve] w fun e w' => e = .returned (.int .i64 (chgF fl st k ke.data.toList ve.data.toList).1) ∧ Left w w' D DS S X n y (chgF fl st k ke.data.toList ve.data.toList) := by
  have H := Lib.hid h
  have HS := Lib.hid hs
  have hP := h.hP
  have hB := h.hB
  have hnx := hs.hn
  have hg := hs.hg
  have HHV := Lib.hid (chgV_hv (k := k) (n := ke.data.toList) (v := ve.data.toList) hs.hv hke hve)
  have HSR := Lib.hid (chgV_srt hs.srt k ke.data.toList ve.data.toList)
  obtain ⟨blk, hblk⟩ : ∃ blk, st.blk = blk := ⟨_, rfl⟩
  obtain ⟨nxt, hnxt⟩ : ∃ nxt, st.nxt = nxt := ⟨_, rfl⟩
  obtain ⟨clo, hclo⟩ : ∃ clo, st.clo = clo := ⟨_, rfl⟩
  have hcc := hs.c2
  have S1 : Hid (w.drew.cell? ⟨S, 0, none⟩ = some (fptr X) ∧ w.drew.cell? ⟨S, 2, none⟩ = some (.int .i64 blk) ∧ FW w.drew D X y fl) := ⟨hs.c0, by rw [← hblk]; exact hs.c2, h.drew⟩
  rw [hblk] at hb
  rw [hnxt] at hnx
  have HBL := Lib.hid hblk
  have HNX := Lib.hid hnxt
  have HCL := Lib.hid hclo
  clear h hs hblk hnxt hclo hcc
  have HB1 : Hid (Ch D w w.drew) := (Ch.refl D w).drew
  cases ho : fl.off
  · have hrd : readF fl blk 0 = (fl.pg blk 0, 0) := by unfold readF; rw [ho]; rfl
    go_enter Try.func50, Try.ntmps50
    go_wp2_with fail
    refine wp_region_pl (fun Y => Y.cell? ⟨S, 0, none⟩ = some (fptr X) ∧ Y.cell? ⟨S, 2, none⟩ = some (.int .i64 blk) ∧ FW Y D X y fl) ((0, 0) :: (1, 0) :: (2, 0) :: (3, 0) :: (4, 0) :: (5, 0) :: (6, 0) :: (7, 0) :: (8, 0) :: (9, 0) :: (10, 0) :: (11, 0) :: (12, 0) :: (13, 0) :: []) (by kernel_rfl) (by kernel_rfl) ?_
    iterate 8 (apply wpP_go; (focus rfl); (focus rfl); (focus exact S1.out); (focus (rintro Z ⟨s0, s1, s2⟩; go_simp; exact rfl)); intro K hK; go_simp; refine hK _ ?_; clear hK K)
    apply wpP_call
    focus rfl
    focus rfl
    focus exact S1.out
    focus (rintro Z ⟨s0, s1, s2⟩; go_simp; exact ⟨rfl, rfl⟩)
    focus (rintro Z ⟨s0, s1, s2⟩; have := read_any (p := 0) s2 hb (by omega); rw [hrd] at this; exact this)
    intro K hK
    go_simp
    refine hK _ ?_
    clear hK K
    iterate 5 (apply wpP_go; (focus rfl); (focus rfl); (focus exact S1.out); (focus (rintro Z ⟨s0, s1, s2⟩; go_simp; exact rfl)); intro K hK; go_simp; refine hK _ ?_; clear hK K)
    refine wpP_done ?_
    have hsd := HS.out.ch HB1.out fun k h1 h2 => hdis k h2 h1
    have c1 := hsd.c1
    have HCLN := Lib.hid hsd.map.clone
    obtain ⟨g, hg'⟩ : ∃ g, w.drew.heap.size = g := ⟨_, rfl⟩
    have hgw : w.heap.size ≤ g := by rw [← hg']; exact HB1.out.size
    rw [hg'] at HCLN
    have HBD : Hid (Below w.heap.size w w.drew) := (Below.refl _ _).drew
    clear hsd S1 hg'
    go_wp2_with fail
    refine HCLN.out.mono ?_
    rintro e w1 ⟨rfl, hm1, b1⟩
    have HM1 := Lib.hid hm1
    have HB1' : Hid (Below w.heap.size w w1) := HBD.out.trans (b1.mono hgw)
    clear hm1 b1 HCLN HBD HB1 c1 hrd
    go_upto_if 35 with fail
    go_cut [11] (fun x11 wx => x11 = .map (some g) ∧ Hid (SM wx g (n + 1) (chgV st.V k ke.data.toList ve.data.toList)) ∧ Hid (Below w.heap.size w wx))
    case first =>
      rcases hk with rfl | rfl
      · obtain ⟨w2, hru, hm2, c2⟩ := HM1.out.store (by omega) (s := ke) (by unfold maxLen; omega) ve
        have HM2 := Lib.hid hm2
        have HC2 := Lib.hid c2
        clear hm2 c2
        go_wp2_with fail
        go_meet
        exact ⟨rfl, HM2.out, HB1'.out.trans (HC2.out.below HB1'.out.size (fun i e => by rw [e]; exact hgw))⟩
      · obtain ⟨w2, hru, hm2, c2⟩ := HM1.out.drop (s := ke) (by unfold maxLen; omega) 0
        have HM2 := Lib.hid hm2
        have HC2 := Lib.hid c2
        clear hm2 c2
        go_wp2_with fail
        go_meet
        exact ⟨rfl, HM2.out.mono (by omega), HB1'.out.trans (HC2.out.below HB1'.out.size (fun i e => by rw [e]; exact hgw))⟩
    case rest =>
      obtain ⟨rfl, HM2, HB2⟩ := hcut
      clear HM1 HB1'
      have HEN := Lib.hid (encode_any k ke ve wc (by omega) (by omega) (by omega))
      obtain ⟨re, hre⟩ : ∃ s : ByteArray, s = ⟨(recd k ke.data.toList ve.data.toList).toArray⟩ := ⟨_, rfl⟩
      rw [← hre] at HEN
      have hrl : re.data.toList = recd k ke.data.toList ve.data.toList := by rw [hre]
      have hrs : re.size = (recd k ke.data.toList ve.data.toList).length := by rw [← hrl]; rfl
      have hrz : re.size ≤ 157 := by
        have h1 : ke.data.toList.length = ke.size := rfl
        have h2 : ve.data.toList.length = ve.size := rfl
        rw [hrs, recd_len]; omega
      have HRL := Lib.hid hrl
      have HRS := Lib.hid hrs
      clear hre hrl hrs
      go_wp2_with fail
      refine HEN.out.mono ?_
      rintro e w3 ⟨rfl, b3⟩
      have HB3 : Hid (Below w.heap.size w w3) := HB2.out.trans (b3.mono HB2.out.size)
      have HM3 : Hid (SM w3 g (n + 1) (chgV st.V k ke.data.toList ve.data.toList)) := HM2.out.ch (Ch.of_below b3 (fun _ => False)) id
      clear HB2 HM2 b3 HEN
      have hs3 := HS.out.below HB3.out
      have S9 : Hid (w3.drew.cell? ⟨S, 0, none⟩ = some (fptr X) ∧ w3.drew.cell? ⟨S, 4, none⟩ = some (.int .i64 nxt) ∧ w3.drew.cell? ⟨S, 5, none⟩ = some (.bool clo) ∧ FW w3.drew D X y fl) := ⟨hs3.c0, by rw [← HNX.out]; exact hs3.c4, by rw [← HCL.out]; exact hs3.c5, (H.out.below HB3.out).drew⟩
      have HBd : Hid (Below w.heap.size w w3.drew) := HB3.out.drew
      have HMd : Hid (SM w3.drew g (n + 1) (chgV st.V k ke.data.toList ve.data.toList)) := HM3.out.ch ((Ch.refl (fun _ => False) w3).drew) id
      clear hs3 HB3 HM3
      obtain ⟨np, hnp⟩ : ∃ np, pgs re.size = np := ⟨_, rfl⟩
      have hpgl : np ≤ 5 := by rw [← hnp]; unfold pgs; omega
      have HNP := Lib.hid hnp
      have HPO : Hid (∀ Z, Calls Try.prog 55 #[.int .i64 (re.size : Int)] Z fun e w' => e = .returned (.int .i64 (np : Int)) ∧ Z = w') := fun Z => by rw [← hnp]; exact pagesOf_any re.size Z (by omega)
      have hwi : IntKind.i64.wrap ((nxt : Int) + (np : Int)) = (nxt : Int) + (np : Int) := IntWalk.i64_in _ ⟨by omega, by omega⟩
      clear hnp
      go_upto_region 9 with fail
      go_cut [65] (fun x65 wx => ∃ bb : Bool, x65 = .bool bb ∧ Hid (bb = (clo || decide (fl.P < nxt + np))) ∧ Hid (SM wx g (n + 1) (chgV st.V k ke.data.toList ve.data.toList)) ∧ Hid (Below w.heap.size w wx))
      case first =>
        cases clo
        · refine wp_region_pl (fun Y => Y.cell? ⟨S, 0, none⟩ = some (fptr X) ∧ Y.cell? ⟨S, 4, none⟩ = some (.int .i64 nxt) ∧ Y.cell? ⟨S, 5, none⟩ = some (.bool false) ∧ FW Y D X y fl) ((0, 0) :: (1, 0) :: (2, 0) :: (3, 0) :: (4, 0) :: (5, 0) :: (6, 0) :: (7, 0) :: (8, 0) :: (9, 0) :: (10, 0) :: (11, 0) :: (12, 0) :: (13, 0) :: (14, 0) :: (15, 0) :: (16, 0) :: (17, 1) :: (18, 0) :: (19, 0) :: (20, 0) :: []) (by kernel_rfl) (by kernel_rfl) ?_
          iterate 11 (apply wpP_go; (focus rfl); (focus rfl); (focus exact S9.out); (focus (rintro Z ⟨s0, s1, s2, s3⟩; go_simp; exact rfl)); intro K hK; go_simp; refine hK _ ?_; clear hK K)
          apply wpP_call
          focus rfl
          focus rfl
          focus exact S9.out
          focus (rintro Z ⟨s0, s1, s2, s3⟩; go_simp; exact ⟨rfl, rfl⟩)
          focus (rintro Z ⟨s0, s1, s2, s3⟩; exact HPO.out Z)
          intro K hK
          go_simp
          refine hK _ ?_
          clear hK K
          iterate 5 (apply wpP_go; (focus rfl); (focus rfl); (focus exact S9.out); (focus (rintro Z ⟨s0, s1, s2, s3⟩; go_simp; exact rfl)); intro K hK; go_simp; refine hK _ ?_; clear hK K)
          apply wpP_one
          focus rfl
          intro K hK
          go_simp
          refine (shape_any S9.out.2.2.2).mono ?_
          rintro e V1 ⟨rfl, b1⟩
          have S9' : Hid (V1.cell? ⟨S, 0, none⟩ = some (fptr X) ∧ V1.cell? ⟨S, 4, none⟩ = some (.int .i64 nxt) ∧ V1.cell? ⟨S, 5, none⟩ = some (.bool false) ∧ FW V1 D X y fl) := ⟨cell_later b1 S9.out.1, cell_later b1 S9.out.2.1, cell_later b1 S9.out.2.2.1, S9.out.2.2.2.below b1⟩
          refine hK _ _ S9'.out ?_
          clear hK K
          have HM4 : Hid (SM V1 g (n + 1) (chgV st.V k ke.data.toList ve.data.toList)) := HMd.out.ch (Ch.of_below b1 (fun _ => False)) id
          have HB4 : Hid (Below w.heap.size w V1) := HBd.out.trans (b1.mono HBd.out.size)
          clear S9 HMd HBd b1
          iterate 1 (apply wpP_go; (focus rfl); (focus rfl); (focus exact S9'.out); (focus (rintro Z ⟨s0, s1, s2, s3⟩; have hfp := field_P (.int .i64 fl.B) (.int .i64 fl.P) (.int .i64 fl.E) Z; go_simp; exact rfl)); intro K hK; go_simp; refine hK _ ?_; clear hK K)
          by_cases hfl : fl.P < nxt + np
          · have hflI : (fl.P : Int) < (nxt : Int) + np := by omega
            iterate 2 (apply wpP_go; (focus rfl); (focus rfl); (focus exact S9'.out); (focus (rintro Z ⟨s0, s1, s2, s3⟩; go_simp; exact rfl)); intro K hK; go_simp; refine hK _ ?_; clear hK K)
            refine wpP_done ?_
            clear S9'
            go_wp2_with fail
            go_meet
            exact ⟨_, rfl, (by show _ = (false || _); simp [hfl]), HM4.out, HB4.out⟩
          · have hflI : ¬ (fl.P : Int) < (nxt : Int) + np := by omega
            iterate 2 (apply wpP_go; (focus rfl); (focus rfl); (focus exact S9'.out); (focus (rintro Z ⟨s0, s1, s2, s3⟩; go_simp; exact rfl)); intro K hK; go_simp; refine hK _ ?_; clear hK K)
            refine wpP_done ?_
            clear S9'
            go_wp2_with fail
            go_meet
            exact ⟨_, rfl, (by show _ = (false || _); simp [hfl]), HM4.out, HB4.out⟩
        · refine wp_region_pl (fun Y => Y.cell? ⟨S, 0, none⟩ = some (fptr X) ∧ Y.cell? ⟨S, 4, none⟩ = some (.int .i64 nxt) ∧ Y.cell? ⟨S, 5, none⟩ = some (.bool true) ∧ FW Y D X y fl) ((0, 0) :: (1, 0) :: (2, 0) :: (3, 0) :: (4, 0) :: (5, 0) :: (6, 0) :: (7, 0) :: (8, 0) :: (9, 0) :: (10, 0) :: (11, 0) :: (12, 0) :: (13, 0) :: (14, 0) :: (15, 0) :: (16, 0) :: (17, 0) :: (18, 0) :: (19, 0) :: (20, 0) :: []) (by kernel_rfl) (by kernel_rfl) ?_
          iterate 5 (apply wpP_go; (focus rfl); (focus rfl); (focus exact S9.out); (focus (rintro Z ⟨s0, s1, s2, s3⟩; go_simp; exact rfl)); intro K hK; go_simp; refine hK _ ?_; clear hK K)
          iterate 15 (apply wpP_not; (focus rfl); (focus rfl); (focus exact S9.out); intro K hK; go_simp; refine hK _ ?_; clear hK K)
          iterate 1 (apply wpP_go; (focus rfl); (focus rfl); (focus exact S9.out); (focus (rintro Z ⟨s0, s1, s2, s3⟩; go_simp; exact rfl)); intro K hK; go_simp; refine hK _ ?_; clear hK K)
          refine wpP_done ?_
          go_wp2_with fail
          go_meet
          exact ⟨_, rfl, (by show _ = (true || _); simp), HMd.out, HBd.out⟩
      case rest =>
        clear S9 HMd HBd
        obtain ⟨bb, rfl, HBB, HM4, HB4⟩ := hcut
        have HDg : Hid (¬ D g ∧ ¬ DS g) := ⟨fun h => by have := H.out.fin g h; omega, fun h => by have := HS.out.fin g h; omega⟩
        have HF4 := Lib.hid (H.out.below HB4.out)
        have HS4 := Lib.hid (HS.out.below HB4.out)
        by_cases hfull : clo = true ∨ fl.P < nxt + np
        · have hfb : bb = true := by rw [HBB.out]; simpa using hfull
          subst hfb
          have HE := Lib.hid (chg2 (st := st) (k := k) (nm := ke.data.toList) (v := ve.data.toList) ho (by rw [HCL.out, HNX.out, ← HRS.out, HNP.out]; exact hfull))
          have HCM := Lib.hid (compact_any HS4.out HF4.out ho hdis HM4.out (by omega) HSR.out HHV.out HDg.out.1 HDg.out.2)
          clear hfull
          go_wp2_with fail
          refine HCM.out.mono ?_
          rintro e w5 ⟨rfl, h5, c5, s5⟩
          have HF5 := Lib.hid h5
          have HC5 := Lib.hid c5
          have HS5 := Lib.hid s5
          clear h5 c5 s5 HCM
          go_wp2_with fail
          go_ret
          rw [HE.out]
          exact ⟨rfl, HF5.out, (Ch.of_below HB4.out _).trans HC5.out, fun k => DS k ∨ k = g, _, (fun i h => h.elim .inl (fun e => .inr (by rw [e]; exact hgw))), by have := HS5.out; rw [Nat.max_eq_right (Nat.le_succ n)] at this; exact this⟩
        · have hfb : bb = false := by rw [HBB.out]; simpa using hfull
          subst hfb
          have hroom : nxt + np ≤ fl.P := by omega
          have HNF : Hid (¬ (st.clo = true ∨ fl.P < st.nxt + pgs (recd k ke.data.toList ve.data.toList).length)) := by show ¬ _; rw [HCL.out, HNX.out, ← HRS.out, HNP.out]; exact hfull
          have S11 : Hid (wc.drew.cell? ⟨S, 0, none⟩ = some (fptr X) ∧ wc.drew.cell? ⟨S, 2, none⟩ = some (.int .i64 blk) ∧ wc.drew.cell? ⟨S, 4, none⟩ = some (.int .i64 nxt)) := ⟨HS4.out.c0, by rw [← HBL.out]; exact HS4.out.c2, by rw [← HNX.out]; exact HS4.out.c4⟩
          have HC4 : Hid (Ch D w wc.drew) := (Ch.of_below HB4.out D).drew
          have HFd := Lib.hid HF4.out.drew
          have HMd : Hid (SM wc.drew g (n + 1) (chgV st.V k ke.data.toList ve.data.toList)) := HM4.out.ch ((Ch.refl (fun _ => False) wc).drew) id
          obtain ⟨e3, f3, he3⟩ : ∃ e f', wrL fl blk nxt (pagesR re.data.toList) = (e, f') := ⟨_, _, rfl⟩
          have HWR : Hid (Calls Try.prog 47 #[fptr X, .int .i64 blk, .int .i64 nxt, .string re] wc.drew fun e w' => e = .returned (.int .i64 e3) ∧ FW w' D X y f3 ∧ Ch D wc.drew w') := by
            have := write_any HFd.out (b := blk) (p := nxt) (d := re) hb (by omega) (by rw [HNP.out]; exact hroom)
            rw [he3] at this
            exact this
          rw [HRL.out] at he3
          have HE3 := Lib.hid he3
          have hDS : ¬ D S := fun h => hdis _ h HS.out.dS
          clear hfull he3 HF4 HS4 HM4 HFd
          go_upto_region 11 with fail
          refine wp_region_pl (fun Y => Y.cell? ⟨S, 0, none⟩ = some (fptr X) ∧ Y.cell? ⟨S, 2, none⟩ = some (.int .i64 blk) ∧ Y.cell? ⟨S, 4, none⟩ = some (.int .i64 nxt)) ((0, 0) :: (1, 0) :: (2, 0) :: (3, 0) :: (4, 0) :: (5, 0) :: (6, 0) :: (7, 0) :: (8, 0) :: (9, 0) :: (10, 0) :: (11, 0) :: (12, 0) :: (13, 1) :: (14, 0) :: []) (by kernel_rfl) (by kernel_rfl) ?_
          iterate 13 (apply wpP_go; (focus rfl); (focus rfl); (focus exact S11.out); (focus (rintro Z ⟨s0, s1, s2⟩; go_simp; exact rfl)); intro K hK; go_simp; refine hK _ ?_; clear hK K)
          apply wpP_one
          focus rfl
          intro K hK
          go_simp
          refine HWR.out.mono ?_
          rintro e V2 ⟨rfl, h5, c5⟩
          have hSl : S < wc.drew.heap.size := Nat.lt_of_lt_of_le (HS.out.fin _ HS.out.dS) HC4.out.size
          have HF5 := Lib.hid h5
          have HC5 : Hid (Ch D w V2) := HC4.out.trans c5
          have HM5 : Hid (SM V2 g (n + 1) (chgV st.V k ke.data.toList ve.data.toList)) := HMd.out.ch c5 HDg.out.1
          have S12 : Hid (V2.cell? ⟨S, 0, none⟩ = some (fptr X) ∧ V2.cell? ⟨S, 2, none⟩ = some (.int .i64 blk) ∧ V2.cell? ⟨S, 4, none⟩ = some (.int .i64 nxt)) := ⟨(c5.cell ⟨S, 0, none⟩ hSl hDS).trans S11.out.1, (c5.cell ⟨S, 2, none⟩ hSl hDS).trans S11.out.2.1, (c5.cell ⟨S, 4, none⟩ hSl hDS).trans S11.out.2.2⟩
          refine hK _ _ S12.out ?_
          clear hK K c5 h5 S11 HC4 HWR hSl HMd
          iterate 1 (apply wpP_go; (focus rfl); (focus rfl); (focus exact S12.out); (focus (rintro Z ⟨s0, s1, s2⟩; go_simp; exact rfl)); intro K hK; go_simp; refine hK _ ?_; clear hK K)
          refine wpP_done ?_
          by_cases he : e3 = 0
          · subst he
            have HE := Lib.hid (chg4 (st := st) (k := k) (nm := ke.data.toList) (v := ve.data.toList) ho HNF.out (by rw [HBL.out, HNX.out]; exact HE3.out))
            have r0 := (HS.out.ch HC5.out fun k h1 h2 => hdis k h2 h1).top
            have r0' : Rg V2.drew S 68 6 (stc st X m) := r0.ch ((Ch.refl (fun _ => False) V2).drew) id
            have S13 : Hid (V2.drew.cell? ⟨S, 4, none⟩ = some (.int .i64 nxt)) := S12.out.2.2
            have HF6 := Lib.hid HF5.out.drew
            have HC6 : Hid (Ch D w V2.drew) := HC5.out.drew
            have HM6 : Hid (SM V2.drew g (n + 1) (chgV st.V k ke.data.toList ve.data.toList)) := HM5.out.ch ((Ch.refl (fun _ => False) V2).drew) id
            clear S12 HF5 HC5 HM5 r0
            go_upto_region 14 with fail
            refine wp_region_pl (fun Y => Y.cell? ⟨S, 4, none⟩ = some (.int .i64 nxt)) ((0, 0) :: (1, 0) :: (2, 0) :: (3, 0) :: (4, 0) :: (5, 0) :: (6, 0) :: (7, 0) :: (8, 1) :: (9, 0) :: (10, 2) :: []) (by kernel_rfl) (by kernel_rfl) ?_
            generalize V2.drew = V3 at *
            have f4 := r0'.frozen 4
            have q4 := r0'.cell (i := 4) (by omega)
            rw [show stc st X m 4 = .int .i64 nxt by rw [← HNX.out]; rfl] at q4
            have r1 := r0'.set (i := 4) (by omega) (.int .i64 ((nxt : Int) + (np : Int)))
            have q1 := r1.cell (i := 1) (by omega)
            have f1 := r1.frozen 1
            have r2 := r1.set (i := 1) (by omega) (.map (some g))
            have HR2 := Lib.hid (r2.congr (v' := stc ⟨chgV st.V k ke.data.toList ve.data.toList, blk, st.gen, nxt + np, clo⟩ X g) fun j hj => by
              rcases (by omega : j = 0 ∨ j = 1 ∨ j = 2 ∨ j = 3 ∨ j = 4 ∨ j = 5) with e | e | e | e | e | e <;> subst e <;> simp [upd, stc, HBL.out, HCL.out])
            have hCh : Ch (fun x => x = S) V3 ((V3.setCell ⟨S, 4, none⟩ (.int .i64 ((nxt : Int) + (np : Int)))).setCell ⟨S, 1, none⟩ (.map (some g))) :=
              ((Ch.refl (fun x => x = S) V3).setCell (p := ⟨S, 4, none⟩) (fun _ => rfl) _).setCell (p := ⟨S, 1, none⟩) (fun _ => rfl) _
            have HCH := Lib.hid hCh
            clear r0' r1 r2 hCh
            iterate 6 (apply wpP_go; (focus rfl); (focus rfl); (focus exact S13.out); (focus (intro Z s0; go_simp; exact rfl)); intro K hK; go_simp; refine hK _ ?_; clear hK K)
            apply wpP_call
            focus rfl
            focus rfl
            focus exact S13.out
            focus (intro Z s0; go_simp; exact ⟨rfl, rfl⟩)
            focus (intro Z s0; exact HPO.out Z)
            intro K hK
            go_simp
            refine hK _ ?_
            clear hK K
            iterate 1 (apply wpP_go; (focus rfl); (focus rfl); (focus exact S13.out); (focus (intro Z s0; go_simp; exact rfl)); intro K hK; go_simp; refine hK _ ?_; clear hK K)
            apply wpP_one
            focus rfl
            intro K hK
            go_simp
            refine hK _ _ S13.out ?_
            clear hK K
            iterate 1 (apply wpP_go; (focus rfl); (focus rfl); (focus exact S13.out); (focus (intro Z s0; go_simp; exact rfl)); intro K hK; go_simp; refine hK _ ?_; clear hK K)
            apply wpP_two
            focus rfl
            intro K hK
            go_simp
            refine hK _ _ ?_
            clear hK K
            refine wpP_done ?_
            clear S13
            go_wp2_with fail
            go_ret
            rw [HE.out, HBL.out, HNX.out, HCL.out, ← HRS.out, HNP.out]
            have hgS : g ≠ S := fun e => HDg.out.2 (e ▸ HS.out.dS)
            have hszz : w.heap.size ≤ _ := Nat.le_trans HC6.out.size HCH.out.size
            have hgl := HM6.out.lt
            refine ⟨rfl, HF6.out.ch HCH.out (fun k hk e => hDS (e ▸ hk)), (HC6.out.mono fun _ h _ => .inl h).andThen HCH.out (fun k e _ => by rw [e]; exact .inr HS.out.dS), fun k => DS k ∨ k = g, g, (fun i h => h.elim .inl (fun e => .inr (by rw [e]; exact hgw))), ?_⟩
            exact ⟨HR2.out, HM6.out.ch HCH.out hgS, .inl HS.out.dS, .inr rfl, fun k hk => hk.elim (fun h => Nat.lt_of_lt_of_le (HS.out.fin k h) hszz) (fun e => by rw [e]; exact Nat.lt_of_lt_of_le hgl HCH.out.size), HSR.out, HHV.out, hg, by show nxt + np ≤ 1000; omega, by show blk ≤ 1000; omega⟩
          · have hed : (e3 == 0) = false := by simpa using he
            have HE := Lib.hid (chg3 (st := st) (k := k) (nm := ke.data.toList) (v := ve.data.toList) ho HNF.out (by rw [HBL.out, HNX.out]; exact HE3.out) he)
            clear S12
            go_wp2_with fail
            go_ret
            rw [HE.out]
            exact ⟨rfl, Left.same rfl HF5.out HC5.out HS.out hdis⟩
  · have hrd : readF fl blk 0 = ([], 16) := by unfold readF; rw [ho]; rfl
    have HE := Lib.hid (chg1 (st := st) (k := k) (nm := ke.data.toList) (v := ve.data.toList) ho)
    go_enter Try.func50, Try.ntmps50
    go_wp2_with fail
    refine wp_region_pl (fun Y => Y.cell? ⟨S, 0, none⟩ = some (fptr X) ∧ Y.cell? ⟨S, 2, none⟩ = some (.int .i64 blk) ∧ FW Y D X y fl) ((0, 0) :: (1, 0) :: (2, 0) :: (3, 0) :: (4, 0) :: (5, 0) :: (6, 0) :: (7, 0) :: (8, 0) :: (9, 0) :: (10, 0) :: (11, 0) :: (12, 0) :: (13, 0) :: []) (by kernel_rfl) (by kernel_rfl) ?_
    iterate 8 (apply wpP_go; (focus rfl); (focus rfl); (focus exact S1.out); (focus (rintro Z ⟨s0, s1, s2⟩; go_simp; exact rfl)); intro K hK; go_simp; refine hK _ ?_; clear hK K)
    apply wpP_call
    focus rfl
    focus rfl
    focus exact S1.out
    focus (rintro Z ⟨s0, s1, s2⟩; go_simp; exact ⟨rfl, rfl⟩)
    focus (rintro Z ⟨s0, s1, s2⟩; have := read_any (p := 0) s2 hb (by omega); rw [hrd] at this; exact this)
    intro K hK
    go_simp
    refine hK _ ?_
    clear hK K
    iterate 5 (apply wpP_go; (focus rfl); (focus rfl); (focus exact S1.out); (focus (rintro Z ⟨s0, s1, s2⟩; go_simp; exact rfl)); intro K hK; go_simp; refine hK _ ?_; clear hK K)
    refine wpP_done ?_
    have HFd := Lib.hid S1.out.2.2
    clear S1
    go_wp2_with fail
    go_ret
    rw [HE.out]
    exact ⟨rfl, Left.same rfl HFd.out HB1.out HS.out hdis⟩
end
end Go.Proofs.Ytfglopkglnpokaa
