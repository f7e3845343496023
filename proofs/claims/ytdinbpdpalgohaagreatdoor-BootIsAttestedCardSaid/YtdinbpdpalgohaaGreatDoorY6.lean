/- change, Set, Delete, Format, replay. Conditions: those that each theorem names. -/
import Derived.Test.YtdinbpdpalgohaaGreatDoorY5
namespace Go.Proofs.YtdinbpdpalgohaaGreatDoor
open Go.RowKit
def chgV (V : Vars) (k : Nat) (n v : Str) : Vars := if k = 1 then setV V n v else delV V n
def chgF (fl : FL) (st : ST) (k : Nat) (n v : Str) : Int × FL × ST :=
  if fl.off = true then (16, fl, st) else
  if st.clo = true ∨ fl.P < st.nxt + pgs (recd k n v).length then cmpF fl st (chgV st.V k n v) else
  if (wrL fl st.blk st.nxt (pagesR (recd k n v))).1 ≠ 0 then ((wrL fl st.blk st.nxt (pagesR (recd k n v))).1, (wrL fl st.blk st.nxt (pagesR (recd k n v))).2, st)
  else (0, (wrL fl st.blk st.nxt (pagesR (recd k n v))).2, ⟨chgV st.V k n v, st.blk, st.gen, st.nxt + pgs (recd k n v).length, st.clo⟩)
/-- What a call of the store leaves. -/
def Left (w w' : World) (D DS : Nat → Prop) (S X n : Nat) (y : FLay) (r : Int × FL × ST) : Prop :=
  FW w' D X y r.2.1 ∧ Ch (fun k => D k ∨ DS k) w w' ∧ ∃ D' m', (∀ i, D' i → DS i ∨ w.heap.size ≤ i) ∧ SW w' D' S X m' (n + 1) r.2.2
section
variable {w w' : World} {D DS : Nat → Prop} {S X m n : Nat} {st : ST} {y : FLay} {fl f : FL} {k : Nat} {nm v : Str} {e : Int} {np : Nat}
theorem chg1 (ho : fl.off = true) : chgF fl st k nm v = (16, fl, st) := by unfold chgF; rw [if_pos ho]
theorem chg2 (ho : fl.off = false) (h : st.clo = true ∨ fl.P < st.nxt + pgs (recd k nm v).length) : chgF fl st k nm v = cmpF fl st (chgV st.V k nm v) := by
  unfold chgF; rw [if_neg (by simp [ho]), if_pos h]
theorem chg3 (ho : fl.off = false) (h : ¬ (st.clo = true ∨ fl.P < st.nxt + pgs (recd k nm v).length)) (hw : wrL fl st.blk st.nxt (pagesR (recd k nm v)) = (e, f)) (he : e ≠ 0) : chgF fl st k nm v = (e, f, st) := by
  unfold chgF; rw [if_neg (by simp [ho]), if_neg h, hw, if_pos he]
theorem chg4 (ho : fl.off = false) (h : ¬ (st.clo = true ∨ fl.P < st.nxt + pgs (recd k nm v).length)) (hw : wrL fl st.blk st.nxt (pagesR (recd k nm v)) = (0, f)) : chgF fl st k nm v = (0, f, ⟨chgV st.V k nm v, st.blk, st.gen, st.nxt + pgs (recd k nm v).length, st.clo⟩) := by
  unfold chgF; rw [if_neg (by simp [ho]), if_neg h, hw, if_neg (by simp)]
theorem Left.same {r : Int × FL × ST} (hc : r = (e, f, st)) (hf : FW w' D X y f) (c : Ch D w w') (hs : SW w DS S X m n st) (hdis : ∀ k, D k → ¬ DS k) : Left w w' D DS S X n y r := by
  subst hc
  exact ⟨hf, c.mono fun i h _ => .inl h, DS, m, fun i h => .inl h, (hs.ch c fun k h1 h2 => hdis k h2 h1).mono (Nat.le_succ _)⟩
theorem chgV_srt {V : Vars} (h : Srt V) (k : Nat) (n v : Str) : Srt (chgV V k n v) := by
  unfold chgV; split
  · exact h.set _ _
  · exact h.del _
theorem chgV_hv {V : Vars} {k : Nat} {n v : Str} (h : ∀ p ∈ V, p.1.length ≤ 24 ∧ p.2.length ≤ 128) (hn : n.length ≤ 24) (hv : v.length ≤ 128) : ∀ p ∈ chgV V k n v, p.1.length ≤ 24 ∧ p.2.length ≤ 128 := by
  unfold chgV; split
  · intro p hp
    rcases mem_setV hp with e | e
    · rw [e]; exact ⟨hn, hv⟩
    · exact h p e
  · intro p hp
    exact h p (List.mem_filter.1 hp).1
set_option maxRecDepth 100000 in
set_option maxHeartbeats 2000000 in
theorem change_any (hs : SW w DS S X m n st) (h : FW w D X y fl) (hdis : ∀ k, D k → ¬ DS k) (hb : st.blk < fl.B) (hn : n < 1000) (hk : k = 1 ∨ k = 2) {ke ve : ByteArray} (hke : ke.size ≤ 24) (hve : ve.size ≤ 128) :
    Calls Tryz.prog 107 #[fptr S, .int .i64 (k : Int), .string ke, .string ve] w fun e w' => e = .returned (.int .i64 (chgF fl st k ke.data.toList ve.data.toList).1) ∧ Left w w' D DS S X n y (chgF fl st k ke.data.toList ve.data.toList) := by
  have H := Lib.hid h
  have HS := Lib.hid hs
  have hP := h.hP
  have hB := h.hB
  have hnx := hs.hn
  have hg := hs.hg
  have HHV := Lib.hid (chgV_hv (k := k) (n := ke.data.toList) (v := ve.data.toList) hs.hv hke hve)
  have HSR := Lib.hid (chgV_srt hs.srt k ke.data.toList ve.data.toList)
  obtain ⟨blk, hblk⟩ : ∃ blk, st.blk = blk := ⟨_, rfl⟩
  obtain ⟨nxt, hnxt⟩ : ∃ nxt, st.nxt = nxt := ⟨_, rfl⟩
  obtain ⟨clo, hclo⟩ : ∃ clo, st.clo = clo := ⟨_, rfl⟩
  have hcc := hs.c2
  have S1 : Hid (w.drew.cell? ⟨S, 0, none⟩ = some (fptr X) ∧ w.drew.cell? ⟨S, 2, none⟩ = some (.int .i64 blk) ∧ FW w.drew D X y fl) := ⟨hs.c0, by rw [← hblk]; exact hs.c2, h.drew⟩
  rw [hblk] at hb
  rw [hnxt] at hnx
  have HBL := Lib.hid hblk
  have HNX := Lib.hid hnxt
  have HCL := Lib.hid hclo
  clear h hs hblk hnxt hclo hcc
  have HB1 : Hid (Ch D w w.drew) := (Ch.refl D w).drew
  cases ho : fl.off
  · have hrd : readF fl blk 0 = (fl.pg blk 0, 0) := by unfold readF; rw [ho]; rfl
    go_enter Tryz.func107, Tryz.ntmps107
    go_wp2_with fail
    refine wp_region_pl (fun Y => Y.cell? ⟨S, 0, none⟩ = some (fptr X) ∧ Y.cell? ⟨S, 2, none⟩ = some (.int .i64 blk) ∧ FW Y D X y fl) ((0, 0) :: (1, 0) :: (2, 0) :: (3, 0) :: (4, 0) :: (5, 0) :: (6, 0) :: (7, 0) :: (8, 0) :: (9, 0) :: (10, 0) :: (11, 0) :: (12, 0) :: (13, 0) :: []) (by kernel_rfl) (by kernel_rfl) ?_
    iterate 8 (apply wpP_go; (focus rfl); (focus rfl); (focus exact S1.out); (focus (rintro Z ⟨s0, s1, s2⟩; go_simp; exact rfl)); intro K hK; go_simp; refine hK _ ?_; clear hK K)
    apply wpP_call
    focus rfl
    focus rfl
    focus exact S1.out
    focus (rintro Z ⟨s0, s1, s2⟩; go_simp; exact ⟨rfl, rfl⟩)
    focus (rintro Z ⟨s0, s1, s2⟩; have := read_any (p := 0) s2 hb (by omega); rw [hrd] at this; exact this)
    intro K hK
    go_simp
    refine hK _ ?_
    clear hK K
    iterate 5 (apply wpP_go; (focus rfl); (focus rfl); (focus exact S1.out); (focus (rintro Z ⟨s0, s1, s2⟩; go_simp; exact rfl)); intro K hK; go_simp; refine hK _ ?_; clear hK K)
    refine wpP_done ?_
    have hsd := HS.out.ch HB1.out fun k h1 h2 => hdis k h2 h1
    have c1 := hsd.c1
    have HCLN := Lib.hid hsd.map.clone
    obtain ⟨g, hg'⟩ : ∃ g, w.drew.heap.size = g := ⟨_, rfl⟩
    have hgw : w.heap.size ≤ g := by rw [← hg']; exact HB1.out.size
    rw [hg'] at HCLN
    have HBD : Hid (Below w.heap.size w w.drew) := (Below.refl _ _).drew
    clear hsd S1 hg'
    go_wp2_with fail
    refine HCLN.out.mono ?_
    rintro e w1 ⟨rfl, hm1, b1⟩
    have HM1 := Lib.hid hm1
    have HB1' : Hid (Below w.heap.size w w1) := HBD.out.trans (b1.mono hgw)
    clear hm1 b1 HCLN HBD HB1 c1 hrd
    go_upto_if 35 with fail
    go_cut [11] (fun x11 wx => x11 = .map (some g) ∧ Hid (SM wx g (n + 1) (chgV st.V k ke.data.toList ve.data.toList)) ∧ Hid (Below w.heap.size w wx))
    case first =>
      rcases hk with rfl | rfl
      · obtain ⟨w2, hru, hm2, c2⟩ := HM1.out.store (by omega) (s := ke) (by unfold maxLen; omega) ve
        have HM2 := Lib.hid hm2
        have HC2 := Lib.hid c2
        clear hm2 c2
        go_wp2_with fail
        go_meet
        exact ⟨rfl, HM2.out, HB1'.out.trans (HC2.out.below HB1'.out.size (fun i e => by rw [e]; exact hgw))⟩
      · obtain ⟨w2, hru, hm2, c2⟩ := HM1.out.drop (s := ke) (by unfold maxLen; omega) 0
        have HM2 := Lib.hid hm2
        have HC2 := Lib.hid c2
        clear hm2 c2
        go_wp2_with fail
        go_meet
        exact ⟨rfl, HM2.out.mono (by omega), HB1'.out.trans (HC2.out.below HB1'.out.size (fun i e => by rw [e]; exact hgw))⟩
    case rest =>
      obtain ⟨rfl, HM2, HB2⟩ := hcut
      clear HM1 HB1'
      have HEN := Lib.hid (encode_any k ke ve wc (by omega) (by omega) (by omega))
      obtain ⟨re, hre⟩ : ∃ s : ByteArray, s = ⟨(recd k ke.data.toList ve.data.toList).toArray⟩ := ⟨_, rfl⟩
      rw [← hre] at HEN
      have hrl : re.data.toList = recd k ke.data.toList ve.data.toList := by rw [hre]
      have hrs : re.size = (recd k ke.data.toList ve.data.toList).length := by rw [← hrl]; rfl
      have hrz : re.size ≤ 157 := by
        have h1 : ke.data.toList.length = ke.size := rfl
        have h2 : ve.data.toList.length = ve.size := rfl
        rw [hrs, recd_len]; omega
      have HRL := Lib.hid hrl
      have HRS := Lib.hid hrs
      clear hre hrl hrs
      go_wp2_with fail
      refine HEN.out.mono ?_
      rintro e w3 ⟨rfl, b3⟩
      have HB3 : Hid (Below w.heap.size w w3) := HB2.out.trans (b3.mono HB2.out.size)
      have HM3 : Hid (SM w3 g (n + 1) (chgV st.V k ke.data.toList ve.data.toList)) := HM2.out.ch (Ch.of_below b3 (fun _ => False)) id
      clear HB2 HM2 b3 HEN
      have hs3 := HS.out.below HB3.out
      have S9 : Hid (w3.drew.cell? ⟨S, 0, none⟩ = some (fptr X) ∧ w3.drew.cell? ⟨S, 4, none⟩ = some (.int .i64 nxt) ∧ w3.drew.cell? ⟨S, 5, none⟩ = some (.bool clo) ∧ FW w3.drew D X y fl) := ⟨hs3.c0, by rw [← HNX.out]; exact hs3.c4, by rw [← HCL.out]; exact hs3.c5, (H.out.below HB3.out).drew⟩
      have HBd : Hid (Below w.heap.size w w3.drew) := HB3.out.drew
      have HMd : Hid (SM w3.drew g (n + 1) (chgV st.V k ke.data.toList ve.data.toList)) := HM3.out.ch ((Ch.refl (fun _ => False) w3).drew) id
      clear hs3 HB3 HM3
      obtain ⟨np, hnp⟩ : ∃ np, pgs re.size = np := ⟨_, rfl⟩
      have hpgl : np ≤ 5 := by rw [← hnp]; unfold pgs; omega
      have HNP := Lib.hid hnp
      have HPO : Hid (∀ Z, Calls Tryz.prog 138 #[.int .i64 (re.size : Int)] Z fun e w' => e = .returned (.int .i64 (np : Int)) ∧ Z = w') := fun Z => by rw [← hnp]; exact pagesOf_any re.size Z (by omega)
      have hwi : IntKind.i64.wrap ((nxt : Int) + (np : Int)) = (nxt : Int) + (np : Int) := IntWalk.i64_in _ ⟨by omega, by omega⟩
      clear hnp
      go_upto_region 9 with fail
      go_cut [65] (fun x65 wx => ∃ bb : Bool, x65 = .bool bb ∧ Hid (bb = (clo || decide (fl.P < nxt + np))) ∧ Hid (SM wx g (n + 1) (chgV st.V k ke.data.toList ve.data.toList)) ∧ Hid (Below w.heap.size w wx))
      case first =>
        cases clo
        · refine wp_region_pl (fun Y => Y.cell? ⟨S, 0, none⟩ = some (fptr X) ∧ Y.cell? ⟨S, 4, none⟩ = some (.int .i64 nxt) ∧ Y.cell? ⟨S, 5, none⟩ = some (.bool false) ∧ FW Y D X y fl) ((0, 0) :: (1, 0) :: (2, 0) :: (3, 0) :: (4, 0) :: (5, 0) :: (6, 0) :: (7, 0) :: (8, 0) :: (9, 0) :: (10, 0) :: (11, 0) :: (12, 0) :: (13, 0) :: (14, 0) :: (15, 0) :: (16, 0) :: (17, 1) :: (18, 0) :: (19, 0) :: (20, 0) :: []) (by kernel_rfl) (by kernel_rfl) ?_
          iterate 11 (apply wpP_go; (focus rfl); (focus rfl); (focus exact S9.out); (focus (rintro Z ⟨s0, s1, s2, s3⟩; go_simp; exact rfl)); intro K hK; go_simp; refine hK _ ?_; clear hK K)
          apply wpP_call
          focus rfl
          focus rfl
          focus exact S9.out
          focus (rintro Z ⟨s0, s1, s2, s3⟩; go_simp; exact ⟨rfl, rfl⟩)
          focus (rintro Z ⟨s0, s1, s2, s3⟩; exact HPO.out Z)
          intro K hK
          go_simp
          refine hK _ ?_
          clear hK K
          iterate 5 (apply wpP_go; (focus rfl); (focus rfl); (focus exact S9.out); (focus (rintro Z ⟨s0, s1, s2, s3⟩; go_simp; exact rfl)); intro K hK; go_simp; refine hK _ ?_; clear hK K)
          apply wpP_one
          focus rfl
          intro K hK
          go_simp
          refine (shape_any S9.out.2.2.2).mono ?_
          rintro e V1 ⟨rfl, b1⟩
          have S9' : Hid (V1.cell? ⟨S, 0, none⟩ = some (fptr X) ∧ V1.cell? ⟨S, 4, none⟩ = some (.int .i64 nxt) ∧ V1.cell? ⟨S, 5, none⟩ = some (.bool false) ∧ FW V1 D X y fl) := ⟨cell_later b1 S9.out.1, cell_later b1 S9.out.2.1, cell_later b1 S9.out.2.2.1, S9.out.2.2.2.below b1⟩
          refine hK _ _ S9'.out ?_
          clear hK K
          have HM4 : Hid (SM V1 g (n + 1) (chgV st.V k ke.data.toList ve.data.toList)) := HMd.out.ch (Ch.of_below b1 (fun _ => False)) id
          have HB4 : Hid (Below w.heap.size w V1) := HBd.out.trans (b1.mono HBd.out.size)
          clear S9 HMd HBd b1
          iterate 1 (apply wpP_go; (focus rfl); (focus rfl); (focus exact S9'.out); (focus (rintro Z ⟨s0, s1, s2, s3⟩; have hfp := field_P (.int .i64 fl.B) (.int .i64 fl.P) (.int .i64 fl.E) Z; go_simp; exact rfl)); intro K hK; go_simp; refine hK _ ?_; clear hK K)
          by_cases hfl : fl.P < nxt + np
          · have hflI : (fl.P : Int) < (nxt : Int) + np := by omega
            iterate 2 (apply wpP_go; (focus rfl); (focus rfl); (focus exact S9'.out); (focus (rintro Z ⟨s0, s1, s2, s3⟩; go_simp; exact rfl)); intro K hK; go_simp; refine hK _ ?_; clear hK K)
            refine wpP_done ?_
            clear S9'
            go_wp2_with fail
            go_meet
            exact ⟨_, rfl, (by show _ = (false || _); simp [hfl]), HM4.out, HB4.out⟩
          · have hflI : ¬ (fl.P : Int) < (nxt : Int) + np := by omega
            iterate 2 (apply wpP_go; (focus rfl); (focus rfl); (focus exact S9'.out); (focus (rintro Z ⟨s0, s1, s2, s3⟩; go_simp; exact rfl)); intro K hK; go_simp; refine hK _ ?_; clear hK K)
            refine wpP_done ?_
            clear S9'
            go_wp2_with fail
            go_meet
            exact ⟨_, rfl, (by show _ = (false || _); simp [hfl]), HM4.out, HB4.out⟩
        · refine wp_region_pl (fun Y => Y.cell? ⟨S, 0, none⟩ = some (fptr X) ∧ Y.cell? ⟨S, 4, none⟩ = some (.int .i64 nxt) ∧ Y.cell? ⟨S, 5, none⟩ = some (.bool true) ∧ FW Y D X y fl) ((0, 0) :: (1, 0) :: (2, 0) :: (3, 0) :: (4, 0) :: (5, 0) :: (6, 0) :: (7, 0) :: (8, 0) :: (9, 0) :: (10, 0) :: (11, 0) :: (12, 0) :: (13, 0) :: (14, 0) :: (15, 0) :: (16, 0) :: (17, 0) :: (18, 0) :: (19, 0) :: (20, 0) :: []) (by kernel_rfl) (by kernel_rfl) ?_
          iterate 5 (apply wpP_go; (focus rfl); (focus rfl); (focus exact S9.out); (focus (rintro Z ⟨s0, s1, s2, s3⟩; go_simp; exact rfl)); intro K hK; go_simp; refine hK _ ?_; clear hK K)
          iterate 15 (apply wpP_not; (focus rfl); (focus rfl); (focus exact S9.out); intro K hK; go_simp; refine hK _ ?_; clear hK K)
          iterate 1 (apply wpP_go; (focus rfl); (focus rfl); (focus exact S9.out); (focus (rintro Z ⟨s0, s1, s2, s3⟩; go_simp; exact rfl)); intro K hK; go_simp; refine hK _ ?_; clear hK K)
          refine wpP_done ?_
          go_wp2_with fail
          go_meet
          exact ⟨_, rfl, (by show _ = (true || _); simp), HMd.out, HBd.out⟩
      case rest =>
        clear S9 HMd HBd
        obtain ⟨bb, rfl, HBB, HM4, HB4⟩ := hcut
        have HDg : Hid (¬ D g ∧ ¬ DS g) := ⟨fun h => by have := H.out.fin g h; omega, fun h => by have := HS.out.fin g h; omega⟩
        have HF4 := Lib.hid (H.out.below HB4.out)
        have HS4 := Lib.hid (HS.out.below HB4.out)
        by_cases hfull : clo = true ∨ fl.P < nxt + np
        · have hfb : bb = true := by rw [HBB.out]; simpa using hfull
          subst hfb
          have HE := Lib.hid (chg2 (st := st) (k := k) (nm := ke.data.toList) (v := ve.data.toList) ho (by rw [HCL.out, HNX.out, ← HRS.out, HNP.out]; exact hfull))
          have HCM := Lib.hid (compact_any HS4.out HF4.out ho hdis HM4.out (by omega) HSR.out HHV.out HDg.out.1 HDg.out.2)
          clear hfull
          go_wp2_with fail
          refine HCM.out.mono ?_
          rintro e w5 ⟨rfl, h5, c5, s5⟩
          have HF5 := Lib.hid h5
          have HC5 := Lib.hid c5
          have HS5 := Lib.hid s5
          clear h5 c5 s5 HCM
          go_wp2_with fail
          go_ret
          rw [HE.out]
          exact ⟨rfl, HF5.out, (Ch.of_below HB4.out _).trans HC5.out, fun k => DS k ∨ k = g, _, (fun i h => h.elim .inl (fun e => .inr (by rw [e]; exact hgw))), by have := HS5.out; rw [Nat.max_eq_right (Nat.le_succ n)] at this; exact this⟩
        · have hfb : bb = false := by rw [HBB.out]; simpa using hfull
          subst hfb
          have hroom : nxt + np ≤ fl.P := by omega
          have HNF : Hid (¬ (st.clo = true ∨ fl.P < st.nxt + pgs (recd k ke.data.toList ve.data.toList).length)) := by show ¬ _; rw [HCL.out, HNX.out, ← HRS.out, HNP.out]; exact hfull
          have S11 : Hid (wc.drew.cell? ⟨S, 0, none⟩ = some (fptr X) ∧ wc.drew.cell? ⟨S, 2, none⟩ = some (.int .i64 blk) ∧ wc.drew.cell? ⟨S, 4, none⟩ = some (.int .i64 nxt)) := ⟨HS4.out.c0, by rw [← HBL.out]; exact HS4.out.c2, by rw [← HNX.out]; exact HS4.out.c4⟩
          have HC4 : Hid (Ch D w wc.drew) := (Ch.of_below HB4.out D).drew
          have HFd := Lib.hid HF4.out.drew
          have HMd : Hid (SM wc.drew g (n + 1) (chgV st.V k ke.data.toList ve.data.toList)) := HM4.out.ch ((Ch.refl (fun _ => False) wc).drew) id
          obtain ⟨e3, f3, he3⟩ : ∃ e f', wrL fl blk nxt (pagesR re.data.toList) = (e, f') := ⟨_, _, rfl⟩
          have HWR : Hid (Calls Tryz.prog 90 #[fptr X, .int .i64 blk, .int .i64 nxt, .string re] wc.drew fun e w' => e = .returned (.int .i64 e3) ∧ FW w' D X y f3 ∧ Ch D wc.drew w') := by
            have := write_any HFd.out (b := blk) (p := nxt) (d := re) hb (by omega) (by rw [HNP.out]; exact hroom)
            rw [he3] at this
            exact this
          rw [HRL.out] at he3
          have HE3 := Lib.hid he3
          have hDS : ¬ D S := fun h => hdis _ h HS.out.dS
          clear hfull he3 HF4 HS4 HM4 HFd
          go_upto_region 11 with fail
          refine wp_region_pl (fun Y => Y.cell? ⟨S, 0, none⟩ = some (fptr X) ∧ Y.cell? ⟨S, 2, none⟩ = some (.int .i64 blk) ∧ Y.cell? ⟨S, 4, none⟩ = some (.int .i64 nxt)) ((0, 0) :: (1, 0) :: (2, 0) :: (3, 0) :: (4, 0) :: (5, 0) :: (6, 0) :: (7, 0) :: (8, 0) :: (9, 0) :: (10, 0) :: (11, 0) :: (12, 0) :: (13, 1) :: (14, 0) :: []) (by kernel_rfl) (by kernel_rfl) ?_
          iterate 13 (apply wpP_go; (focus rfl); (focus rfl); (focus exact S11.out); (focus (rintro Z ⟨s0, s1, s2⟩; go_simp; exact rfl)); intro K hK; go_simp; refine hK _ ?_; clear hK K)
          apply wpP_one
          focus rfl
          intro K hK
          go_simp
          refine HWR.out.mono ?_
          rintro e V2 ⟨rfl, h5, c5⟩
          have hSl : S < wc.drew.heap.size := Nat.lt_of_lt_of_le (HS.out.fin _ HS.out.dS) HC4.out.size
          have HF5 := Lib.hid h5
          have HC5 : Hid (Ch D w V2) := HC4.out.trans c5
          have HM5 : Hid (SM V2 g (n + 1) (chgV st.V k ke.data.toList ve.data.toList)) := HMd.out.ch c5 HDg.out.1
          have S12 : Hid (V2.cell? ⟨S, 0, none⟩ = some (fptr X) ∧ V2.cell? ⟨S, 2, none⟩ = some (.int .i64 blk) ∧ V2.cell? ⟨S, 4, none⟩ = some (.int .i64 nxt)) := ⟨(c5.cell ⟨S, 0, none⟩ hSl hDS).trans S11.out.1, (c5.cell ⟨S, 2, none⟩ hSl hDS).trans S11.out.2.1, (c5.cell ⟨S, 4, none⟩ hSl hDS).trans S11.out.2.2⟩
          refine hK _ _ S12.out ?_
          clear hK K c5 h5 S11 HC4 HWR hSl HMd
          iterate 1 (apply wpP_go; (focus rfl); (focus rfl); (focus exact S12.out); (focus (rintro Z ⟨s0, s1, s2⟩; go_simp; exact rfl)); intro K hK; go_simp; refine hK _ ?_; clear hK K)
          refine wpP_done ?_
          by_cases he : e3 = 0
          · subst he
            have HE := Lib.hid (chg4 (st := st) (k := k) (nm := ke.data.toList) (v := ve.data.toList) ho HNF.out (by rw [HBL.out, HNX.out]; exact HE3.out))
            have r0 := (HS.out.ch HC5.out fun k h1 h2 => hdis k h2 h1).top
            have r0' : Rg V2.drew S 158 6 (stc st X m) := r0.ch ((Ch.refl (fun _ => False) V2).drew) id
            have S13 : Hid (V2.drew.cell? ⟨S, 4, none⟩ = some (.int .i64 nxt)) := S12.out.2.2
            have HF6 := Lib.hid HF5.out.drew
            have HC6 : Hid (Ch D w V2.drew) := HC5.out.drew
            have HM6 : Hid (SM V2.drew g (n + 1) (chgV st.V k ke.data.toList ve.data.toList)) := HM5.out.ch ((Ch.refl (fun _ => False) V2).drew) id
            clear S12 HF5 HC5 HM5 r0
            go_upto_region 14 with fail
            refine wp_region_pl (fun Y => Y.cell? ⟨S, 4, none⟩ = some (.int .i64 nxt)) ((0, 0) :: (1, 0) :: (2, 0) :: (3, 0) :: (4, 0) :: (5, 0) :: (6, 0) :: (7, 0) :: (8, 1) :: (9, 0) :: (10, 2) :: []) (by kernel_rfl) (by kernel_rfl) ?_
            generalize V2.drew = V3 at *
            have f4 := r0'.frozen 4
            have q4 := r0'.cell (i := 4) (by omega)
            rw [show stc st X m 4 = .int .i64 nxt by rw [← HNX.out]; rfl] at q4
            have r1 := r0'.set (i := 4) (by omega) (.int .i64 ((nxt : Int) + (np : Int)))
            have q1 := r1.cell (i := 1) (by omega)
            have f1 := r1.frozen 1
            have r2 := r1.set (i := 1) (by omega) (.map (some g))
            have HR2 := Lib.hid (r2.congr (v' := stc ⟨chgV st.V k ke.data.toList ve.data.toList, blk, st.gen, nxt + np, clo⟩ X g) fun j hj => by
              rcases (by omega : j = 0 ∨ j = 1 ∨ j = 2 ∨ j = 3 ∨ j = 4 ∨ j = 5) with e | e | e | e | e | e <;> subst e <;> simp [upd, stc, HBL.out, HCL.out])
            have hCh : Ch (fun x => x = S) V3 ((V3.setCell ⟨S, 4, none⟩ (.int .i64 ((nxt : Int) + (np : Int)))).setCell ⟨S, 1, none⟩ (.map (some g))) :=
              ((Ch.refl (fun x => x = S) V3).setCell (p := ⟨S, 4, none⟩) (fun _ => rfl) _).setCell (p := ⟨S, 1, none⟩) (fun _ => rfl) _
            have HCH := Lib.hid hCh
            clear r0' r1 r2 hCh
            iterate 6 (apply wpP_go; (focus rfl); (focus rfl); (focus exact S13.out); (focus (intro Z s0; go_simp; exact rfl)); intro K hK; go_simp; refine hK _ ?_; clear hK K)
            apply wpP_call
            focus rfl
            focus rfl
            focus exact S13.out
            focus (intro Z s0; go_simp; exact ⟨rfl, rfl⟩)
            focus (intro Z s0; exact HPO.out Z)
            intro K hK
            go_simp
            refine hK _ ?_
            clear hK K
            iterate 1 (apply wpP_go; (focus rfl); (focus rfl); (focus exact S13.out); (focus (intro Z s0; go_simp; exact rfl)); intro K hK; go_simp; refine hK _ ?_; clear hK K)
            apply wpP_one
            focus rfl
            intro K hK
            go_simp
            refine hK _ _ S13.out ?_
            clear hK K
            iterate 1 (apply wpP_go; (focus rfl); (focus rfl); (focus exact S13.out); (focus (intro Z s0; go_simp; exact rfl)); intro K hK; go_simp; refine hK _ ?_; clear hK K)
            apply wpP_two
            focus rfl
            intro K hK
            go_simp
            refine hK _ _ ?_
            clear hK K
            refine wpP_done ?_
            clear S13
            go_wp2_with fail
            go_ret
            rw [HE.out, HBL.out, HNX.out, HCL.out, ← HRS.out, HNP.out]
            have hgS : g ≠ S := fun e => HDg.out.2 (e ▸ HS.out.dS)
            have hszz : w.heap.size ≤ _ := Nat.le_trans HC6.out.size HCH.out.size
            have hgl := HM6.out.lt
            refine ⟨rfl, HF6.out.ch HCH.out (fun k hk e => hDS (e ▸ hk)), (HC6.out.mono fun _ h _ => .inl h).andThen HCH.out (fun k e _ => by rw [e]; exact .inr HS.out.dS), fun k => DS k ∨ k = g, g, (fun i h => h.elim .inl (fun e => .inr (by rw [e]; exact hgw))), ?_⟩
            exact ⟨HR2.out, HM6.out.ch HCH.out hgS, .inl HS.out.dS, .inr rfl, fun k hk => hk.elim (fun h => Nat.lt_of_lt_of_le (HS.out.fin k h) hszz) (fun e => by rw [e]; exact Nat.lt_of_lt_of_le hgl HCH.out.size), HSR.out, HHV.out, hg, by show nxt + np ≤ 1000; omega, by show blk ≤ 1000; omega⟩
          · have hed : (e3 == 0) = false := by simpa using he
            have HE := Lib.hid (chg3 (st := st) (k := k) (nm := ke.data.toList) (v := ve.data.toList) ho HNF.out (by rw [HBL.out, HNX.out]; exact HE3.out) he)
            clear S12
            go_wp2_with fail
            go_ret
            rw [HE.out]
            exact ⟨rfl, Left.same rfl HF5.out HC5.out HS.out hdis⟩
  · have hrd : readF fl blk 0 = ([], 16) := by unfold readF; rw [ho]; rfl
    have HE := Lib.hid (chg1 (st := st) (k := k) (nm := ke.data.toList) (v := ve.data.toList) ho)
    go_enter Tryz.func107, Tryz.ntmps107
    go_wp2_with fail
    refine wp_region_pl (fun Y => Y.cell? ⟨S, 0, none⟩ = some (fptr X) ∧ Y.cell? ⟨S, 2, none⟩ = some (.int .i64 blk) ∧ FW Y D X y fl) ((0, 0) :: (1, 0) :: (2, 0) :: (3, 0) :: (4, 0) :: (5, 0) :: (6, 0) :: (7, 0) :: (8, 0) :: (9, 0) :: (10, 0) :: (11, 0) :: (12, 0) :: (13, 0) :: []) (by kernel_rfl) (by kernel_rfl) ?_
    iterate 8 (apply wpP_go; (focus rfl); (focus rfl); (focus exact S1.out); (focus (rintro Z ⟨s0, s1, s2⟩; go_simp; exact rfl)); intro K hK; go_simp; refine hK _ ?_; clear hK K)
    apply wpP_call
    focus rfl
    focus rfl
    focus exact S1.out
    focus (rintro Z ⟨s0, s1, s2⟩; go_simp; exact ⟨rfl, rfl⟩)
    focus (rintro Z ⟨s0, s1, s2⟩; have := read_any (p := 0) s2 hb (by omega); rw [hrd] at this; exact this)
    intro K hK
    go_simp
    refine hK _ ?_
    clear hK K
    iterate 5 (apply wpP_go; (focus rfl); (focus rfl); (focus exact S1.out); (focus (rintro Z ⟨s0, s1, s2⟩; go_simp; exact rfl)); intro K hK; go_simp; refine hK _ ?_; clear hK K)
    refine wpP_done ?_
    have HFd := Lib.hid S1.out.2.2
    clear S1
    go_wp2_with fail
    go_ret
    rw [HE.out]
    exact ⟨rfl, Left.same rfl HFd.out HB1.out HS.out hdis⟩
end
end Go.Proofs.YtdinbpdpalgohaaGreatDoor
namespace Go.Proofs.YtdinbpdpalgohaaGreatDoor
open Go.RowKit
def setF (fl : FL) (st : ST) (n v : Str) : Int × FL × ST :=
  if okLens 1 n.length v.length = false then (1, fl, st) else if getV st.V n = some v then (0, fl, st) else chgF fl st 1 n v
def delF (fl : FL) (st : ST) (n : Str) : Int × FL × ST :=
  if okLens 2 n.length 0 = false then (1, fl, st) else if getV st.V n = none then (6, fl, st) else chgF fl st 2 n []
theorem okLens_le {k n v : Nat} (h : okLens k n v = true) : n ≤ 24 ∧ v ≤ 128 := by
  simp only [okLens, Bool.or_eq_true, Bool.and_eq_true, decide_eq_true_eq, beq_iff_eq] at h
  omega
section
variable {w w' : World} {D DS : Nat → Prop} {S X m n : Nat} {st : ST} {y : FLay} {fl : FL}
set_option maxRecDepth 100000 in
set_option maxHeartbeats 2000000 in
theorem set_any (hs : SW w DS S X m n st) (h : FW w D X y fl) (hdis : ∀ k, D k → ¬ DS k) (hb : st.blk < fl.B) (hn : n < 1000) {ke ve : ByteArray} (hke : ke.size ≤ 1000000) (hve : ve.size ≤ 1000000) :
    Calls Tryz.prog 43 #[fptr S, .string ke, .string ve] w fun e w' => e = .returned (.int .i64 (setF fl st ke.data.toList ve.data.toList).1) ∧ Left w w' D DS S X n y (setF fl st ke.data.toList ve.data.toList) := by
  have H := Lib.hid h
  have HS := Lib.hid hs
  have HPM : Hid (Calls Tryz.prog 106 #[.int .i64 1, .int .i64 (ke.size : Int), .int .i64 (ve.size : Int)] w fun e w' => e = .returned (.bool (okLens 1 ke.size ve.size)) ∧ w = w') := permitted_any 1 ke.size ve.size w (by omega) (by omega)
  have hlk := hs.map.look (s := ke) (by unfold maxLen; omega)
  have c1 := hs.c1
  have HLS : Hid (Left w w D DS S X n y (0, fl, st) ∧ Left w w D DS S X n y (1, fl, st)) := ⟨Left.same rfl h (Ch.refl D w) hs hdis, Left.same rfl h (Ch.refl D w) hs hdis⟩
  obtain ⟨ok, hok⟩ : ∃ ok, okLens 1 ke.size ve.size = ok := ⟨_, rfl⟩
  rw [hok] at HPM
  have HOK := Lib.hid hok
  clear h hs hok
  cases ok
  · have HE : Hid (setF fl st ke.data.toList ve.data.toList = (1, fl, st)) := by show _ = _; unfold setF; rw [if_pos]; exact HOK.out
    go_enter Tryz.func43, Tryz.ntmps43
    go_wp2_with fail
    refine HPM.out.mono ?_
    rintro e w' ⟨rfl, rfl⟩
    go_wp2_with fail
    go_ret
    rw [HE.out]
    exact ⟨rfl, HLS.out.2⟩
  · have hle := okLens_le HOK.out
    have HCG : Hid (Calls Tryz.prog 107 #[fptr S, .int .i64 1, .string ke, .string ve] w fun e w' => e = .returned (.int .i64 (chgF fl st 1 ke.data.toList ve.data.toList).1) ∧ Left w w' D DS S X n y (chgF fl st 1 ke.data.toList ve.data.toList)) := change_any HS.out H.out hdis hb hn (.inl rfl) hle.1 hle.2
    cases hgv : getV st.V ke.data.toList
    · have HE : Hid (setF fl st ke.data.toList ve.data.toList = chgF fl st 1 ke.data.toList ve.data.toList) := by
        show _ = _; unfold setF; rw [if_neg (by show ¬ okLens 1 ke.size ve.size = false; rw [HOK.out]; simp), hgv, if_neg (by simp)]
      rw [hgv] at hlk
      simp only [Option.getD_none, Option.isSome_none] at hlk
      clear hgv
      go_enter Tryz.func43, Tryz.ntmps43
      go_wp2_with fail
      refine HPM.out.mono ?_
      rintro e w' ⟨rfl, rfl⟩
      go_wp2_with fail
      refine HCG.out.mono ?_
      rintro e w5 ⟨rfl, hl⟩
      have HL := Lib.hid hl
      clear hl HCG
      go_wp2_with fail
      go_ret
      rw [HE.out]
      exact ⟨rfl, HL.out⟩
    · rename_i ov
      rw [hgv] at hlk
      simp only [Option.getD_some, Option.isSome_some] at hlk
      obtain ⟨oe, hoe⟩ : ∃ s : ByteArray, s = ⟨ov.toArray⟩ := ⟨_, rfl⟩
      have hol : oe.data.toList = ov := by rw [hoe]
      rw [show str ov = .string oe by rw [hoe]] at hlk
      by_cases heq : oe = ve
      · have HE : Hid (setF fl st ke.data.toList ve.data.toList = (0, fl, st)) := by
          show _ = _; unfold setF; rw [if_neg (by show ¬ okLens 1 ke.size ve.size = false; rw [HOK.out]; simp), hgv, if_pos (by rw [← hol, heq])]
        have hd1 : (oe.toList == ve.toList) = true := by rw [heq]; simp
        have HEQ := Lib.hid heq
        clear hgv hoe hol heq
        go_enter Tryz.func43, Tryz.ntmps43
        go_wp2_with fail
        refine HPM.out.mono ?_
        rintro e w' ⟨rfl, rfl⟩
        go_wp2_with fail
        go_ret
        rw [HE.out]
        exact ⟨rfl, HLS.out.1⟩
      · have HE : Hid (setF fl st ke.data.toList ve.data.toList = chgF fl st 1 ke.data.toList ve.data.toList) := by
          show _ = _; unfold setF; rw [if_neg (by show ¬ okLens 1 ke.size ve.size = false; rw [HOK.out]; simp), hgv, if_neg (by
            intro h9
            apply heq
            have h8 := Option.some.inj h9
            rw [hoe, h8])]
        have hd1 : (oe.toList == ve.toList) = false := by
          rw [beq_eq_false_iff_ne]
          intro h9
          rw [ByteArray.toList_eq, ByteArray.toList_eq] at h9
          exact heq (by cases oe; cases ve; congr 1; exact Array.toList_inj.1 h9)
        clear hgv hoe hol
        go_enter Tryz.func43, Tryz.ntmps43
        go_wp2_with fail
        refine HPM.out.mono ?_
        rintro e w' ⟨rfl, rfl⟩
        go_wp2_with fail
        refine HCG.out.mono ?_
        rintro e w5 ⟨rfl, hl⟩
        have HL := Lib.hid hl
        clear hl HCG
        go_wp2_with fail
        go_ret
        rw [HE.out]
        exact ⟨rfl, HL.out⟩
set_option maxRecDepth 100000 in
set_option maxHeartbeats 2000000 in
theorem delete_any (hs : SW w DS S X m n st) (h : FW w D X y fl) (hdis : ∀ k, D k → ¬ DS k) (hb : st.blk < fl.B) (hn : n < 1000) {ke : ByteArray} (hke : ke.size ≤ 1000000) :
    Calls Tryz.prog 58 #[fptr S, .string ke] w fun e w' => e = .returned (.int .i64 (delF fl st ke.data.toList).1) ∧ Left w w' D DS S X n y (delF fl st ke.data.toList) := by
  have H := Lib.hid h
  have HS := Lib.hid hs
  have HPM : Hid (Calls Tryz.prog 106 #[.int .i64 2, .int .i64 (ke.size : Int), .int .i64 0] w fun e w' => e = .returned (.bool (okLens 2 ke.size 0)) ∧ w = w') := permitted_any 2 ke.size 0 w (by omega) (by omega)
  have hlk := hs.map.look (s := ke) (by unfold maxLen; omega)
  have c1 := hs.c1
  have HLS : Hid (Left w w D DS S X n y (6, fl, st) ∧ Left w w D DS S X n y (1, fl, st)) := ⟨Left.same rfl h (Ch.refl D w) hs hdis, Left.same rfl h (Ch.refl D w) hs hdis⟩
  obtain ⟨ok, hok⟩ : ∃ ok, okLens 2 ke.size 0 = ok := ⟨_, rfl⟩
  rw [hok] at HPM
  have HOK := Lib.hid hok
  clear h hs hok
  cases ok
  · have HE : Hid (delF fl st ke.data.toList = (1, fl, st)) := by show _ = _; unfold delF; rw [if_pos]; exact HOK.out
    go_enter Tryz.func58, Tryz.ntmps58
    go_wp2_with fail
    refine HPM.out.mono ?_
    rintro e w' ⟨rfl, rfl⟩
    go_wp2_with fail
    go_ret
    rw [HE.out]
    exact ⟨rfl, HLS.out.2⟩
  · have hle := okLens_le HOK.out
    have HCG : Hid (Calls Tryz.prog 107 #[fptr S, .int .i64 2, .string ke, .string ⟨#[]⟩] w fun e w' => e = .returned (.int .i64 (chgF fl st 2 ke.data.toList []).1) ∧ Left w w' D DS S X n y (chgF fl st 2 ke.data.toList [])) := change_any HS.out H.out hdis hb hn (.inr rfl) hle.1 (ve := ⟨#[]⟩) hle.2
    cases hgv : getV st.V ke.data.toList
    · have HE : Hid (delF fl st ke.data.toList = (6, fl, st)) := by
        show _ = _; unfold delF; rw [if_neg (by show ¬ okLens 2 ke.size 0 = false; rw [HOK.out]; simp), hgv, if_pos rfl]
      rw [hgv] at hlk
      simp only [Option.getD_none, Option.isSome_none] at hlk
      clear hgv
      go_enter Tryz.func58, Tryz.ntmps58
      go_wp2_with fail
      refine HPM.out.mono ?_
      rintro e w' ⟨rfl, rfl⟩
      go_wp2_with fail
      go_ret
      rw [HE.out]
      exact ⟨rfl, HLS.out.1⟩
    · have HE : Hid (delF fl st ke.data.toList = chgF fl st 2 ke.data.toList []) := by
        show _ = _; unfold delF; rw [if_neg (by show ¬ okLens 2 ke.size 0 = false; rw [HOK.out]; simp), hgv, if_neg (by simp)]
      rw [hgv] at hlk
      simp only [Option.getD_some, Option.isSome_some] at hlk
      clear hgv
      go_enter Tryz.func58, Tryz.ntmps58
      go_wp2_with fail
      refine HPM.out.mono ?_
      rintro e w' ⟨rfl, rfl⟩
      go_wp2_with fail
      refine HCG.out.mono ?_
      rintro e w5 ⟨rfl, hl⟩
      have HL := Lib.hid hl
      clear hl HCG
      go_wp2_with fail
      go_ret
      rw [HE.out]
      exact ⟨rfl, HL.out⟩
end
end Go.Proofs.YtdinbpdpalgohaaGreatDoor
namespace Go.Proofs.YtdinbpdpalgohaaGreatDoor
open Go.RowKit
def fmt1 : Nat → Nat → FL → Int × FL
  | 0, _, fl => (0, fl)
  | r + 1, b, fl => if fl.off = true then (16, fl) else if blankP (pgsF fl b) = true then fmt1 r (b + 1) fl else if (eraseF fl b).1 ≠ 0 then eraseF fl b else fmt1 r (b + 1) (eraseF fl b).2
def least (fl : FL) (k : Nat) : Nat := (List.range k).foldl (fun l b => if fl.er b < fl.er l then b else l) 0
theorem least_succ (fl : FL) (k : Nat) : least fl (k + 1) = if fl.er k < fl.er (least fl k) then k else least fl k := by
  unfold least
  rw [List.range_succ, List.foldl_append]
  rfl
def fmtF (fl : FL) : Int × FL :=
  if (decide (2 ≤ fl.B) && decide (2 ≤ fl.P)) = false then (1, fl) else
  if (fmt1 fl.B 0 fl).1 ≠ 0 then fmt1 fl.B 0 fl else wrL (fmt1 fl.B 0 fl).2 (least (fmt1 fl.B 0 fl).2 fl.B) 0 (pagesR (hdr 1))
section
variable {w w' : World} {D : Nat → Prop} {X : Nat} {y : FLay} {fl : FL}
set_option maxRecDepth 100000 in
set_option maxHeartbeats 2000000 in
theorem format_any (h : FW w D X y fl) : Calls Tryz.prog 35 #[fptr X] w fun e w' => e = .returned (.int .i64 (fmtF fl).1) ∧ FW w' D X y (fmtF fl).2 ∧ Ch D w w' := by
  have HUS := Lib.hid (usable_any h)
  have H := Lib.hid h
  have hB := h.hB
  have hP := h.hP
  obtain ⟨us, hus⟩ : ∃ us, (decide (2 ≤ fl.B) && decide (2 ≤ fl.P)) = us := ⟨_, rfl⟩
  rw [hus] at HUS
  have HU := Lib.hid hus
  clear h hus
  cases us
  · have HE : Hid (fmtF fl = (1, fl)) := by show _ = _; unfold fmtF; rw [if_pos HU.out]
    go_enter Tryz.func35, Tryz.ntmps35
    go_wp2_with fail
    refine HUS.out.mono ?_
    rintro e w1 ⟨rfl, b1⟩
    have HF1 := Lib.hid (H.out.below b1)
    have HC1 : Hid (Ch D w w1) := Ch.of_below b1 D
    clear b1
    go_wp2_with fail
    go_ret
    rw [HE.out]
    exact ⟨rfl, HF1.out, HC1.out⟩
  · have hB2 : 2 ≤ fl.B := by have := HU.out; simp at this; exact this.1
    have hP2 : 2 ≤ fl.P := by have := HU.out; simp at this; exact this.2
    go_enter Tryz.func35, Tryz.ntmps35
    go_wp2_with fail
    refine HUS.out.mono ?_
    rintro e w1 ⟨rfl, b1⟩
    have HSH := Lib.hid (shape_any (H.out.below b1))
    have HF1 := Lib.hid (H.out.below b1)
    have HC1 : Hid (Ch D w w1) := Ch.of_below b1 D
    clear b1 HUS
    go_wp2_with fail
    refine HSH.out.mono ?_
    rintro e w2 ⟨rfl, b2⟩
    have hfb := field_B (.int .i64 fl.B) (.int .i64 fl.P) (.int .i64 fl.E) w2
    have HW0 : Hid (∃ f, FW w2 D X y f ∧ f.B = fl.B ∧ f.P = fl.P ∧ fmt1 fl.B 0 fl = fmt1 (fl.B - 0) 0 f) := ⟨fl, HF1.out.below b2, rfl, rfl, rfl⟩
    have HC2 : Hid (Ch D w w2) := HC1.out.trans (Ch.of_below b2 D)
    clear b2 HF1 HC1 HSH
    go_wp2_with fail
    clear hfb
    go_loopw [15] (fun z wr => ∃ k : Nat, k ≤ fl.B ∧ z = .int .i64 (k : Int) ∧ Hid (∃ f, FW wr D X y f ∧ f.B = fl.B ∧ f.P = fl.P ∧ fmt1 fl.B 0 fl = fmt1 (fl.B - k) k f) ∧ Hid (Ch D w wr)) (fun z _ => fl.B - (intOf z).toNat)
    case atStart => exact ⟨0, by omega, rfl, HW0, HC2⟩
    case round =>
      clear HW0 HC2
      obtain ⟨k, hk, rfl, HF, HC⟩ := hrel
      by_cases hlt : k < fl.B
      · have y0 : (k : Int) < fl.B := by omega
        obtain ⟨f, hf, fB, fP, hfm⟩ := HF.out
        have hkf : k < f.B := by rw [fB]; exact hlt
        rw [show fl.B - k = (fl.B - (k + 1)) + 1 by omega, fmt1] at hfm
        have HRB := Lib.hid (readBlock_any hf hkf)
        have HFF := Lib.hid hf
        have HEQ : Hid (f.B = fl.B ∧ f.P = fl.P) := ⟨fB, fP⟩
        clear HF hf
        cases ho : f.off
        · rw [ho, if_neg (by simp)] at hfm
          have HFM := Lib.hid hfm
          clear hfm
          go_wp2_with fail
          refine HRB.out.mono ?_
          rintro e w3 ⟨b3, ⟨h1, _⟩ | ⟨_, g, rfl, hg, hps⟩⟩
          · rw [ho] at h1; cases h1
          have HF3 := Lib.hid (HFF.out.below b3)
          have HC3 : Hid (Ch D w w3) := HC.out.trans (Ch.of_below b3 D)
          have HIB := Lib.hid (isBlank_any hps (pgsF_len f k) (fun p hp => by
            unfold pgsF at hp
            obtain ⟨j, hj, rfl⟩ := List.mem_map.1 hp
            rw [HF3.out.len k j hkf (by simpa using hj)]
            omega) (by rw [fP]; omega))
          have HER := Lib.hid (erase_any HF3.out hkf)
          obtain ⟨bl, hbl⟩ : ∃ bl, blankP (pgsF f k) = bl := ⟨_, rfl⟩
          rw [hbl] at HIB
          have HBL := Lib.hid hbl
          obtain ⟨e3, f3, he3⟩ : ∃ e f', eraseF f k = (e, f') := ⟨_, _, rfl⟩
          have hsame := eraseF_same f k
          rw [he3] at HER hsame
          have HE3 := Lib.hid he3
          have HSM : Hid (f3.B = fl.B ∧ f3.P = fl.P) := ⟨hsame.1.trans fB, hsame.2.trans fP⟩
          clear hbl b3 hps HRB HC HFF he3 hsame fB fP hg
          cases bl
          · by_cases he : e3 = 0
            · subst he
              have HN : Hid (fmt1 fl.B 0 fl = fmt1 (fl.B - (k + 1)) (k + 1) f3) := by
                show _ = _
                rw [HFM.out, HBL.out, HE3.out, if_neg (by simp), if_neg (by simp)]
              go_wp2_with fail
              refine HIB.out.mono ?_
              rintro e w' ⟨rfl, rfl⟩
              go_wp2_with fail
              refine HER.out.mono ?_
              rintro e w5 ⟨rfl, h5, c5⟩
              have HF5 := Lib.hid h5
              have HC5 : Hid (Ch D w w5) := HC3.out.trans c5
              clear h5 c5
              go_wp2_with fail
              go_roundw
              case rel => exact ⟨k + 1, by omega, by go_num, ⟨f3, HF5.out, HSM.out.1, HSM.out.2, HN.out⟩, HC5⟩
              case measure => simp [intOf]; omega
            · have hed : (e3 == 0) = false := by simpa using he
              have HN : Hid (fmtF fl = (e3, f3)) := by
                have h9 : fmt1 fl.B 0 fl = (e3, f3) := by rw [HFM.out, HBL.out, HE3.out, if_neg (by simp), if_pos he]
                show _ = _
                unfold fmtF
                rw [if_neg (by rw [HU.out]; simp), h9, if_pos he]
              go_wp2_with fail
              refine HIB.out.mono ?_
              rintro e w' ⟨rfl, rfl⟩
              go_wp2_with fail
              refine HER.out.mono ?_
              rintro e w5 ⟨rfl, h5, c5⟩
              have HF5 := Lib.hid h5
              have HC5 : Hid (Ch D w w5) := HC3.out.trans c5
              clear h5 c5
              go_wp2_with fail
              go_ret
              rw [HN.out]
              exact ⟨rfl, HF5.out, HC5.out⟩
          · have HN : Hid (fmt1 fl.B 0 fl = fmt1 (fl.B - (k + 1)) (k + 1) f) := by
              show _ = _
              rw [HFM.out, HBL.out, if_pos rfl]
            go_wp2_with fail
            refine HIB.out.mono ?_
            rintro e w' ⟨rfl, rfl⟩
            go_wp2_with fail
            go_roundw
            case rel => exact ⟨k + 1, by omega, by go_num, ⟨f, HF3.out, HEQ.out.1, HEQ.out.2, HN.out⟩, HC3⟩
            case measure => simp [intOf]; omega
        · rw [ho, if_pos rfl] at hfm
          have HN : Hid (fmtF fl = (16, f)) := by
            show _ = _
            unfold fmtF
            rw [if_neg (by rw [HU.out]; simp), hfm, if_pos (by simp)]
          clear hfm
          go_wp2_with fail
          refine HRB.out.mono ?_
          rintro e w3 ⟨b3, ⟨_, rfl⟩ | ⟨h1, _⟩⟩
          · have HF3 := Lib.hid (HFF.out.below b3)
            have HC3 : Hid (Ch D w w3) := HC.out.trans (Ch.of_below b3 D)
            clear b3
            go_wp2_with fail
            go_ret
            rw [HN.out]
            exact ⟨rfl, HF3.out, HC3.out⟩
          · rw [ho] at h1; cases h1
      · have ek : k = fl.B := by omega
        obtain ⟨f, hf, fB, fP, hfm⟩ := HF.out
        rw [ek, Nat.sub_self, fmt1] at hfm
        have HFM := Lib.hid hfm
        have HSH := Lib.hid (shape_any hf)
        have HFF := Lib.hid hf
        have HEQ : Hid (f.B = fl.B ∧ f.P = fl.P) := ⟨fB, fP⟩
        rw [fB] at HSH
        clear HF hf hfm fB fP
        go_wp2_with fail
        refine HSH.out.mono ?_
        rintro e w3 ⟨rfl, b3⟩
        have hfb := field_B (.int .i64 fl.B) (.int .i64 f.P) (.int .i64 f.E) w3
        have HF3 := Lib.hid (HFF.out.below b3)
        have HC3 : Hid (Ch D w w3) := HC.out.trans (Ch.of_below b3 D)
        have HL0 : Hid (0 = least f 0) := rfl
        clear b3 HFF HC HSH
        go_wp2_with fail
        clear hfb
        go_loopw [7, 39] (fun x7 z wr => ∃ j l : Nat, j ≤ fl.B ∧ l < fl.B ∧ x7 = .int .i64 (l : Int) ∧ z = .int .i64 (j : Int) ∧ Hid (l = least f j) ∧ Hid (FW wr D X y f) ∧ Hid (Ch D w wr)) (fun _ z _ => fl.B - (intOf z).toNat)
        case atStart => exact ⟨0, 0, by omega, by omega, rfl, rfl, HL0, HF3, HC3⟩
        case round =>
          clear HL0 HF3 HC3
          obtain ⟨j, l, hj, hl, rfl, rfl, HL, HF, HC⟩ := hrel
          by_cases hlt2 : j < fl.B
          · have y0 : (j : Int) < fl.B := by omega
            have HE1 := Lib.hid (erases_any HF.out (b := j) (by rw [HEQ.out.1]; exact hlt2))
            have HE2 := Lib.hid (erases_any HF.out (b := l) (by rw [HEQ.out.1]; exact hl))
            have hle1 : f.er j ≤ 1000000000 := by have := HF.out.her j (by rw [HEQ.out.1]; exact hlt2); have := HF.out.hE; omega
            by_cases hless : f.er j < f.er l
            · have hI : (f.er j : Int) < (f.er l : Int) := by omega
              have HL2 : Hid (j = least f (j + 1)) := by show _ = _; rw [least_succ, ← HL.out, if_pos hless]
              go_wp2_with fail
              refine HE1.out.mono ?_
              rintro e w' ⟨rfl, rfl⟩
              go_wp2_with fail
              refine HE2.out.mono ?_
              rintro e w' ⟨rfl, rfl⟩
              go_wp2_with fail
              go_roundw
              case rel => exact ⟨j + 1, j, by omega, hlt2, rfl, by go_num, HL2, HF, HC⟩
              case measure => simp [intOf]; omega
            · have hI : ¬ (f.er j : Int) < (f.er l : Int) := by omega
              have HL2 : Hid (l = least f (j + 1)) := by show _ = _; rw [least_succ, ← HL.out, if_neg hless]
              go_wp2_with fail
              refine HE1.out.mono ?_
              rintro e w' ⟨rfl, rfl⟩
              go_wp2_with fail
              refine HE2.out.mono ?_
              rintro e w' ⟨rfl, rfl⟩
              go_wp2_with fail
              go_roundw
              case rel => exact ⟨j + 1, l, by omega, hl, rfl, by go_num, HL2, HF, HC⟩
              case measure => simp [intOf]; omega
          · have ej : j = fl.B := by omega
            have HLL : Hid (l = least f fl.B) := by show _ = _; rw [← ej]; exact HL.out
            obtain ⟨hd, hhd⟩ : ∃ s : ByteArray, s = ⟨(hdr 1).toArray⟩ := ⟨_, rfl⟩
            have hdl : hd.data.toList = hdr 1 := by rw [hhd]
            have hdz : hd.size = 13 := by rw [bsz, hdl]; unfold hdr; rw [recd_len]; simp [be8]
            have HHD : Hid (Calls Tryz.prog 91 #[.int .u64 1] wr fun e w' => e = .returned (str (hdr 1)) ∧ Below wr.heap.size wr w') := header_any 1 wr
            rw [show str (hdr 1) = .string hd by rw [hhd]] at HHD
            obtain ⟨e3, f3, he3⟩ : ∃ e f', wrL f l 0 (pagesR (hdr 1)) = (e, f') := ⟨_, _, rfl⟩
            have HWR : Hid (∀ V1, FW V1 D X y f → Calls Tryz.prog 90 #[fptr X, .int .i64 l, .int .i64 0, .string hd] V1 fun e w' => e = .returned (.int .i64 e3) ∧ FW w' D X y f3 ∧ Ch D V1 w') := fun V1 hV1 => by
              have := write_any hV1 (b := l) (p := 0) (d := hd) (by rw [HEQ.out.1]; exact hl) (by omega) (by rw [HEQ.out.2, hdz]; unfold pgs; omega)
              rw [hdl, he3] at this
              exact this
            have HN : Hid (fmtF fl = (e3, f3)) := by
              show _ = _
              unfold fmtF
              rw [if_neg (by rw [HU.out]; simp), HFM.out, if_neg (by simp)]
              show wrL f (least f fl.B) 0 _ = _
              rw [← HLL.out]
              exact he3
            clear hhd hdl he3
            go_wp2_with fail
            refine HHD.out.mono ?_
            rintro e w5 ⟨rfl, b5⟩
            have HF5 := Lib.hid (HF.out.below b5)
            have HC5 : Hid (Ch D w w5) := HC.out.trans (Ch.of_below b5 D)
            clear b5 HF HC
            go_wp2_with fail
            refine (HWR.out w5 HF5.out).mono ?_
            rintro e w6 ⟨rfl, h6, c6⟩
            have HF6 := Lib.hid h6
            have HC6 : Hid (Ch D w w6) := HC5.out.trans c6
            clear h6 c6
            go_wp2_with fail
            go_ret
            rw [HN.out]
            exact ⟨rfl, HF6.out, HC6.out⟩
end
end Go.Proofs.YtdinbpdpalgohaaGreatDoor
namespace Go.Proofs.YtdinbpdpalgohaaGreatDoor
open Go.RowKit
def two64 : Int := 18446744073709551616
def mo (n : Int) (m : Nat) : Nat := (n % two64).toNat % m
theorem mo_lt (n : Int) (m : Nat) (hm : 0 < m) : mo n m < m := Nat.mod_lt _ hm
theorem mo_eq (n : Int) (m : Nat) : (n % 18446744073709551616) % (m : Int) = ((mo n m : Nat) : Int) := by
  have h : 0 ≤ n % 18446744073709551616 := Int.emod_nonneg _ (by decide)
  unfold mo two64
  rw [Int.natCast_emod, Int.toNat_of_nonneg h]
theorem mo_walk (v : Int) (m : Nat) (h2 : 1 ≤ m) (h3 : m ≤ 1000000) : wrap64 ((IntKind.u64.wrap v).tmod m) = ((mo v m : Nat) : Int) := by
  have e : IntKind.u64.wrap v = v % 18446744073709551616 := by simp [IntKind.wrap_u64]
  have h' := mo_lt v m h2
  rw [e, IntWalk.rem_in _ _ (by omega), mo_eq]
  exact IntWalk.wrap64_in _ (by omega)
theorem mod_any (n : Int) (m : Nat) (w : World) (hm : 1 ≤ m) (hm2 : m ≤ 1000000) : Calls Tryz.prog 11 #[.int .i64 n, .int .i64 (m : Int)] w fun e w' => e = .returned (.int .i64 ((mo n m : Nat) : Int)) ∧ w = w' := by
  go_enter Tryz.func11, Tryz.ntmps11
  go_wp2
  go_ret
  exact ⟨ret_int (mo_walk n m hm hm2), rfl⟩
end Go.Proofs.YtdinbpdpalgohaaGreatDoor
namespace Go.Proofs.YtdinbpdpalgohaaGreatDoor
open Go.RowKit
theorem len_take64 {ps : List Str} (hl : ∀ p ∈ ps, p.length = 64) (c : Nat) : (ps.take c).flatten.length = min c ps.length * 64 := by
  rw [flat_len _ (fun p hp => hl p (List.mem_of_mem_take hp)), List.length_take]
theorem dec_some {ps : List Str} {k : Nat} {n v : Str} {c : Nat} (hl : ∀ p ∈ ps, p.length = 64) (h : dec ps = some (k, n, v, c)) :
    okLens k n.length v.length = true ∧ c = pgs (5 + n.length + v.length) ∧ 1 ≤ c ∧ c ≤ ps.length := by
  unfold dec at h
  dsimp only at h
  split at h
  · cases h
  · rename_i h1
    split at h
    · cases h
    · rename_i h2
      split at h
      · simp only [Option.some.injEq, Prod.mk.injEq] at h
        obtain ⟨e1, e2, e3, e4⟩ := h
        have hal := len_take64 hl (pgs (5 + ((ps.getD 0 []).getD 1 0).toNat + ((ps.getD 0 []).getD 2 0).toNat))
        have hp : 5 + ((ps.getD 0 []).getD 1 0).toNat + ((ps.getD 0 []).getD 2 0).toNat ≤ pgs (5 + ((ps.getD 0 []).getD 1 0).toNat + ((ps.getD 0 []).getD 2 0).toNat) * 64 := pgs_le _
        rw [Nat.min_eq_left (by omega)] at hal
        have hn : n.length = ((ps.getD 0 []).getD 1 0).toNat := by
          rw [← e2, List.length_take, List.length_drop, hal]; omega
        have hv : v.length = ((ps.getD 0 []).getD 2 0).toNat := by
          rw [← e3, List.length_take, List.length_drop, hal]; omega
        rw [hn, hv, ← e1, ← e4]
        refine ⟨by simpa using h1, rfl, ?_, by omega⟩
        unfold pgs; omega
      · cases h
theorem okLens_k {k n v : Nat} (h : okLens k n v = true) : k = 1 ∨ k = 2 ∨ k = 3 := by
  unfold okLens at h
  simp only [Bool.or_eq_true, Bool.and_eq_true, beq_iff_eq, decide_eq_true_eq] at h
  rcases h with (h | h) | h
  · exact .inl h.1.1.1
  · exact .inr (.inl h.1.1.1)
  · exact .inr (.inr h.1.1)
def appV (V : Vars) (k : Nat) (n v : Str) : Vars := if k = 1 then setV V n v else if k = 2 then delV V n else V
/-- The records from page n on. -/
def rpl : Nat → List Str → Vars → Nat → Vars × Nat × Bool
  | 0, _, V, n => (V, n, false)
  | f + 1, ps, V, n => if n < ps.length ∧ zeros (ps.getD n []) ≠ 0 then (match dec (ps.drop n) with
    | none => (V, n, true)
    | some (k, nm, v, c) => rpl f ps (appV V k nm v) (n + c)) else (V, n, false)
theorem rpl_stop {f : Nat} {ps : List Str} {V : Vars} {n : Nat} (h : ¬ (n < ps.length ∧ zeros (ps.getD n []) ≠ 0)) : rpl f ps V n = (V, n, false) := by
  cases f with
  | zero => rfl
  | succ f => unfold rpl; rw [if_neg h]
theorem rpl_none {f : Nat} {ps : List Str} {V : Vars} {n : Nat} (h : n < ps.length ∧ zeros (ps.getD n []) ≠ 0) (hd : dec (ps.drop n) = none) : rpl (f + 1) ps V n = (V, n, true) := by
  unfold rpl; rw [if_pos h, hd]
theorem rpl_some {f : Nat} {ps : List Str} {V : Vars} {n k c : Nat} {nm v : Str} (h : n < ps.length ∧ zeros (ps.getD n []) ≠ 0) (hd : dec (ps.drop n) = some (k, nm, v, c)) : rpl (f + 1) ps V n = rpl f ps (appV V k nm v) (n + c) := by
  conv => lhs; unfold rpl
  rw [if_pos h, hd]
theorem mem_delV {V : Vars} {k : Str} {q : Str × Str} (h : q ∈ delV V k) : q ∈ V := (List.mem_filter.1 h).1
theorem appV_srt {V : Vars} (h : Srt V) (k : Nat) (n v : Str) : Srt (appV V k n v) := by
  unfold appV
  split
  · exact h.set n v
  · split
    · exact h.del n
    · exact h
theorem appV_hv {V : Vars} (h : ∀ p ∈ V, p.1.length ≤ 24 ∧ p.2.length ≤ 128) {k : Nat} {n v : Str} (hn : n.length ≤ 24) (hv : v.length ≤ 128) : ∀ p ∈ appV V k n v, p.1.length ≤ 24 ∧ p.2.length ≤ 128 := by
  unfold appV
  intro p hp
  split at hp
  · rcases mem_setV hp with e | e
    · rw [e]; exact ⟨hn, hv⟩
    · exact h p e
  · split at hp
    · exact h p (mem_delV hp)
    · exact h p hp
theorem SW.withNxt {w : World} {D : Nat → Prop} {S X m n nx : Nat} {st : ST} (h : SW w D S X m n st) (hx : nx ≤ 1000) : SW (w.setCell ⟨S, 4, none⟩ (.int .i64 (nx : Int))) D S X m n ⟨st.V, st.blk, st.gen, nx, st.clo⟩ :=
  { top := (h.top.set (i := 4) (by omega) (.int .i64 (nx : Int))).congr fun j hj => by
      rcases (by omega : j = 0 ∨ j = 1 ∨ j = 2 ∨ j = 3 ∨ j = 4 ∨ j = 5) with e | e | e | e | e | e <;> subst e <;> simp [upd, stc]
    map := h.map.ch ((Ch.refl (fun x => x = S) w).setCell (p := ⟨S, 4, none⟩) (fun _ => rfl) _) h.mS
    dS := h.dS, dm := h.dm, fin := fun k hk => by simpa [World.setCell] using h.fin k hk
    srt := h.srt, hv := h.hv, hg := h.hg, hn := hx, hb := h.hb }
theorem SW.withClo {w : World} {D : Nat → Prop} {S X m n : Nat} {st : ST} (h : SW w D S X m n st) (c : Bool) : SW (w.setCell ⟨S, 5, none⟩ (.bool c)) D S X m n ⟨st.V, st.blk, st.gen, st.nxt, c⟩ :=
  { top := (h.top.set (i := 5) (by omega) (.bool c)).congr fun j hj => by
      rcases (by omega : j = 0 ∨ j = 1 ∨ j = 2 ∨ j = 3 ∨ j = 4 ∨ j = 5) with e | e | e | e | e | e <;> subst e <;> simp [upd, stc]
    map := h.map.ch ((Ch.refl (fun x => x = S) w).setCell (p := ⟨S, 5, none⟩) (fun _ => rfl) _) h.mS
    dS := h.dS, dm := h.dm, fin := fun k hk => by simpa [World.setCell] using h.fin k hk
    srt := h.srt, hv := h.hv, hg := h.hg, hn := h.hn, hb := h.hb }
theorem SW.withMap {w w' : World} {D : Nat → Prop} {S X m n n' : Nat} {st : ST} {V : Vars} (h : SW w D S X m n st) (c : Ch (fun x => x = m) w w') (hm : SM w' m n' V) (hs : Srt V) (hv : ∀ p ∈ V, p.1.length ≤ 24 ∧ p.2.length ≤ 128) : SW w' D S X m n' ⟨V, st.blk, st.gen, st.nxt, st.clo⟩ :=
  { top := (h.top.ch c (fun e => h.mS e.symm)).congr fun j hj => by
      rcases (by omega : j = 0 ∨ j = 1 ∨ j = 2 ∨ j = 3 ∨ j = 4 ∨ j = 5) with e | e | e | e | e | e <;> subst e <;> rfl
    map := hm, dS := h.dS, dm := h.dm, fin := fun k hk => Nat.lt_of_lt_of_le (h.fin k hk) c.size
    srt := hs, hv := hv, hg := h.hg, hn := h.hn, hb := h.hb }

section
variable {w : World} {D : Nat → Prop} {S X m n g cap P : Nat} {st : ST} {ps : List Str}
set_option maxRecDepth 100000 in
set_option maxHeartbeats 1000000 in
theorem replay_any (hs : SW w D S X m n st) (h : PS w g 0 cap ps) (hP : ps.length = P) (hP2 : P ≤ 32) (hl : ∀ p ∈ ps, p.length = 64) (hg : ¬ D g) (hn : n ≤ 900) (hc : st.clo = false) (hx : st.nxt ≤ P) :
    Calls Tryz.prog 101 #[fptr S, .slice (some ⟨g, 0, none⟩) P cap] w fun e w' => e = .returned (.tuple #[]) ∧ SW w' D S X m (n + P) ⟨(rpl P ps st.V st.nxt).1, st.blk, st.gen, (rpl P ps st.V st.nxt).2.1, (rpl P ps st.V st.nxt).2.2⟩ ∧ Ch D w w' := by
  have hcap : P ≤ cap := by have := h.2.1; omega
  have hcapM := h.2.2.1
  have H := Lib.hid h
  have HP := Lib.hid hP
  have HL := Lib.hid hl
  have HG := Lib.hid hg
  have c40 := hs.c4
  have HS0 : Hid (SW w D S X m (n + 0) ⟨st.V, st.blk, st.gen, st.nxt, false⟩) := by rw [← hc]; exact hs
  have HE0 : Hid (rpl P ps st.V st.nxt = rpl (P - 0) ps st.V st.nxt) := rfl
  have HC0 : Hid (Ch D w w) := Ch.refl _ _
  have HCL := Lib.hid hc
  clear h hP hl hg hc hs
  go_enter Tryz.func101, Tryz.ntmps101
  go_wp2_with fail
  go_loopw [] (fun wr => ∃ (i nx : Nat) (V : Vars), i ≤ nx ∧ nx ≤ P ∧ wr.cell? ⟨S, 4, none⟩ = some (.int .i64 nx) ∧ Hid (rpl P ps st.V st.nxt = rpl (P - i) ps V nx) ∧ Hid (SW wr D S X m (n + i) ⟨V, st.blk, st.gen, nx, false⟩) ∧ Hid (Ch D w wr)) (fun wr => P - (intOf ((wr.cell? ⟨S, 4, none⟩).getD undef)).toNat)
  case atStart => exact ⟨0, st.nxt, st.V, by omega, hx, c40, HE0, HS0, HC0⟩
  case round =>
    clear c40 HS0 HE0 HC0
    obtain ⟨i, nx, V, hi, hnx, c4, HE, HS, HC⟩ := hrel
    by_cases hlt : nx < P
    · have y0 : (nx : Int) < P := by omega
      have HPr : Hid (PS wr g 0 cap ps) := H.out.ch HC.out HG.out
      obtain ⟨pg, hpg⟩ : ∃ s : ByteArray, s = ⟨(ps.getD nx []).toArray⟩ := ⟨_, rfl⟩
      have hpl : pg.data.toList = ps.getD nx [] := by rw [hpg]
      have hpz : pg.size = 64 := by
        have h0 : nx < ps.length := by rw [HP.out]; exact hlt
        have h1 : ps.getD nx [] = ps[nx] := by rw [List.getD_eq_getElem?_getD, List.getElem?_eq_getElem h0]; rfl
        rw [bsz, hpl, h1]
        exact HL.out _ (List.getElem_mem h0)
      have cp : wr.cell? ⟨g, nx, none⟩ = some (.string pg) := by
        have := HPr.out.2.2.2 nx (by rw [HP.out]; exact hlt)
        rw [Nat.zero_add] at this
        rw [this, hpg]
      have HZ := Lib.hid (zeroBits_any pg wr (by omega))
      rw [hpl] at HZ
      by_cases hz : zeros (ps.getD nx []) = 0
      · rw [hz] at HZ
        have HN : Hid (rpl P ps st.V st.nxt = (V, nx, false)) := by
          show _ = _
          rw [HE.out, rpl_stop (fun h => h.2 hz)]
        clear hpg hpl hz HE
        go_wp2_with fail
        refine HZ.out.mono ?_
        rintro e w' ⟨rfl, rfl⟩
        go_wp2_with fail
        go_end0
        rw [HN.out]
        exact ⟨rfl, HS.out.mono (by omega), HC.out⟩
      · have hzd : ((((zeros (ps.getD nx []) : Nat) : Int)) == 0) = false := by simpa using hz
        have HNZ : Hid (nx < ps.length ∧ zeros (ps.getD nx []) ≠ 0) := ⟨by rw [HP.out]; exact hlt, hz⟩
        obtain ⟨z, hzz⟩ : ∃ z, zeros (ps.getD nx []) = z := ⟨_, rfl⟩
        rw [hzz] at HZ hzd hz
        have hzI : ¬ (z : Int) = 0 := by omega
        have hdl : (ps.drop nx).length = P - nx := by rw [List.length_drop, HP.out]
        have HDC := Lib.hid (decode_any (HPr.out.drop (k := nx) (by rw [HP.out]; omega)) hdl (by omega) (by omega) (fun p hp => HL.out p (List.mem_of_mem_drop hp)))
        rw [Nat.zero_add] at HDC
        clear hpg hpl hzz hdl
        go_wp2_with fail
        refine HZ.out.mono ?_
        rintro e w' ⟨rfl, rfl⟩
        go_wp2_with fail
        refine HDC.out.mono ?_
        rintro e w3 ⟨rfl, b3⟩
        have HS3 := Lib.hid (HS.out.ch (Ch.of_below b3 (fun _ => False)) (fun _ _ h => h))
        have HC3 : Hid (Ch D w w3) := HC.out.trans (Ch.of_below b3 D)
        clear HS HC b3 HDC HPr
        rcases hdec : dec (ps.drop nx) with _ | ⟨k, nm, v, c⟩
        · have HN : Hid (rpl P ps st.V st.nxt = (V, nx, true)) := by
            show _ = _
            rw [HE.out, show P - i = (P - i - 1) + 1 by omega, rpl_none HNZ.out hdec]
          have hB4 : Below w3.heap.size w3 (w3.alloc (.cells #[.int .i64 0, .string ⟨#[]⟩, .string ⟨#[]⟩, .int .i64 0] 160)) := (Below.refl _ _).alloc (Nat.le_refl _) _
          have HS4 := Lib.hid (HS3.out.below hB4)
          have HC4 : Hid (Ch D w (w3.alloc (.cells #[.int .i64 0, .string ⟨#[]⟩, .string ⟨#[]⟩, .int .i64 0] 160))) := HC3.out.trans (Ch.of_below hB4 D)
          have c5 := HS4.out.c5
          have f5 := HS4.out.top.frozen 5
          have HS5 := Lib.hid (HS4.out.withClo true)
          have HC5 := Lib.hid (HC4.out.setCell (p := ⟨S, 5, none⟩) (fun _ => HS4.out.dS) (.bool true))
          clear hdec hB4 HS3 HC3
          simp only [decV]
          go_wp2_with fail
          refine bodyPost_ret (results_none rfl _ _ _) rfl ?_
          rw [HN.out]
          exact ⟨rfl, HS5.out.mono (by omega), HC5.out⟩
        · have hds := dec_some (fun p hp => HL.out p (List.mem_of_mem_drop hp)) hdec
          rw [List.length_drop, HP.out] at hds
          obtain ⟨hok, hc0, hc1, hc2⟩ := hds
          have hle := okLens_le hok
          have hk := okLens_k hok
          have HN : Hid (rpl P ps st.V st.nxt = rpl (P - (i + 1)) ps (appV V k nm v) (nx + c)) := by
            show _ = _
            rw [HE.out, show P - i = (P - (i + 1)) + 1 by omega, rpl_some HNZ.out hdec]
          obtain ⟨ne, hne⟩ : ∃ s : ByteArray, s = ⟨nm.toArray⟩ := ⟨_, rfl⟩
          obtain ⟨ve, hve⟩ : ∃ s : ByteArray, s = ⟨v.toArray⟩ := ⟨_, rfl⟩
          have hnl : ne.data.toList = nm := by rw [hne]
          have hvl : ve.data.toList = v := by rw [hve]
          have hns : ne.size ≤ 24 := by rw [bsz, hnl]; exact hle.1
          have e1 : str nm = .string ne := by rw [hne]
          have e2 : str v = .string ve := by rw [hve]
          have hB4 : Below w3.heap.size w3 (w3.alloc (.cells #[.int .i64 k, .string ne, .string ve, .int .i64 c] 160)) := (Below.refl _ _).alloc (Nat.le_refl _) _
          have HS4 := Lib.hid (HS3.out.below hB4)
          have HC4 : Hid (Ch D w (w3.alloc (.cells #[.int .i64 k, .string ne, .string ve, .int .i64 c] 160))) := HC3.out.trans (Ch.of_below hB4 D)
          have HR4 : Hid (Rg (w3.alloc (.cells #[.int .i64 k, .string ne, .string ve, .int .i64 c] 160)) w3.heap.size 160 4 (fun j => if j = 0 then .int .i64 k else if j = 1 then .string ne else if j = 2 then .string ve else .int .i64 c)) :=
            ⟨_, heap_alloc_new w3 _, fun j hj => by rcases (by omega : j = 0 ∨ j = 1 ∨ j = 2 ∨ j = 3) with e | e | e | e <;> subst e <;> rfl⟩
          have HNV : Hid (nm = ne.data.toList ∧ v = ve.data.toList) := ⟨hnl.symm, hvl.symm⟩
          have HLE := Lib.hid hle
          have hlt3 : ∀ k, D k → k < w3.heap.size := fun k hk => HS3.out.fin k hk
          have HDR : Hid (¬ D w3.heap.size) := fun h => Nat.lt_irrefl _ (hlt3 _ h)
          clear hdec hB4 HS3 HC3 hne hve hnl hvl hle hlt3 hok hc0
          simp only [decV]
          rw [e1, e2]
          clear e1 e2
          have q0 := HR4.out.cell (i := 0) (by omega)
          rw [if_pos rfl] at q0
          obtain ⟨R, hR⟩ : ∃ R, w3.heap.size = R := ⟨_, rfl⟩
          have hmd : SM (w3.alloc (.cells #[.int .i64 k, .string ne, .string ve, .int .i64 c] 160)).drew m (n + i) V := HS4.out.map.ch ((Ch.refl (fun _ => False) _).drew) id
          have S6 : Hid ((w3.alloc (.cells #[.int .i64 k, .string ne, .string ve, .int .i64 c] 160)).drew.cell? ⟨S, 1, none⟩ = some (.map (some m)) ∧ (w3.alloc (.cells #[.int .i64 k, .string ne, .string ve, .int .i64 c] 160)).drew.cell? ⟨w3.heap.size, 1, none⟩ = some (.string ne) ∧ (w3.alloc (.cells #[.int .i64 k, .string ne, .string ve, .int .i64 c] 160)).drew.cell? ⟨w3.heap.size, 2, none⟩ = some (.string ve)) := ⟨HS4.out.c1, HR4.out.cell (i := 1) (by omega), HR4.out.cell (i := 2) (by omega)⟩
          have hRm : w3.heap.size ≠ m := fun e => HDR.out (e ▸ HS4.out.dm)
          have hSd := HS4.out.ch ((Ch.refl (fun _ => False) _).drew) (fun _ _ h => h)
          rcases hk with hk1 | hk1 | hk1
          · have hd1 : ((k : Int) == 1) = true := by rw [hk1]; rfl
            have hd2 : ((k : Int) == 2) = false := by rw [hk1]; rfl
            obtain ⟨w5, hru, hm5, c5⟩ := hmd.store (by omega) (s := ne) (by unfold maxLen; omega) ve
            have HS5 : Hid (SW w5 D S X m (n + (i + 1)) ⟨appV V k nm v, st.blk, st.gen, nx, false⟩) := by
              have := hSd.withMap c5 (hm5.mono (n' := n + (i + 1)) (by omega)) (hSd.srt.set _ _) (appV_hv (k := 1) hSd.hv (n := ne.data.toList) (v := ve.data.toList) (by rw [← HNV.out.1]; exact HLE.out.1) (by rw [← HNV.out.2]; exact HLE.out.2))
              rw [hk1, HNV.out.1, HNV.out.2]
              exact this
            have HC5 : Hid (Ch D w w5) := (HC4.out.drew).andThen c5 (fun i e _ => by rw [e]; exact HS4.out.dm)
            have HR5 := Lib.hid ((HR4.out.ch ((Ch.refl (fun _ => False) _).drew) id).ch c5 hRm)
            clear hmd hm5 c5 hSd HS4 HC4 HR4 hk1
            go_wp2_with fail
            generalize w3.alloc (.cells #[.int .i64 k, .string ne, .string ve, .int .i64 c] 160) = w4 at *
            rw [hR] at HR5 S6
            refine wp_region_pl (fun Y => Y.cell? ⟨S, 1, none⟩ = some (.map (some m)) ∧ Y.cell? ⟨R, 1, none⟩ = some (.string ne) ∧ Y.cell? ⟨R, 2, none⟩ = some (.string ve)) ((0, 0) :: (1, 0) :: (2, 0) :: (3, 0) :: (4, 0) :: (5, 0) :: (6, 0) :: (7, 0) :: (8, 2) :: []) (by kernel_rfl) (by kernel_rfl) ?_
            iterate 8 (apply wpP_go; (focus rfl); (focus rfl); (focus exact S6.out); (focus (rintro Z ⟨s0, s1, s2⟩; go_simp; exact rfl)); intro K hK; go_simp; refine hK _ ?_; clear hK K)
            apply wpP_two
            focus rfl
            intro K hK
            go_simp
            refine hK _ _ ?_
            clear hK K hru
            refine wpP_done ?_
            clear S6
            have hwi : IntKind.i64.wrap ((nx : Int) + (c : Int)) = (nx : Int) + (c : Int) := IntWalk.i64_in _ ⟨by omega, by omega⟩
            have S9 : Hid (w5.drew.cell? ⟨S, 4, none⟩ = some (.int .i64 nx) ∧ w5.drew.cell? ⟨R, 3, none⟩ = some (.int .i64 c)) := ⟨HS5.out.c4, HR5.out.cell (i := 3) (by omega)⟩
            have f4 : w5.drew.frozen? ⟨S, 4, none⟩ = false := HS5.out.top.frozen 4
            have HS6 : Hid (SW (w5.drew.setCell ⟨S, 4, none⟩ (.int .i64 ((nx : Int) + (c : Int)))) D S X m (n + (i + 1)) ⟨appV V k nm v, st.blk, st.gen, nx + c, false⟩) := by
              have := (HS5.out.ch ((Ch.refl (fun _ => False) w5).drew) (fun _ _ h => h)).withNxt (nx := nx + c) (by omega)
              rw [show ((nx + c : Nat) : Int) = (nx : Int) + (c : Int) by omega] at this
              exact this
            have HC6 : Hid (Ch D w (w5.drew.setCell ⟨S, 4, none⟩ (.int .i64 ((nx : Int) + (c : Int))))) := (HC5.out.drew).setCell (p := ⟨S, 4, none⟩) (fun _ => HS5.out.dS) _
            have z4 : (w5.setCell ⟨S, 4, none⟩ (.int .i64 ((nx : Int) + (c : Int)))).drew.cell? ⟨S, 4, none⟩ = some (.int .i64 ((nx : Int) + (c : Int))) := by
              have := HS6.out.c4
              rw [show ((nx + c : Nat) : Int) = (nx : Int) + (c : Int) by omega] at this
              exact this
            clear HS5 HC5 HR5
            go_wp2_with fail
            refine wp_region_pl (fun Y => Y.cell? ⟨S, 4, none⟩ = some (.int .i64 nx) ∧ Y.cell? ⟨R, 3, none⟩ = some (.int .i64 c)) ((0, 0) :: (1, 0) :: (2, 0) :: (3, 0) :: (4, 0) :: (5, 0) :: (6, 0) :: (7, 1) :: (8, 1) :: (9, 2) :: []) (by kernel_rfl) (by kernel_rfl) ?_
            iterate 7 (apply wpP_go; (focus rfl); (focus rfl); (focus exact S9.out); (focus (rintro Z ⟨s0, s1⟩; go_simp; exact rfl)); intro K hK; go_simp; refine hK _ ?_; clear hK K)
            iterate 2 (apply wpP_one; (focus rfl); intro K hK; go_simp; refine hK _ _ S9.out ?_; clear hK K)
            have q4 := S9.out.1
            apply wpP_two
            focus rfl
            intro K hK
            go_simp
            refine hK _ _ ?_
            clear hK K q4
            refine wpP_done ?_
            clear S9
            go_wp2_with fail
            go_roundw
            case rel => exact ⟨i + 1, nx + c, appV V k nm v, by omega, by omega, by rw [z4]; simp, HN, HS6, HC6⟩
            case measure => rw [z4]; simp [intOf, c4]; omega
          · have hd1 : ((k : Int) == 1) = false := by rw [hk1]; rfl
            have hd2 : ((k : Int) == 2) = true := by rw [hk1]; rfl
            obtain ⟨w5, hru, hm5, c5⟩ := hmd.drop (s := ne) (by unfold maxLen; omega) 0
            have HS5 : Hid (SW w5 D S X m (n + (i + 1)) ⟨appV V k nm v, st.blk, st.gen, nx, false⟩) := by
              have := hSd.withMap c5 (hm5.mono (n' := n + (i + 1)) (by omega)) (hSd.srt.del _) (appV_hv (k := 2) hSd.hv (n := ne.data.toList) (v := ve.data.toList) (by rw [← HNV.out.1]; exact HLE.out.1) (by rw [← HNV.out.2]; exact HLE.out.2))
              rw [hk1, HNV.out.1]
              exact this
            have HC5 : Hid (Ch D w w5) := (HC4.out.drew).andThen c5 (fun i e _ => by rw [e]; exact HS4.out.dm)
            have HR5 := Lib.hid ((HR4.out.ch ((Ch.refl (fun _ => False) _).drew) id).ch c5 hRm)
            clear hmd hm5 c5 hSd HS4 HC4 HR4 hk1
            go_wp2_with fail
            generalize w3.alloc (.cells #[.int .i64 k, .string ne, .string ve, .int .i64 c] 160) = w4 at *
            rw [hR] at HR5 S6
            refine wp_region_pl (fun Y => Y.cell? ⟨S, 1, none⟩ = some (.map (some m)) ∧ Y.cell? ⟨R, 1, none⟩ = some (.string ne) ∧ Y.cell? ⟨R, 2, none⟩ = some (.string ve)) ((0, 0) :: (1, 0) :: (2, 0) :: (3, 0) :: (4, 0) :: (5, 0) :: (6, 1) :: []) (by kernel_rfl) (by kernel_rfl) ?_
            iterate 6 (apply wpP_go; (focus rfl); (focus rfl); (focus exact S6.out); (focus (rintro Z ⟨s0, s1, s2⟩; go_simp; exact rfl)); intro K hK; go_simp; refine hK _ ?_; clear hK K)
            apply wpP_one
            focus rfl
            intro K hK
            go_simp
            refine hK _ _ ⟨HS5.out.c1, HR5.out.cell (i := 1) (by omega), HR5.out.cell (i := 2) (by omega)⟩ ?_
            clear hK K hru
            refine wpP_done ?_
            clear S6
            have hwi : IntKind.i64.wrap ((nx : Int) + (c : Int)) = (nx : Int) + (c : Int) := IntWalk.i64_in _ ⟨by omega, by omega⟩
            have S9 : Hid (w5.drew.cell? ⟨S, 4, none⟩ = some (.int .i64 nx) ∧ w5.drew.cell? ⟨R, 3, none⟩ = some (.int .i64 c)) := ⟨HS5.out.c4, HR5.out.cell (i := 3) (by omega)⟩
            have f4 : w5.drew.frozen? ⟨S, 4, none⟩ = false := HS5.out.top.frozen 4
            have HS6 : Hid (SW (w5.drew.setCell ⟨S, 4, none⟩ (.int .i64 ((nx : Int) + (c : Int)))) D S X m (n + (i + 1)) ⟨appV V k nm v, st.blk, st.gen, nx + c, false⟩) := by
              have := (HS5.out.ch ((Ch.refl (fun _ => False) w5).drew) (fun _ _ h => h)).withNxt (nx := nx + c) (by omega)
              rw [show ((nx + c : Nat) : Int) = (nx : Int) + (c : Int) by omega] at this
              exact this
            have HC6 : Hid (Ch D w (w5.drew.setCell ⟨S, 4, none⟩ (.int .i64 ((nx : Int) + (c : Int))))) := (HC5.out.drew).setCell (p := ⟨S, 4, none⟩) (fun _ => HS5.out.dS) _
            have z4 : (w5.setCell ⟨S, 4, none⟩ (.int .i64 ((nx : Int) + (c : Int)))).drew.cell? ⟨S, 4, none⟩ = some (.int .i64 ((nx : Int) + (c : Int))) := by
              have := HS6.out.c4
              rw [show ((nx + c : Nat) : Int) = (nx : Int) + (c : Int) by omega] at this
              exact this
            clear HS5 HC5 HR5
            go_wp2_with fail
            refine wp_region_pl (fun Y => Y.cell? ⟨S, 4, none⟩ = some (.int .i64 nx) ∧ Y.cell? ⟨R, 3, none⟩ = some (.int .i64 c)) ((0, 0) :: (1, 0) :: (2, 0) :: (3, 0) :: (4, 0) :: (5, 0) :: (6, 0) :: (7, 1) :: (8, 1) :: (9, 2) :: []) (by kernel_rfl) (by kernel_rfl) ?_
            iterate 7 (apply wpP_go; (focus rfl); (focus rfl); (focus exact S9.out); (focus (rintro Z ⟨s0, s1⟩; go_simp; exact rfl)); intro K hK; go_simp; refine hK _ ?_; clear hK K)
            iterate 2 (apply wpP_one; (focus rfl); intro K hK; go_simp; refine hK _ _ S9.out ?_; clear hK K)
            have q4 := S9.out.1
            apply wpP_two
            focus rfl
            intro K hK
            go_simp
            refine hK _ _ ?_
            clear hK K q4
            refine wpP_done ?_
            clear S9
            go_wp2_with fail
            go_roundw
            case rel => exact ⟨i + 1, nx + c, appV V k nm v, by omega, by omega, by rw [z4]; simp, HN, HS6, HC6⟩
            case measure => rw [z4]; simp [intOf, c4]; omega
          · have hd1 : ((k : Int) == 1) = false := by rw [hk1]; rfl
            have hd2 : ((k : Int) == 2) = false := by rw [hk1]; rfl
            have HS5 : Hid (SW (w3.alloc (.cells #[.int .i64 k, .string ne, .string ve, .int .i64 c] 160)) D S X m (n + (i + 1)) ⟨appV V k nm v, st.blk, st.gen, nx, false⟩) := by rw [show appV V k nm v = V by rw [hk1]; rfl]; exact HS4.out.mono (by omega)
            have HC5 := HC4
            have HR5 := HR4
            clear hk1
            clear hmd hSd HS4 HC4 HR4 S6
            go_upto_region 9 with fail
            generalize w3.alloc (.cells #[.int .i64 k, .string ne, .string ve, .int .i64 c] 160) = w4 at *
            rw [hR] at HR5
            have hwi : IntKind.i64.wrap ((nx : Int) + (c : Int)) = (nx : Int) + (c : Int) := IntWalk.i64_in _ ⟨by omega, by omega⟩
            have S9 : Hid (w4.drew.cell? ⟨S, 4, none⟩ = some (.int .i64 nx) ∧ w4.drew.cell? ⟨R, 3, none⟩ = some (.int .i64 c)) := ⟨HS5.out.c4, HR5.out.cell (i := 3) (by omega)⟩
            have f4 : w4.drew.frozen? ⟨S, 4, none⟩ = false := HS5.out.top.frozen 4
            have HS6 : Hid (SW (w4.drew.setCell ⟨S, 4, none⟩ (.int .i64 ((nx : Int) + (c : Int)))) D S X m (n + (i + 1)) ⟨appV V k nm v, st.blk, st.gen, nx + c, false⟩) := by
              have := (HS5.out.ch ((Ch.refl (fun _ => False) w4).drew) (fun _ _ h => h)).withNxt (nx := nx + c) (by omega)
              rw [show ((nx + c : Nat) : Int) = (nx : Int) + (c : Int) by omega] at this
              exact this
            have HC6 : Hid (Ch D w (w4.drew.setCell ⟨S, 4, none⟩ (.int .i64 ((nx : Int) + (c : Int))))) := (HC5.out.drew).setCell (p := ⟨S, 4, none⟩) (fun _ => HS5.out.dS) _
            have z4 : (w4.setCell ⟨S, 4, none⟩ (.int .i64 ((nx : Int) + (c : Int)))).drew.cell? ⟨S, 4, none⟩ = some (.int .i64 ((nx : Int) + (c : Int))) := by
              have := HS6.out.c4
              rw [show ((nx + c : Nat) : Int) = (nx : Int) + (c : Int) by omega] at this
              exact this
            clear HS5 HC5 HR5
            go_wp2_with fail
            refine wp_region_pl (fun Y => Y.cell? ⟨S, 4, none⟩ = some (.int .i64 nx) ∧ Y.cell? ⟨R, 3, none⟩ = some (.int .i64 c)) ((0, 0) :: (1, 0) :: (2, 0) :: (3, 0) :: (4, 0) :: (5, 0) :: (6, 0) :: (7, 1) :: (8, 1) :: (9, 2) :: []) (by kernel_rfl) (by kernel_rfl) ?_
            iterate 7 (apply wpP_go; (focus rfl); (focus rfl); (focus exact S9.out); (focus (rintro Z ⟨s0, s1⟩; go_simp; exact rfl)); intro K hK; go_simp; refine hK _ ?_; clear hK K)
            iterate 2 (apply wpP_one; (focus rfl); intro K hK; go_simp; refine hK _ _ S9.out ?_; clear hK K)
            have q4 := S9.out.1
            apply wpP_two
            focus rfl
            intro K hK
            go_simp
            refine hK _ _ ?_
            clear hK K q4
            refine wpP_done ?_
            clear S9
            go_wp2_with fail
            go_roundw
            case rel => exact ⟨i + 1, nx + c, appV V k nm v, by omega, by omega, by rw [z4]; simp, HN, HS6, HC6⟩
            case measure => rw [z4]; simp [intOf, c4]; omega
    · have y0 : ¬ (nx : Int) < P := by omega
      have HN : Hid (rpl P ps st.V st.nxt = (V, nx, false)) := by
        show _ = _
        rw [HE.out, rpl_stop (fun h => by have := h.1; rw [HP.out] at this; omega)]
      go_wp2_with fail
      go_end0
      rw [HN.out]
      exact ⟨rfl, HS.out.mono (by omega), HC.out⟩
end
end Go.Proofs.YtdinbpdpalgohaaGreatDoor
