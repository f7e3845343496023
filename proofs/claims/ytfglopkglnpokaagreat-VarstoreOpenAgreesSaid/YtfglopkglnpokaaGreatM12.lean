/- The reference's target, compact, change. Conditions: those that each theorem names. -/
import Derived.Test.YtfglopkglnpokaaGreatM11
namespace Go.Proofs.YtfglopkglnpokaaGreat
open Go.RowKit
/-- The target as the reference tells it. -/
def tgI (t : Nat × Bool × Bool) : Int := if t.2.2 = true then (t.1 : Int) else -1
theorem tgI_same {fl : FL} {blk b : Nat} {t : Nat × Bool × Bool} (h : b = blk ∨ blankP (pgsF fl b) = false ∧ fl.E ≤ fl.er b) : tgI (tstep fl blk t b) = tgI t := by
  unfold tstep
  split
  · rfl
  · rw [if_pos]
    rcases h with h | h
    · rename_i h2; exact absurd (.inl h) h2
    · exact h
theorem tgI_new {fl : FL} {blk b : Nat} {t : Nat × Bool × Bool} (h1 : b ≠ blk) (h2 : ¬ (blankP (pgsF fl b) = false ∧ fl.E ≤ fl.er b)) (h : t.2.2 = false ∨ fl.er b < fl.er t.1) : tgI (tstep fl blk t b) = b := by
  unfold tstep
  rw [if_neg, if_neg h2]
  · rfl
  · rintro (k | ⟨k1, k2⟩)
    · exact h1 k
    · rcases h with h | h
      · rw [h] at k1; cases k1
      · omega
theorem tgI_old {fl : FL} {blk b : Nat} {t : Nat × Bool × Bool} (h : t.2.2 = true ∧ ¬ fl.er b < fl.er t.1) : tgI (tstep fl blk t b) = tgI t := by
  unfold tstep
  rw [if_pos (.inr ⟨h.1, by omega⟩)]
set_option maxRecDepth 100000 in
set_option maxHeartbeats 8000000 in
theorem rtarget_any {w : World} {D : Nat → Prop} {S X : Nat} {y : RLay} {fl : FL} {blk : Nat} (h : RW w D X y fl) (hS : w.cell? ⟨S, 0, none⟩ = some (fptr X)) (hS2 : w.cell? ⟨S, 2, none⟩ = some (.int .i64 blk)) (hSl : S < w.heap.size) (_ : blk ≤ 1000) :
    Calls Tryz.prog 109 #[fptr S] w fun e w' => e = .returned (.int .i64 (tgI (tgtF fl blk))) ∧ Below w.heap.size w w' := by
  have hB := h.hB
  have hE := h.hE
  have hnc := h.nc
  have H := Lib.hid h
  have HS := Lib.hid (And.intro hS hS2)
  have HSL := Lib.hid hSl
  have HB0 : Hid (Below w.heap.size w w) := Below.refl _ _
  have HT : Hid (tgI (tgtF fl blk) = tgI (tgtK fl blk fl.B)) := rfl
  clear h hS hS2 hSl
  go_enter Tryz.func109, Tryz.ntmps109
  go_wp2_with fail
  go_loopw [3, 4] (fun x z wr => ∃ (k : Nat) (ti : Int), k ≤ fl.B ∧ x = .int .i64 ti ∧ z = .int .i64 (k : Int) ∧ Hid (ti = tgI (tgtK fl blk k)) ∧ Hid (Below w.heap.size w wr)) (fun _ z _ => fl.B - (intOf z).toNat)
  case atStart => exact ⟨0, -1, by omega, rfl, rfl, Lib.hid rfl, HB0⟩
  case round =>
    clear HB0
    obtain ⟨k, ti, hk, rfl, rfl, HTI, HB⟩ := hrel
    have hrw := H.out.below HB.out
    have cS0 : wr.cell? ⟨S, 0, none⟩ = some (fptr X) := (HB.out.cell (p := ⟨S, 0, none⟩) HSL.out).trans HS.out.1
    have cS2 : wr.cell? ⟨S, 2, none⟩ = some (.int .i64 blk) := (HB.out.cell (p := ⟨S, 2, none⟩) HSL.out).trans HS.out.2
    have cX0 := hrw.c0
    have cX2 := hrw.c2
    have cX4 := hrw.c4
    by_cases hlt : k < fl.B
    · have y0 : (k : Int) < fl.B := by omega
      have ce := hrw.ce hlt
      have HBK := Lib.hid (rblank_any hrw.drew hlt)
      have her := hrw.her k hlt
      have hts := tgtK_succ fl blk k
      have HTS := Lib.hid hts
      obtain ⟨t, ht⟩ : ∃ t, tgtK fl blk k = t := ⟨_, rfl⟩
      rw [ht] at HTS HTI
      have htB : t.1 < fl.B := by
        have := tgtK_lt fl blk k
        rw [ht] at this
        omega
      have ce2 := hrw.ce htB
      have HB2 : Hid (Below w.heap.size w wr.drew) := HB.out.drew
      have HB3 : Hid (Below w.heap.size w wr.drew.drew) := HB.out.drew.drew
      have c1 : wr.drew.cell? ⟨S, 0, none⟩ = some (fptr X) := cS0
      have c2 : wr.drew.cell? ⟨S, 2, none⟩ = some (.int .i64 blk) := cS2
      have c3 : wr.drew.cell? ⟨X, 4, none⟩ = some (.slice (some ⟨y.nb, 0, none⟩) fl.B y.nc) := cX4
      have c4 : wr.drew.cell? ⟨X, 2, none⟩ = some (.int .i64 fl.E) := cX2
      have c5 : wr.drew.cell? ⟨y.nb, k, none⟩ = some (.int .i64 (fl.er k)) := ce
      clear hts ht hrw HB
      by_cases hb1 : k = blk
      · have hbb : ((k : Int) == (blk : Int)) = true := by rw [beq_iff_eq]; omega
        have HN : Hid (ti = tgI (tgtK fl blk (k + 1))) := by
          show _ = _
          rw [HTS.out, HTI.out]
          exact (tgI_same (.inl hb1)).symm
        clear hb1
        go_wp2_with fail
        refine wp_region_pl (fun Y => Y = wr.drew) ((0, 0) :: (1, 0) :: (2, 0) :: (3, 0) :: (4, 0) :: (5, 0) :: (6, 0) :: (7, 0) :: (8, 0) :: (9, 0) :: (10, 0) :: (11, 0) :: (12, 0) :: (13, 0) :: (14, 0) :: (15, 0) :: (16, 0) :: (17, 0) :: (18, 0) :: (19, 0) :: (20, 0) :: (21, 0) :: (22, 0) :: (23, 0) :: (24, 0) :: (25, 0) :: (26, 0) :: (27, 0) :: (28, 0) :: (29, 0) :: (30, 0) :: (31, 0) :: (32, 0) :: (33, 0) :: (34, 0) :: (35, 0) :: []) (by kernel_rfl) (by kernel_rfl) ?_
        iterate 7 (apply wpP_go; (focus rfl); (focus rfl); (focus exact rfl); (focus (rintro Z rfl; go_simp; exact rfl)); intro K hK; go_simp; refine hK _ ?_; clear hK K)
        iterate 28 (apply wpP_not; (focus rfl); (focus rfl); (focus exact rfl); intro K hK; go_simp; refine hK _ ?_; clear hK K)
        iterate 1 (apply wpP_go; (focus rfl); (focus rfl); (focus exact rfl); (focus (rintro Z rfl; go_simp; exact rfl)); intro K hK; go_simp; refine hK _ ?_; clear hK K)
        refine wpP_done ?_
        clear c1 c2 c3 c4 c5 cS0 cS2 cX0 cX2 cX4 ce ce2
        generalize wr.drew = W at *
        go_wp2_with fail
        go_roundw
        case rel => exact ⟨k + 1, ti, by omega, rfl, by go_num, HN, HB2⟩
        case measure => simp [intOf]; omega
      · have hbb : ((k : Int) == (blk : Int)) = false := by rw [beq_eq_false_iff_ne]; omega
        cases hbk : blankP (pgsF fl k)
        · have hq : Hid (Calls Tryz.prog 66 #[fptr X, .int .i64 k] wr.drew fun e w' => e = .returned (.bool false) ∧ wr.drew = w') := by show Calls _ _ _ _ _; rw [← hbk]; exact HBK.out
          by_cases hen : fl.E ≤ fl.er k
          · have hge : decide (fl.E ≤ fl.er k) = true := by simpa using hen
            have hgeI : (fl.E : Int) ≤ (fl.er k : Int) := by omega
            have HN : Hid (ti = tgI (tgtK fl blk (k + 1))) := by
              show _ = _
              rw [HTS.out, HTI.out]
              exact (tgI_same (.inr ⟨hbk, hen⟩)).symm
            clear hbk HBK
            go_wp2_with fail
            refine wp_region_pl (fun Y => Y = wr.drew) ((0, 0) :: (1, 0) :: (2, 0) :: (3, 0) :: (4, 0) :: (5, 0) :: (6, 0) :: (7, 0) :: (8, 0) :: (9, 0) :: (10, 0) :: (11, 0) :: (12, 0) :: (13, 0) :: (14, 0) :: (15, 0) :: (16, 0) :: (17, 0) :: (18, 0) :: (19, 0) :: (20, 0) :: (21, 0) :: (22, 0) :: (23, 0) :: (24, 0) :: (25, 0) :: (26, 0) :: (27, 0) :: (28, 0) :: (29, 0) :: (30, 0) :: (31, 0) :: (32, 0) :: (33, 0) :: (34, 0) :: (35, 0) :: []) (by kernel_rfl) (by kernel_rfl) ?_
            iterate 12 (apply wpP_go; (focus rfl); (focus rfl); (focus exact rfl); (focus (rintro Z rfl; go_simp; exact rfl)); intro K hK; go_simp; refine hK _ ?_; clear hK K)
            apply wpP_call
            focus rfl
            focus rfl
            focus exact rfl
            focus (rintro Z rfl; go_simp; exact ⟨rfl, rfl⟩)
            focus (rintro Z rfl; exact hq.out)
            intro K hK
            go_simp
            refine hK _ ?_
            clear hK K
            iterate 23 (apply wpP_go; (focus rfl); (focus rfl); (focus exact rfl); (focus (rintro Z rfl; go_simp; exact rfl)); intro K hK; go_simp; refine hK _ ?_; clear hK K)
            refine wpP_done ?_
            clear c1 c2 c3 c4 c5 cS0 cS2 cX0 cX2 cX4 ce ce2 hq
            generalize wr.drew = W at *
            go_wp2_with fail
            go_roundw
            case rel => exact ⟨k + 1, ti, by omega, rfl, by go_num, HN, HB2⟩
            case measure => simp [intOf]; omega
          · have hge : decide (fl.E ≤ fl.er k) = false := by simpa using hen
            have hgeI : ¬ (fl.E : Int) ≤ (fl.er k : Int) := by omega
            clear HBK
            have HNW : Hid (t.2.2 = false ∨ fl.er k < fl.er t.1 → (k : Int) = tgI (tgtK fl blk (k + 1))) := fun hh => by
              rw [HTS.out]
              exact (tgI_new hb1 (fun q => hen q.2) hh).symm
            rcases htt : t.2.2 with _ | _
            · have hti : ti = -1 := by have := HTI.out; unfold tgI at this; rw [htt] at this; exact this
              subst hti
              have HN : Hid ((k : Int) = tgI (tgtK fl blk (k + 1))) := HNW.out (.inl htt)
              clear htt
              go_wp2_with fail
              refine wp_region_pl (fun Y => Y = wr.drew) ((0, 0) :: (1, 0) :: (2, 0) :: (3, 0) :: (4, 0) :: (5, 0) :: (6, 0) :: (7, 0) :: (8, 0) :: (9, 0) :: (10, 0) :: (11, 0) :: (12, 0) :: (13, 0) :: (14, 0) :: (15, 0) :: (16, 0) :: (17, 0) :: (18, 0) :: (19, 0) :: (20, 0) :: (21, 0) :: (22, 0) :: (23, 0) :: (24, 0) :: (25, 0) :: (26, 0) :: (27, 0) :: (28, 0) :: (29, 0) :: (30, 0) :: (31, 0) :: (32, 0) :: (33, 0) :: (34, 0) :: (35, 0) :: []) (by kernel_rfl) (by kernel_rfl) ?_
              iterate 12 (apply wpP_go; (focus rfl); (focus rfl); (focus exact rfl); (focus (rintro Z rfl; go_simp; exact rfl)); intro K hK; go_simp; refine hK _ ?_; clear hK K)
              apply wpP_call
              focus rfl
              focus rfl
              focus exact rfl
              focus (rintro Z rfl; go_simp; exact ⟨rfl, rfl⟩)
              focus (rintro Z rfl; exact hq.out)
              intro K hK
              go_simp
              refine hK _ ?_
              clear hK K
              iterate 23 (apply wpP_go; (focus rfl); (focus rfl); (focus exact rfl); (focus (rintro Z rfl; go_simp; exact rfl)); intro K hK; go_simp; refine hK _ ?_; clear hK K)
              refine wpP_done ?_
              clear c1 c2 c3 c4 c5 hq
              go_wp2_with fail
              refine wp_region_pl (fun Y => Y = wr.drew.drew) ((0, 0) :: (1, 0) :: (2, 0) :: (3, 0) :: (4, 0) :: (5, 0) :: (6, 0) :: (7, 0) :: (8, 0) :: (9, 0) :: (10, 0) :: (11, 0) :: (12, 0) :: (13, 0) :: (14, 0) :: (15, 0) :: (16, 0) :: (17, 0) :: (18, 0) :: (19, 0) :: (20, 0) :: (21, 0) :: (22, 0) :: (23, 0) :: (24, 0) :: []) (by kernel_rfl) (by kernel_rfl) ?_
              iterate 3 (apply wpP_go; (focus rfl); (focus rfl); (focus exact rfl); (focus (rintro Z rfl; go_simp; exact rfl)); intro K hK; go_simp; refine hK _ ?_; clear hK K)
              iterate 21 (apply wpP_not; (focus rfl); (focus rfl); (focus exact rfl); intro K hK; go_simp; refine hK _ ?_; clear hK K)
              iterate 1 (apply wpP_go; (focus rfl); (focus rfl); (focus exact rfl); (focus (rintro Z rfl; go_simp; exact rfl)); intro K hK; go_simp; refine hK _ ?_; clear hK K)
              refine wpP_done ?_
              clear cS0 cS2 cX0 cX2 cX4 ce ce2
              generalize wr.drew.drew = W at *
              go_wp2_with fail
              go_roundw
              case rel => exact ⟨k + 1, k, by omega, rfl, by go_num, HN, HB3⟩
              case measure => simp [intOf]; omega
            · have hti : ti = (t.1 : Int) := by have := HTI.out; unfold tgI at this; rw [htt] at this; exact this
              have HTF := Lib.hid htt
              rw [hti]
              have htn : decide ((t.1 : Int) < 0) = false := by simp
              have c6 : wr.drew.drew.cell? ⟨S, 0, none⟩ = some (fptr X) := cS0
              have c7 : wr.drew.drew.cell? ⟨X, 4, none⟩ = some (.slice (some ⟨y.nb, 0, none⟩) fl.B y.nc) := cX4
              have c8 : wr.drew.drew.cell? ⟨y.nb, k, none⟩ = some (.int .i64 (fl.er k)) := ce
              have c9 : wr.drew.drew.cell? ⟨y.nb, t.1, none⟩ = some (.int .i64 (fl.er t.1)) := ce2
              have htI : (t.1 : Int) < fl.B := by omega
              obtain ⟨t1, ht1⟩ : ∃ t1, t.1 = t1 := ⟨_, rfl⟩
              have HT1 := Lib.hid ht1
              rw [ht1] at c9 htI htB htn ce2 ⊢
              obtain ⟨e1, he1⟩ : ∃ e1, fl.er k = e1 := ⟨_, rfl⟩
              obtain ⟨e2, he2⟩ : ∃ e2, fl.er t1 = e2 := ⟨_, rfl⟩
              have HEE : Hid (fl.er k = e1 ∧ fl.er t.1 = e2) := ⟨he1, by rw [ht1]; exact he2⟩
              clear ht1
              by_cases hlt2 : e1 < e2
              · have hdl : decide ((e1 : Int) < (e2 : Int)) = true := by simpa using hlt2
                have HN : Hid ((k : Int) = tgI (tgtK fl blk (k + 1))) := HNW.out (.inr (by rw [HEE.out.1, HEE.out.2]; exact hlt2))
                rw [he1] at c8 c5 ce hge hgeI
                rw [he2] at c9 ce2
                clear htt hti he1 he2 htn
                have htn : ¬ (t1 : Int) < 0 := by omega
                go_wp2_with fail
                refine wp_region_pl (fun Y => Y = wr.drew) ((0, 0) :: (1, 0) :: (2, 0) :: (3, 0) :: (4, 0) :: (5, 0) :: (6, 0) :: (7, 0) :: (8, 0) :: (9, 0) :: (10, 0) :: (11, 0) :: (12, 0) :: (13, 0) :: (14, 0) :: (15, 0) :: (16, 0) :: (17, 0) :: (18, 0) :: (19, 0) :: (20, 0) :: (21, 0) :: (22, 0) :: (23, 0) :: (24, 0) :: (25, 0) :: (26, 0) :: (27, 0) :: (28, 0) :: (29, 0) :: (30, 0) :: (31, 0) :: (32, 0) :: (33, 0) :: (34, 0) :: (35, 0) :: []) (by kernel_rfl) (by kernel_rfl) ?_
                iterate 12 (apply wpP_go; (focus rfl); (focus rfl); (focus exact rfl); (focus (rintro Z rfl; go_simp; exact rfl)); intro K hK; go_simp; refine hK _ ?_; clear hK K)
                apply wpP_call
                focus rfl
                focus rfl
                focus exact rfl
                focus (rintro Z rfl; go_simp; exact ⟨rfl, rfl⟩)
                focus (rintro Z rfl; exact hq.out)
                intro K hK
                go_simp
                refine hK _ ?_
                clear hK K
                iterate 23 (apply wpP_go; (focus rfl); (focus rfl); (focus exact rfl); (focus (rintro Z rfl; go_simp; exact rfl)); intro K hK; go_simp; refine hK _ ?_; clear hK K)
                refine wpP_done ?_
                clear c1 c2 c3 c4 c5 hq
                have htn2 : decide ((t1 : Int) < 0) = false := by simp
                have hdl2 : decide ((e1 : Int) < (e2 : Int)) = true := by simpa using hlt2
                go_wp2_with fail
                refine wp_region_pl (fun Y => Y = wr.drew.drew) ((0, 0) :: (1, 0) :: (2, 0) :: (3, 0) :: (4, 0) :: (5, 0) :: (6, 0) :: (7, 0) :: (8, 0) :: (9, 0) :: (10, 0) :: (11, 0) :: (12, 0) :: (13, 0) :: (14, 0) :: (15, 0) :: (16, 0) :: (17, 0) :: (18, 0) :: (19, 0) :: (20, 0) :: (21, 0) :: (22, 0) :: (23, 0) :: (24, 0) :: []) (by kernel_rfl) (by kernel_rfl) ?_
                iterate 25 (apply wpP_go; (focus rfl); (focus rfl); (focus exact rfl); (focus (rintro Z rfl; go_simp; exact rfl)); intro K hK; go_simp; refine hK _ ?_; clear hK K)
                refine wpP_done ?_
                clear c6 c7 c8 c9 cS0 cS2 cX0 cX2 cX4 ce ce2
                generalize wr.drew.drew = W at *
                go_wp2_with fail
                go_roundw
                case rel => exact ⟨k + 1, k, by omega, rfl, by go_num, HN, HB3⟩
                case measure => simp [intOf]; omega
              · have hdl : decide ((e1 : Int) < (e2 : Int)) = false := by simpa using hlt2
                have HN : Hid ((t1 : Int) = tgI (tgtK fl blk (k + 1))) := by
                  show _ = _
                  rw [HTS.out, tgI_old ⟨HTF.out, by rw [HEE.out.1, HEE.out.2]; exact hlt2⟩, ← HTI.out, hti, HT1.out]
                rw [he1] at c8 c5 ce hge hgeI
                rw [he2] at c9 ce2
                clear htt hti he1 he2 htn
                have htn : ¬ (t1 : Int) < 0 := by omega
                go_wp2_with fail
                refine wp_region_pl (fun Y => Y = wr.drew) ((0, 0) :: (1, 0) :: (2, 0) :: (3, 0) :: (4, 0) :: (5, 0) :: (6, 0) :: (7, 0) :: (8, 0) :: (9, 0) :: (10, 0) :: (11, 0) :: (12, 0) :: (13, 0) :: (14, 0) :: (15, 0) :: (16, 0) :: (17, 0) :: (18, 0) :: (19, 0) :: (20, 0) :: (21, 0) :: (22, 0) :: (23, 0) :: (24, 0) :: (25, 0) :: (26, 0) :: (27, 0) :: (28, 0) :: (29, 0) :: (30, 0) :: (31, 0) :: (32, 0) :: (33, 0) :: (34, 0) :: (35, 0) :: []) (by kernel_rfl) (by kernel_rfl) ?_
                iterate 12 (apply wpP_go; (focus rfl); (focus rfl); (focus exact rfl); (focus (rintro Z rfl; go_simp; exact rfl)); intro K hK; go_simp; refine hK _ ?_; clear hK K)
                apply wpP_call
                focus rfl
                focus rfl
                focus exact rfl
                focus (rintro Z rfl; go_simp; exact ⟨rfl, rfl⟩)
                focus (rintro Z rfl; exact hq.out)
                intro K hK
                go_simp
                refine hK _ ?_
                clear hK K
                iterate 23 (apply wpP_go; (focus rfl); (focus rfl); (focus exact rfl); (focus (rintro Z rfl; go_simp; exact rfl)); intro K hK; go_simp; refine hK _ ?_; clear hK K)
                refine wpP_done ?_
                clear c1 c2 c3 c4 c5 hq
                have htn2 : decide ((t1 : Int) < 0) = false := by simp
                have hdl2 : decide ((e1 : Int) < (e2 : Int)) = false := by simpa using hlt2
                go_wp2_with fail
                refine wp_region_pl (fun Y => Y = wr.drew.drew) ((0, 0) :: (1, 0) :: (2, 0) :: (3, 0) :: (4, 0) :: (5, 0) :: (6, 0) :: (7, 0) :: (8, 0) :: (9, 0) :: (10, 0) :: (11, 0) :: (12, 0) :: (13, 0) :: (14, 0) :: (15, 0) :: (16, 0) :: (17, 0) :: (18, 0) :: (19, 0) :: (20, 0) :: (21, 0) :: (22, 0) :: (23, 0) :: (24, 0) :: []) (by kernel_rfl) (by kernel_rfl) ?_
                iterate 25 (apply wpP_go; (focus rfl); (focus rfl); (focus exact rfl); (focus (rintro Z rfl; go_simp; exact rfl)); intro K hK; go_simp; refine hK _ ?_; clear hK K)
                refine wpP_done ?_
                clear c6 c7 c8 c9 cS0 cS2 cX0 cX2 cX4 ce ce2
                generalize wr.drew.drew = W at *
                go_wp2_with fail
                go_roundw
                case rel => exact ⟨k + 1, t1, by omega, rfl, by go_num, HN, HB3⟩
                case measure => simp [intOf]; omega
        · have hq : Hid (Calls Tryz.prog 66 #[fptr X, .int .i64 k] wr.drew fun e w' => e = .returned (.bool true) ∧ wr.drew = w') := by show Calls _ _ _ _ _; rw [← hbk]; exact HBK.out
          clear HBK
          have HNW : Hid (t.2.2 = false ∨ fl.er k < fl.er t.1 → (k : Int) = tgI (tgtK fl blk (k + 1))) := fun hh => by
            rw [HTS.out]
            exact (tgI_new hb1 (fun q => by rw [hbk] at q; cases q.1) hh).symm
          rcases htt : t.2.2 with _ | _
          · have hti : ti = -1 := by have := HTI.out; unfold tgI at this; rw [htt] at this; exact this
            subst hti
            have HN : Hid ((k : Int) = tgI (tgtK fl blk (k + 1))) := HNW.out (.inl htt)
            clear htt
            go_wp2_with fail
            refine wp_region_pl (fun Y => Y = wr.drew) ((0, 0) :: (1, 0) :: (2, 0) :: (3, 0) :: (4, 0) :: (5, 0) :: (6, 0) :: (7, 0) :: (8, 0) :: (9, 0) :: (10, 0) :: (11, 0) :: (12, 0) :: (13, 0) :: (14, 0) :: (15, 0) :: (16, 0) :: (17, 0) :: (18, 0) :: (19, 0) :: (20, 0) :: (21, 0) :: (22, 0) :: (23, 0) :: (24, 0) :: (25, 0) :: (26, 0) :: (27, 0) :: (28, 0) :: (29, 0) :: (30, 0) :: (31, 0) :: (32, 0) :: (33, 0) :: (34, 0) :: (35, 0) :: []) (by kernel_rfl) (by kernel_rfl) ?_
            iterate 12 (apply wpP_go; (focus rfl); (focus rfl); (focus exact rfl); (focus (rintro Z rfl; go_simp; exact rfl)); intro K hK; go_simp; refine hK _ ?_; clear hK K)
            apply wpP_call
            focus rfl
            focus rfl
            focus exact rfl
            focus (rintro Z rfl; go_simp; exact ⟨rfl, rfl⟩)
            focus (rintro Z rfl; exact hq.out)
            intro K hK
            go_simp
            refine hK _ ?_
            clear hK K
            iterate 2 (apply wpP_go; (focus rfl); (focus rfl); (focus exact rfl); (focus (rintro Z rfl; go_simp; exact rfl)); intro K hK; go_simp; refine hK _ ?_; clear hK K)
            iterate 19 (apply wpP_not; (focus rfl); (focus rfl); (focus exact rfl); intro K hK; go_simp; refine hK _ ?_; clear hK K)
            iterate 2 (apply wpP_go; (focus rfl); (focus rfl); (focus exact rfl); (focus (rintro Z rfl; go_simp; exact rfl)); intro K hK; go_simp; refine hK _ ?_; clear hK K)
            refine wpP_done ?_
            clear c1 c2 c3 c4 c5 hq
            go_wp2_with fail
            refine wp_region_pl (fun Y => Y = wr.drew.drew) ((0, 0) :: (1, 0) :: (2, 0) :: (3, 0) :: (4, 0) :: (5, 0) :: (6, 0) :: (7, 0) :: (8, 0) :: (9, 0) :: (10, 0) :: (11, 0) :: (12, 0) :: (13, 0) :: (14, 0) :: (15, 0) :: (16, 0) :: (17, 0) :: (18, 0) :: (19, 0) :: (20, 0) :: (21, 0) :: (22, 0) :: (23, 0) :: (24, 0) :: []) (by kernel_rfl) (by kernel_rfl) ?_
            iterate 3 (apply wpP_go; (focus rfl); (focus rfl); (focus exact rfl); (focus (rintro Z rfl; go_simp; exact rfl)); intro K hK; go_simp; refine hK _ ?_; clear hK K)
            iterate 21 (apply wpP_not; (focus rfl); (focus rfl); (focus exact rfl); intro K hK; go_simp; refine hK _ ?_; clear hK K)
            iterate 1 (apply wpP_go; (focus rfl); (focus rfl); (focus exact rfl); (focus (rintro Z rfl; go_simp; exact rfl)); intro K hK; go_simp; refine hK _ ?_; clear hK K)
            refine wpP_done ?_
            clear cS0 cS2 cX0 cX2 cX4 ce ce2
            generalize wr.drew.drew = W at *
            go_wp2_with fail
            go_roundw
            case rel => exact ⟨k + 1, k, by omega, rfl, by go_num, HN, HB3⟩
            case measure => simp [intOf]; omega
          · have hti : ti = (t.1 : Int) := by have := HTI.out; unfold tgI at this; rw [htt] at this; exact this
            have HTF := Lib.hid htt
            rw [hti]
            have htn : decide ((t.1 : Int) < 0) = false := by simp
            have c6 : wr.drew.drew.cell? ⟨S, 0, none⟩ = some (fptr X) := cS0
            have c7 : wr.drew.drew.cell? ⟨X, 4, none⟩ = some (.slice (some ⟨y.nb, 0, none⟩) fl.B y.nc) := cX4
            have c8 : wr.drew.drew.cell? ⟨y.nb, k, none⟩ = some (.int .i64 (fl.er k)) := ce
            have c9 : wr.drew.drew.cell? ⟨y.nb, t.1, none⟩ = some (.int .i64 (fl.er t.1)) := ce2
            have htI : (t.1 : Int) < fl.B := by omega
            obtain ⟨t1, ht1⟩ : ∃ t1, t.1 = t1 := ⟨_, rfl⟩
            have HT1 := Lib.hid ht1
            rw [ht1] at c9 htI htB htn ce2 ⊢
            obtain ⟨e1, he1⟩ : ∃ e1, fl.er k = e1 := ⟨_, rfl⟩
            obtain ⟨e2, he2⟩ : ∃ e2, fl.er t1 = e2 := ⟨_, rfl⟩
            have HEE : Hid (fl.er k = e1 ∧ fl.er t.1 = e2) := ⟨he1, by rw [ht1]; exact he2⟩
            clear ht1
            by_cases hlt2 : e1 < e2
            · have hdl : decide ((e1 : Int) < (e2 : Int)) = true := by simpa using hlt2
              have HN : Hid ((k : Int) = tgI (tgtK fl blk (k + 1))) := HNW.out (.inr (by rw [HEE.out.1, HEE.out.2]; exact hlt2))
              rw [he1] at c8 c5 ce
              rw [he2] at c9 ce2
              clear htt hti he1 he2 htn
              have htn : ¬ (t1 : Int) < 0 := by omega
              go_wp2_with fail
              refine wp_region_pl (fun Y => Y = wr.drew) ((0, 0) :: (1, 0) :: (2, 0) :: (3, 0) :: (4, 0) :: (5, 0) :: (6, 0) :: (7, 0) :: (8, 0) :: (9, 0) :: (10, 0) :: (11, 0) :: (12, 0) :: (13, 0) :: (14, 0) :: (15, 0) :: (16, 0) :: (17, 0) :: (18, 0) :: (19, 0) :: (20, 0) :: (21, 0) :: (22, 0) :: (23, 0) :: (24, 0) :: (25, 0) :: (26, 0) :: (27, 0) :: (28, 0) :: (29, 0) :: (30, 0) :: (31, 0) :: (32, 0) :: (33, 0) :: (34, 0) :: (35, 0) :: []) (by kernel_rfl) (by kernel_rfl) ?_
              iterate 12 (apply wpP_go; (focus rfl); (focus rfl); (focus exact rfl); (focus (rintro Z rfl; go_simp; exact rfl)); intro K hK; go_simp; refine hK _ ?_; clear hK K)
              apply wpP_call
              focus rfl
              focus rfl
              focus exact rfl
              focus (rintro Z rfl; go_simp; exact ⟨rfl, rfl⟩)
              focus (rintro Z rfl; exact hq.out)
              intro K hK
              go_simp
              refine hK _ ?_
              clear hK K
              iterate 2 (apply wpP_go; (focus rfl); (focus rfl); (focus exact rfl); (focus (rintro Z rfl; go_simp; exact rfl)); intro K hK; go_simp; refine hK _ ?_; clear hK K)
              iterate 19 (apply wpP_not; (focus rfl); (focus rfl); (focus exact rfl); intro K hK; go_simp; refine hK _ ?_; clear hK K)
              iterate 2 (apply wpP_go; (focus rfl); (focus rfl); (focus exact rfl); (focus (rintro Z rfl; go_simp; exact rfl)); intro K hK; go_simp; refine hK _ ?_; clear hK K)
              refine wpP_done ?_
              clear c1 c2 c3 c4 c5 hq
              have htn2 : decide ((t1 : Int) < 0) = false := by simp
              have hdl2 : decide ((e1 : Int) < (e2 : Int)) = true := by simpa using hlt2
              go_wp2_with fail
              refine wp_region_pl (fun Y => Y = wr.drew.drew) ((0, 0) :: (1, 0) :: (2, 0) :: (3, 0) :: (4, 0) :: (5, 0) :: (6, 0) :: (7, 0) :: (8, 0) :: (9, 0) :: (10, 0) :: (11, 0) :: (12, 0) :: (13, 0) :: (14, 0) :: (15, 0) :: (16, 0) :: (17, 0) :: (18, 0) :: (19, 0) :: (20, 0) :: (21, 0) :: (22, 0) :: (23, 0) :: (24, 0) :: []) (by kernel_rfl) (by kernel_rfl) ?_
              iterate 25 (apply wpP_go; (focus rfl); (focus rfl); (focus exact rfl); (focus (rintro Z rfl; go_simp; exact rfl)); intro K hK; go_simp; refine hK _ ?_; clear hK K)
              refine wpP_done ?_
              clear c6 c7 c8 c9 cS0 cS2 cX0 cX2 cX4 ce ce2
              generalize wr.drew.drew = W at *
              go_wp2_with fail
              go_roundw
              case rel => exact ⟨k + 1, k, by omega, rfl, by go_num, HN, HB3⟩
              case measure => simp [intOf]; omega
            · have hdl : decide ((e1 : Int) < (e2 : Int)) = false := by simpa using hlt2
              have HN : Hid ((t1 : Int) = tgI (tgtK fl blk (k + 1))) := by
                show _ = _
                rw [HTS.out, tgI_old ⟨HTF.out, by rw [HEE.out.1, HEE.out.2]; exact hlt2⟩, ← HTI.out, hti, HT1.out]
              rw [he1] at c8 c5 ce
              rw [he2] at c9 ce2
              clear htt hti he1 he2 htn
              have htn : ¬ (t1 : Int) < 0 := by omega
              go_wp2_with fail
              refine wp_region_pl (fun Y => Y = wr.drew) ((0, 0) :: (1, 0) :: (2, 0) :: (3, 0) :: (4, 0) :: (5, 0) :: (6, 0) :: (7, 0) :: (8, 0) :: (9, 0) :: (10, 0) :: (11, 0) :: (12, 0) :: (13, 0) :: (14, 0) :: (15, 0) :: (16, 0) :: (17, 0) :: (18, 0) :: (19, 0) :: (20, 0) :: (21, 0) :: (22, 0) :: (23, 0) :: (24, 0) :: (25, 0) :: (26, 0) :: (27, 0) :: (28, 0) :: (29, 0) :: (30, 0) :: (31, 0) :: (32, 0) :: (33, 0) :: (34, 0) :: (35, 0) :: []) (by kernel_rfl) (by kernel_rfl) ?_
              iterate 12 (apply wpP_go; (focus rfl); (focus rfl); (focus exact rfl); (focus (rintro Z rfl; go_simp; exact rfl)); intro K hK; go_simp; refine hK _ ?_; clear hK K)
              apply wpP_call
              focus rfl
              focus rfl
              focus exact rfl
              focus (rintro Z rfl; go_simp; exact ⟨rfl, rfl⟩)
              focus (rintro Z rfl; exact hq.out)
              intro K hK
              go_simp
              refine hK _ ?_
              clear hK K
              iterate 2 (apply wpP_go; (focus rfl); (focus rfl); (focus exact rfl); (focus (rintro Z rfl; go_simp; exact rfl)); intro K hK; go_simp; refine hK _ ?_; clear hK K)
              iterate 19 (apply wpP_not; (focus rfl); (focus rfl); (focus exact rfl); intro K hK; go_simp; refine hK _ ?_; clear hK K)
              iterate 2 (apply wpP_go; (focus rfl); (focus rfl); (focus exact rfl); (focus (rintro Z rfl; go_simp; exact rfl)); intro K hK; go_simp; refine hK _ ?_; clear hK K)
              refine wpP_done ?_
              clear c1 c2 c3 c4 c5 hq
              have htn2 : decide ((t1 : Int) < 0) = false := by simp
              have hdl2 : decide ((e1 : Int) < (e2 : Int)) = false := by simpa using hlt2
              go_wp2_with fail
              refine wp_region_pl (fun Y => Y = wr.drew.drew) ((0, 0) :: (1, 0) :: (2, 0) :: (3, 0) :: (4, 0) :: (5, 0) :: (6, 0) :: (7, 0) :: (8, 0) :: (9, 0) :: (10, 0) :: (11, 0) :: (12, 0) :: (13, 0) :: (14, 0) :: (15, 0) :: (16, 0) :: (17, 0) :: (18, 0) :: (19, 0) :: (20, 0) :: (21, 0) :: (22, 0) :: (23, 0) :: (24, 0) :: []) (by kernel_rfl) (by kernel_rfl) ?_
              iterate 25 (apply wpP_go; (focus rfl); (focus rfl); (focus exact rfl); (focus (rintro Z rfl; go_simp; exact rfl)); intro K hK; go_simp; refine hK _ ?_; clear hK K)
              refine wpP_done ?_
              clear c6 c7 c8 c9 cS0 cS2 cX0 cX2 cX4 ce ce2
              generalize wr.drew.drew = W at *
              go_wp2_with fail
              go_roundw
              case rel => exact ⟨k + 1, t1, by omega, rfl, by go_num, HN, HB3⟩
              case measure => simp [intOf]; omega
    · have y0 : ¬ (k : Int) < fl.B := by omega
      have hkB : k = fl.B := by omega
      subst hkB
      go_wp2_with fail
      go_ret
      exact ⟨by rw [HTI.out, HT.out]; rfl, HB.out⟩
end Go.Proofs.YtfglopkglnpokaaGreat
namespace Go.Proofs.YtfglopkglnpokaaGreat
open Go.RowKit
/-- A row of pages, or none. -/
def AL (w : World) (a : Option Addr) (cap : Nat) (cs : List Str) : Prop := (a = none ∧ cap = 0 ∧ cs = []) ∨ ∃ g, a = some ⟨g, 0, none⟩ ∧ PS w g 0 cap cs
section
variable {w w' : World} {D DS : Nat → Prop} {S X : Nat} {st : ST} {y : RLay} {fl : FL}
theorem AL.ch {C : Nat → Prop} {a : Option Addr} {cap : Nat} {cs : List Str} (h : AL w a cap cs) (c : Ch C w w') (hC : ∀ g, a = some ⟨g, 0, none⟩ → ¬ C g) : AL w' a cap cs := by
  rcases h with h | ⟨g, e, h⟩
  · exact .inl h
  · exact .inr ⟨g, e, h.ch c (hC g e)⟩
theorem AL.le {a : Option Addr} {cap : Nat} {cs : List Str} (h : AL w a cap cs) : cs.length ≤ cap ∧ cap ≤ maxLen := by
  rcases h with ⟨_, rfl, rfl⟩ | ⟨g, e, h⟩
  · exact ⟨Nat.le_refl _, by unfold maxLen; omega⟩
  · exact ⟨h.2.1, h.2.2.1⟩
theorem RS.fresh (h : RS w D S X st) {st' : ST} {a : Option Addr} {c : Nat} (hv : VS w a c st'.V) (hg : ∀ g, a = some ⟨g, 0, none⟩ → g ≠ S ∧ g < w.heap.size) (hr : Rg w' S 107 6 (rsc st' X a c)) (k : Ch (fun x => x = S) w w') (hs : Srt st'.V) (hh : ∀ p ∈ st'.V, p.1.length ≤ 24 ∧ p.2.length ≤ 128)
    (h1 : st'.gen ≤ 18446744073709551615) (h2 : st'.nxt ≤ 900) (h3 : st'.blk ≤ 1000) (h4 : st'.V.length ≤ st'.nxt + 1) : RS w' (fun k => D k ∨ a = some ⟨k, 0, none⟩) S X st' where
  ex := ⟨a, c, hr, hv.ch k (fun g e => (hg g e).1), fun g e => ⟨.inr e, (hg g e).1⟩⟩
  dS := .inl h.dS
  fin := fun i hi => Nat.lt_of_lt_of_le (hi.elim (h.fin i) (fun e => (hg i e).2)) k.size
  srt := hs
  hv := hh
  hg := h1
  hn := h2
  hb := h3
  vl := h4
theorem rwrite_opt (h : RW w D X y fl) {b p cap n : Nat} {a : Option Addr} {cs : List Str} (hb : b < fl.B) (hS : w.cell? ⟨S, 0, none⟩ = some (fptr X)) (hSl : S < w.heap.size) (hSD : ¬ D S) (hps : AL w a cap cs) (hgD : ∀ g, a = some ⟨g, 0, none⟩ → ¬ D g) (hl : P64 cs) (hn : cs.length = n) (hp : p + n ≤ fl.P) :
    Calls Tryz.prog 96 #[fptr S, .int .i64 b, .int .i64 p, .slice a n cap] w fun e w' => e = .returned (.int .i64 (wrL fl b p cs).1) ∧ RW w' D X y (wrL fl b p cs).2 ∧ Ch D w w' := by
  rcases hps with ⟨rfl, rfl, rfl⟩ | ⟨g, rfl, hps⟩
  · have hn0 : n = 0 := by rw [← hn]; rfl
    subst hn0
    have H := Lib.hid h
    clear h hgD hl hn hS
    go_enter Tryz.func96, Tryz.ntmps96
    go_wp2_with fail
    go_loopw [9] (fun z wr => z = .int .i64 0 ∧ wr = w) (fun z _ => 0)
    case atStart => exact ⟨rfl, rfl⟩
    case round =>
      obtain ⟨rfl, rfl⟩ := hrel
      go_wp2_with fail
      go_ret
      exact ⟨rfl, H.out, Ch.refl _ _⟩
  · exact rwrite_any h hb hS hSl hSD hps (hgD g rfl) hl hn hp
/-- What a call of the reference's store leaves. -/
def RLeft (w w' : World) (D DS A : Nat → Prop) (S X : Nat) (y : RLay) (r : Int × FL × ST) : Prop :=
  RW w' D X y r.2.1 ∧ Ch (fun k => D k ∨ DS k) w w' ∧ ∃ D', (∀ i, D' i → DS i ∨ A i) ∧ RS w' D' S X r.2.2
theorem RLeft.same {A : Nat → Prop} {r : Int × FL × ST} {e : Int} {f : FL} (hc : r = (e, f, st)) (hf : RW w' D X y f) (c : Ch D w w') (hs : RS w DS S X st) (hdis : ∀ k, D k → ¬ DS k) : RLeft w w' D DS A S X y r := by
  subst hc
  exact ⟨hf, c.mono fun i h _ => .inl h, DS, fun i h => .inl h, hs.ch c fun k h1 h2 => hdis k h2 h1⟩
theorem recs_len (V : Vars) : V.length ≤ sumP (recs V) := by
  induction V with
  | nil => exact Nat.zero_le _
  | cons p r ih =>
    have e : sumP (recs (p :: r)) = pgs (recd 1 p.1 p.2).length + sumP (recs r) := rfl
    have : 1 ≤ pgs (recd 1 p.1 p.2).length := by rw [recd_len]; unfold pgs; omega
    rw [e, List.length_cons]
    omega
theorem tgt_lt {t blk : Nat} {bl : Bool} (h : tgtF fl blk = (t, bl, true)) : t < fl.B ∧ bl = blankP (pgsF fl t) := by
  have := (tgtK_spec fl blk fl.B).1
  rw [show tgtK fl blk fl.B = (t, bl, true) from h] at this
  exact ⟨(this rfl).1, (this rfl).2.2.1⟩
set_option maxRecDepth 100000 in
set_option maxHeartbeats 4000000 in
theorem rcompact_any {a v : Option Addr} {ca cv n L : Nat} {V : Vars} (hs : RS w DS S X st) (h : RW w D X y fl) (hdis : ∀ k, D k → ¬ DS k) (ha : AL w a ca (allP (recs V))) (haD : ∀ g, a = some ⟨g, 0, none⟩ → ¬ D g) (hn : sumP (recs V) = n) (hP1 : 1 + n ≤ fl.P)
    (hv : VS w v cv V) (hvD : ∀ g, v = some ⟨g, 0, none⟩ → ¬ D g ∧ ¬ DS g ∧ g < w.heap.size) (hV : Srt V) (hhv : ∀ p ∈ V, p.1.length ≤ 24 ∧ p.2.length ≤ 128) (hL : V.length = L) :
    Calls Tryz.prog 97 #[fptr S, .slice a n ca, .slice v L cv] w fun e w' => e = .returned (.int .i64 (cmpF fl st V).1) ∧ RLeft w w' D DS (fun i => v = some ⟨i, 0, none⟩) S X y (cmpF fl st V) := by
  obtain ⟨t, bl, ok, ht⟩ : ∃ t bl ok, tgtF fl st.blk = (t, bl, ok) := ⟨_, _, _, rfl⟩
  have HTA := Lib.hid (rtarget_any h hs.c0 hs.c2 (hs.fin _ hs.dS) hs.hb)
  rw [ht] at HTA
  have HT := Lib.hid ht
  have HSUM : Hid (1 + sumP (recs V) = 1 + n) := by show _ = _; rw [hn]
  have HN := Lib.hid hn
  have HS := Lib.hid hs
  have H := Lib.hid h
  have HA := Lib.hid (And.intro ha haD)
  have HV := Lib.hid (And.intro hv hvD)
  have HHV := Lib.hid hhv
  have HL := Lib.hid hL
  have hfl : ¬ fl.P < 1 + n := by omega
  have hB := h.hB
  have hP := h.hP
  have hale := ha.le
  rw [allP_len, hn] at hale
  have hcap : n ≤ ca ∧ ca ≤ maxLen := hale
  have hgl := hs.hg
  obtain ⟨g2, hg2⟩ : ∃ g2, (st.gen + 1) % 18446744073709551616 = g2 := ⟨_, rfl⟩
  have HG2 := Lib.hid hg2
  clear h hs ha haD hv hvD hhv hn hL hale hg2
  cases ok
  · have HE := Lib.hid (cmp2 (st := st) HSUM.out hfl ht)
    clear ht
    have hti : tgI (t, bl, false) = -1 := rfl
    rw [hti] at HTA
    clear hti
    go_enter Tryz.func97, Tryz.ntmps97
    go_wp2_with fail
    refine HTA.out.mono ?_
    rintro e w1 ⟨rfl, b1⟩
    have HB1 := Lib.hid b1
    clear b1 HTA
    go_wp2_with fail
    go_ret
    rw [HE.out]
    exact ⟨rfl, RLeft.same rfl (H.out.below HB1.out) (Ch.of_below HB1.out D) HS.out hdis⟩
  · obtain ⟨htB, hbl⟩ := tgt_lt ht
    have hti : tgI (t, bl, true) = (t : Int) := rfl
    rw [hti] at HTA
    have htn : ¬ (t : Int) < 0 := by omega
    clear hti ht
    go_enter Tryz.func97, Tryz.ntmps97
    go_wp2_with fail
    refine HTA.out.mono ?_
    rintro e w1 ⟨rfl, b1⟩
    have HC : Hid (Ch D w w1) := Ch.of_below b1 D
    have HR := Lib.hid (H.out.below b1)
    clear b1 HTA
    have hs1 := HS.out.ch HC.out fun k h1 h2 => hdis k h2 h1
    have k0 := hs1.c0
    have HBK := Lib.hid (rblank_any HR.out htB)
    rw [← hbl] at HBK
    clear hs1 hbl
    go_wp2_with fail
    refine HBK.out.mono ?_
    rintro e w2 ⟨rfl, rfl⟩
    clear HBK
    cases bl
    · obtain ⟨e1, f1, h1⟩ : ∃ e f', eraseF fl t = (e, f') := ⟨_, _, rfl⟩
      have HER := Lib.hid (rerase_any HR.out htB)
      rw [h1] at HER
      have hsm := eraseF_same fl t
      rw [h1] at hsm
      have H1 : Hid (prepF fl (t, false, true) = (e1, f1)) := h1
      have HBP0 := Lib.hid hsm
      clear h1 hsm
      go_wp2_with fail
      refine HER.out.mono ?_
      rintro e w3 ⟨rfl, h3, c3⟩
      have HC3 : Hid (Ch D w w3) := HC.out.trans c3
      have HR3 := Lib.hid h3
      clear h3 c3 HC HR HER k0
      by_cases he1 : e1 = 0
      · subst he1
        have HPR := H1
        have HC := HC3
        have HR := HR3
        have HBP := HBP0
        clear HC3 HR3 H1 HBP0
        have hw := wrAll_wrL (recs V) f1 t 1
        obtain ⟨e2, f2, h2⟩ : ∃ e f', wrL f1 t 1 (allP (recs V)) = (e, f') := ⟨_, _, rfl⟩
        rw [h2] at hw
        have hs2 := wrL_same (allP (recs V)) f1 t 1
        rw [h2] at hs2
        have HBP2 : Hid (f2.B = fl.B ∧ f2.P = fl.P) := ⟨hs2.1.trans HBP.out.1, hs2.2.trans HBP.out.2⟩
        have hsw := HS.out.ch HC.out fun k h1 h2 => hdis k h2 h1
        have HW2 := Lib.hid (rwrite_opt (b := t) (p := 1) (n := n) HR.out (by rw [HBP.out.1]; exact htB) hsw.c0 (hsw.fin _ hsw.dS) (fun h => hdis _ h hsw.dS) (HA.out.1.ch HC.out HA.out.2) HA.out.2 (allP_64 _) (by rw [allP_len]; exact HN.out) (by rw [HBP.out.2]; exact hP1))
        rw [h2] at HW2
        by_cases he2 : e2 = 0
        · have h3 := hw.2.2 (by rw [hw.1]; exact he2)
          have HWA : Hid (wrAll f1 t 1 (recs V) = (0, f2, 1 + n)) := Prod.ext (hw.1.trans he2) (Prod.ext hw.2.1 (by rw [h3, HN.out]))
          subst he2
          clear hw h2 hs2 h3 hsw
          go_wp2_with fail
          refine HW2.out.mono ?_
          rintro e w5 ⟨rfl, h5, c5⟩
          have HR5 := Lib.hid h5
          have HC5 : Hid (Ch D w w5) := HC.out.trans c5
          clear h5 c5 HW2 HC HR HBP
          have hs5 := HS.out.ch HC5.out fun k h1 h2 => hdis k h2 h1
          have k0 := hs5.c0
          have k3 := hs5.c3
          have HBG := Lib.hid (rbig_any g2 w5)
          obtain ⟨bg, hbg⟩ : ∃ s : ByteArray, s = ⟨(be8 g2).toArray⟩ := ⟨_, rfl⟩
          have hbgl : bg.data.toList = be8 g2 := by rw [hbg]
          have hbgz : bg.size = 8 := by rw [bsz, hbgl, be8_len]
          rw [show str (be8 g2) = .string bg by rw [hbg]] at HBG
          obtain ⟨hd, hhd⟩ : ∃ s : ByteArray, s = ⟨(hdr g2).toArray⟩ := ⟨_, rfl⟩
          have hdl : hd.data.toList = hdr g2 := by rw [hhd]
          have hdz : hd.size = 13 := by rw [bsz, hdl, hdr_len]
          have HREC : Hid (∀ W, Calls Tryz.prog 15 #[.int .u8 3, .string ⟨#[]⟩, .string bg] W fun e w' => e = .returned (.string hd) ∧ Below W.heap.size W w') := fun W => by
            have := rrecord_any 3 ⟨#[]⟩ bg W (by omega) (by decide) (by omega)
            rw [hbgl] at this
            rw [hhd]
            exact this
          have HPG : Hid (∀ W, Calls Tryz.prog 14 #[.string hd] W fun e w' => ∃ g cap, e = .returned (.slice (some ⟨g, 0, none⟩) 1 cap) ∧ PS w' g 0 cap (pagesR (hdr g2)) ∧ W.heap.size ≤ g ∧ Below W.heap.size W w') := fun W => by
            have := rpages_any hd W (by omega) (by omega)
            rw [hdl, hdz] at this
            exact this
          obtain ⟨gen, hgen⟩ : ∃ gen, st.gen = gen := ⟨_, rfl⟩
          have HGEN := Lib.hid hgen
          have hgI : IntKind.u64.wrap ((gen : Int) + 1) = (g2 : Int) := by rw [IntKind.wrap_u64]; have := HG2.out; rw [hgen] at this; omega
          rw [hgen] at k3
          clear hbg hbgl hbgz hhd hdl hdz hgen hs5
          go_wp2_with fail
          refine HBG.out.mono ?_
          rintro e w6 ⟨rfl, b6⟩
          have HC6 : Hid (Ch D w w6) := HC5.out.trans (Ch.of_below b6 D)
          have HR6 := Lib.hid (HR5.out.below b6)
          clear b6 HC5 HR5 HBG k0 k3
          go_wp2_with fail
          refine (HREC.out w6).mono ?_
          rintro e w7 ⟨rfl, b7⟩
          have HC7 : Hid (Ch D w w7) := HC6.out.trans (Ch.of_below b7 D)
          have HR7 := Lib.hid (HR6.out.below b7)
          clear b7 HC6 HR6 HREC
          go_wp2_with fail
          refine (HPG.out w7).mono ?_
          rintro e w8 ⟨gp, cp, rfl, hp8, hg8, b8⟩
          have HC8 : Hid (Ch D w w8) := HC7.out.trans (Ch.of_below b8 D)
          have HR8 := Lib.hid (HR7.out.below b8)
          obtain ⟨e3, f3, h3⟩ : ∃ e f', wrL f2 t 0 (pagesR (hdr g2)) = (e, f') := ⟨_, _, rfl⟩
          have hsz8 := HC7.out.size
          have hs8 := HS.out.ch HC8.out fun k h1 h2 => hdis k h2 h1
          have HW8 := Lib.hid (rwrite_any (b := t) (p := 0) (n := 1) HR8.out (by rw [HBP2.out.1]; exact htB) hs8.c0 (hs8.fin _ hs8.dS) (fun h => hdis _ h hs8.dS) hp8 (fun h => by have := HR7.out.fin _ h; omega) (pagesR_64 _) (by rw [hdr_pages]; rfl) (by rw [HBP2.out.2]; omega))
          rw [h3] at HW8
          have H3 := Lib.hid h3
          clear b8 HC7 HR7 HPG hp8 hg8 hs8 h3 hsz8
          go_wp2_with fail
          refine HW8.out.mono ?_
          rintro e w9 ⟨rfl, h9, c9⟩
          have HC9 : Hid (Ch D w w9) := HC8.out.trans c9
          have HR9 := Lib.hid h9
          clear h9 c9 HC8 HR8 HW8
          by_cases he3 : e3 = 0
          · subst he3
            have HE := Lib.hid (cmp6 (st := st) HSUM.out hfl HT.out HPR.out HWA.out (by rw [HG2.out]; exact H3.out))
            have hs9 := HS.out.ch HC9.out fun k h1 h2 => hdis k h2 h1
            have HS9 := Lib.hid hs9
            obtain ⟨a0, c0, r0, _, _⟩ := hs9.ex
            have q1 := r0.cell (i := 3) (by omega)
            have q2 := r0.cell (i := 2) (by omega)
            have f2' := r0.frozen 2
            have r1 := r0.set (i := 2) (by omega) (.int .i64 t)
            have f3' := r1.frozen 3
            have q3 := r1.cell (i := 3) (by omega)
            have r2 := r1.set (i := 3) (by omega) (.int .u64 g2)
            have q4 := r2.cell (i := 4) (by omega)
            have f4' := r2.frozen 4
            have r3 := r2.set (i := 4) (by omega) (.int .i64 ((1 : Int) + (n : Int)))
            have q5 := r3.cell (i := 5) (by omega)
            have f5' := r3.frozen 5
            have r4 := r3.set (i := 5) (by omega) (.bool false)
            have q6 := r4.cell (i := 1) (by omega)
            have f6' := r4.frozen 1
            have r5 := r4.set (i := 1) (by omega) (.slice v L cv)
            have q1' : w9.cell? ⟨S, 3, none⟩ = some (.int .u64 gen) := by rw [q1]; simp [rsc, HGEN.out]
            have HR5' := Lib.hid (r5.congr (v' := rsc ⟨V, t, g2, 1 + n, false⟩ X v cv) fun j hj => by
              rcases (by omega : j = 0 ∨ j = 1 ∨ j = 2 ∨ j = 3 ∨ j = 4 ∨ j = 5) with e | e | e | e | e | e <;> subst e <;> simp [upd, rsc, HL.out])
            have hCh : Ch (fun x => x = S) w9 (((((w9.setCell ⟨S, 2, none⟩ (.int .i64 t)).setCell ⟨S, 3, none⟩ (.int .u64 g2)).setCell ⟨S, 4, none⟩ (.int .i64 ((1 : Int) + (n : Int)))).setCell ⟨S, 5, none⟩ (.bool false)).setCell ⟨S, 1, none⟩ (.slice v L cv)) :=
              (((((Ch.refl (fun x => x = S) w9).setCell (p := ⟨S, 2, none⟩) (fun _ => rfl) _).setCell (p := ⟨S, 3, none⟩) (fun _ => rfl) _).setCell (p := ⟨S, 4, none⟩) (fun _ => rfl) _).setCell (p := ⟨S, 5, none⟩) (fun _ => rfl) _).setCell (p := ⟨S, 1, none⟩) (fun _ => rfl) _
            have HCH := Lib.hid hCh
            have hw1n : IntKind.i64.wrap ((1 : Int) + (n : Int)) = 1 + n := IntWalk.i64_in _ ⟨by omega, by omega⟩
            clear r0 r1 r2 r3 r4 r5 hCh q1 hs9
            go_wp2_with fail
            go_ret
            rw [HE.out, HG2.out]
            have hvs := HV.out.1.ch HC9.out (fun g e => (HV.out.2 g e).1)
            have hfr := HS9.out.fresh (st' := ⟨V, t, g2, 1 + n, false⟩) hvs (fun g e => ⟨fun e2 => (HV.out.2 g e).2.1 (e2 ▸ HS9.out.dS), Nat.lt_of_lt_of_le (HV.out.2 g e).2.2 HC9.out.size⟩) HR5'.out HCH.out hV HHV.out (by have := HG2.out; show g2 ≤ _; omega) (by show 1 + n ≤ 900; omega) (by show t ≤ 1000; omega) (by show V.length ≤ 1 + n + 1; have := recs_len V; have := HN.out; omega)
            exact ⟨rfl, HR9.out.ch HCH.out (fun k hk e => hdis k hk (e ▸ HS.out.dS)), (HC9.out.mono fun _ h _ => .inl h).andThen HCH.out (fun k e _ => by rw [e]; exact .inr HS.out.dS), _, fun i hi => hi, hfr⟩
          · have hed : (e3 == 0) = false := by simpa using he3
            have HE := Lib.hid (cmp5 (st := st) HSUM.out hfl HT.out HPR.out HWA.out (by rw [HG2.out]; exact H3.out) he3)
            go_wp2_with fail
            go_ret
            rw [HE.out]
            exact ⟨rfl, RLeft.same rfl HR9.out HC9.out HS.out hdis⟩
        · have hed : (e2 == 0) = false := by simpa using he2
          have HE := Lib.hid (cmp4 (st := st) (p' := (wrAll f1 t 1 (recs V)).2.2) HSUM.out hfl HT.out HPR.out (Prod.ext hw.1 (Prod.ext hw.2.1 rfl)) he2)
          clear hw h2 hs2 hsw
          go_wp2_with fail
          refine HW2.out.mono ?_
          rintro e w5 ⟨rfl, h5, c5⟩
          have HR5 := Lib.hid h5
          have HC5 : Hid (Ch D w w5) := HC.out.trans c5
          clear h5 c5 HW2 HC
          go_wp2_with fail
          go_ret
          rw [HE.out]
          exact ⟨rfl, RLeft.same rfl HR5.out HC5.out HS.out hdis⟩
      · have hed : (e1 == 0) = false := by simpa using he1
        have HE := Lib.hid (cmp3 (st := st) HSUM.out hfl HT.out H1.out he1)
        go_wp2_with fail
        go_ret
        rw [HE.out]
        exact ⟨rfl, RLeft.same rfl HR3.out HC3.out HS.out hdis⟩
    · have HPR : Hid (prepF fl (t, true, true) = (0, fl)) := rfl
      have HBP : Hid (fl.B = fl.B ∧ fl.P = fl.P) := ⟨rfl, rfl⟩
      clear k0
      have hw := wrAll_wrL (recs V) fl t 1
      obtain ⟨e2, f2, h2⟩ : ∃ e f', wrL fl t 1 (allP (recs V)) = (e, f') := ⟨_, _, rfl⟩
      rw [h2] at hw
      have hs2 := wrL_same (allP (recs V)) fl t 1
      rw [h2] at hs2
      have HBP2 : Hid (f2.B = fl.B ∧ f2.P = fl.P) := ⟨hs2.1.trans HBP.out.1, hs2.2.trans HBP.out.2⟩
      have hsw := HS.out.ch HC.out fun k h1 h2 => hdis k h2 h1
      have HW2 := Lib.hid (rwrite_opt (b := t) (p := 1) (n := n) HR.out (by rw [HBP.out.1]; exact htB) hsw.c0 (hsw.fin _ hsw.dS) (fun h => hdis _ h hsw.dS) (HA.out.1.ch HC.out HA.out.2) HA.out.2 (allP_64 _) (by rw [allP_len]; exact HN.out) (by rw [HBP.out.2]; exact hP1))
      rw [h2] at HW2
      by_cases he2 : e2 = 0
      · have h3 := hw.2.2 (by rw [hw.1]; exact he2)
        have HWA : Hid (wrAll fl t 1 (recs V) = (0, f2, 1 + n)) := Prod.ext (hw.1.trans he2) (Prod.ext hw.2.1 (by rw [h3, HN.out]))
        subst he2
        clear hw h2 hs2 h3 hsw
        go_wp2_with fail
        refine HW2.out.mono ?_
        rintro e w5 ⟨rfl, h5, c5⟩
        have HR5 := Lib.hid h5
        have HC5 : Hid (Ch D w w5) := HC.out.trans c5
        clear h5 c5 HW2 HC HR HBP
        have hs5 := HS.out.ch HC5.out fun k h1 h2 => hdis k h2 h1
        have k0 := hs5.c0
        have k3 := hs5.c3
        have HBG := Lib.hid (rbig_any g2 w5)
        obtain ⟨bg, hbg⟩ : ∃ s : ByteArray, s = ⟨(be8 g2).toArray⟩ := ⟨_, rfl⟩
        have hbgl : bg.data.toList = be8 g2 := by rw [hbg]
        have hbgz : bg.size = 8 := by rw [bsz, hbgl, be8_len]
        rw [show str (be8 g2) = .string bg by rw [hbg]] at HBG
        obtain ⟨hd, hhd⟩ : ∃ s : ByteArray, s = ⟨(hdr g2).toArray⟩ := ⟨_, rfl⟩
        have hdl : hd.data.toList = hdr g2 := by rw [hhd]
        have hdz : hd.size = 13 := by rw [bsz, hdl, hdr_len]
        have HREC : Hid (∀ W, Calls Tryz.prog 15 #[.int .u8 3, .string ⟨#[]⟩, .string bg] W fun e w' => e = .returned (.string hd) ∧ Below W.heap.size W w') := fun W => by
          have := rrecord_any 3 ⟨#[]⟩ bg W (by omega) (by decide) (by omega)
          rw [hbgl] at this
          rw [hhd]
          exact this
        have HPG : Hid (∀ W, Calls Tryz.prog 14 #[.string hd] W fun e w' => ∃ g cap, e = .returned (.slice (some ⟨g, 0, none⟩) 1 cap) ∧ PS w' g 0 cap (pagesR (hdr g2)) ∧ W.heap.size ≤ g ∧ Below W.heap.size W w') := fun W => by
          have := rpages_any hd W (by omega) (by omega)
          rw [hdl, hdz] at this
          exact this
        obtain ⟨gen, hgen⟩ : ∃ gen, st.gen = gen := ⟨_, rfl⟩
        have HGEN := Lib.hid hgen
        have hgI : IntKind.u64.wrap ((gen : Int) + 1) = (g2 : Int) := by rw [IntKind.wrap_u64]; have := HG2.out; rw [hgen] at this; omega
        rw [hgen] at k3
        clear hbg hbgl hbgz hhd hdl hdz hgen hs5
        go_wp2_with fail
        refine HBG.out.mono ?_
        rintro e w6 ⟨rfl, b6⟩
        have HC6 : Hid (Ch D w w6) := HC5.out.trans (Ch.of_below b6 D)
        have HR6 := Lib.hid (HR5.out.below b6)
        clear b6 HC5 HR5 HBG k0 k3
        go_wp2_with fail
        refine (HREC.out w6).mono ?_
        rintro e w7 ⟨rfl, b7⟩
        have HC7 : Hid (Ch D w w7) := HC6.out.trans (Ch.of_below b7 D)
        have HR7 := Lib.hid (HR6.out.below b7)
        clear b7 HC6 HR6 HREC
        go_wp2_with fail
        refine (HPG.out w7).mono ?_
        rintro e w8 ⟨gp, cp, rfl, hp8, hg8, b8⟩
        have HC8 : Hid (Ch D w w8) := HC7.out.trans (Ch.of_below b8 D)
        have HR8 := Lib.hid (HR7.out.below b8)
        obtain ⟨e3, f3, h3⟩ : ∃ e f', wrL f2 t 0 (pagesR (hdr g2)) = (e, f') := ⟨_, _, rfl⟩
        have hsz8 := HC7.out.size
        have hs8 := HS.out.ch HC8.out fun k h1 h2 => hdis k h2 h1
        have HW8 := Lib.hid (rwrite_any (b := t) (p := 0) (n := 1) HR8.out (by rw [HBP2.out.1]; exact htB) hs8.c0 (hs8.fin _ hs8.dS) (fun h => hdis _ h hs8.dS) hp8 (fun h => by have := HR7.out.fin _ h; omega) (pagesR_64 _) (by rw [hdr_pages]; rfl) (by rw [HBP2.out.2]; omega))
        rw [h3] at HW8
        have H3 := Lib.hid h3
        clear b8 HC7 HR7 HPG hp8 hg8 hs8 h3 hsz8
        go_wp2_with fail
        refine HW8.out.mono ?_
        rintro e w9 ⟨rfl, h9, c9⟩
        have HC9 : Hid (Ch D w w9) := HC8.out.trans c9
        have HR9 := Lib.hid h9
        clear h9 c9 HC8 HR8 HW8
        by_cases he3 : e3 = 0
        · subst he3
          have HE := Lib.hid (cmp6 (st := st) HSUM.out hfl HT.out HPR.out HWA.out (by rw [HG2.out]; exact H3.out))
          have hs9 := HS.out.ch HC9.out fun k h1 h2 => hdis k h2 h1
          have HS9 := Lib.hid hs9
          obtain ⟨a0, c0, r0, _, _⟩ := hs9.ex
          have q1 := r0.cell (i := 3) (by omega)
          have q2 := r0.cell (i := 2) (by omega)
          have f2' := r0.frozen 2
          have r1 := r0.set (i := 2) (by omega) (.int .i64 t)
          have f3' := r1.frozen 3
          have q3 := r1.cell (i := 3) (by omega)
          have r2 := r1.set (i := 3) (by omega) (.int .u64 g2)
          have q4 := r2.cell (i := 4) (by omega)
          have f4' := r2.frozen 4
          have r3 := r2.set (i := 4) (by omega) (.int .i64 ((1 : Int) + (n : Int)))
          have q5 := r3.cell (i := 5) (by omega)
          have f5' := r3.frozen 5
          have r4 := r3.set (i := 5) (by omega) (.bool false)
          have q6 := r4.cell (i := 1) (by omega)
          have f6' := r4.frozen 1
          have r5 := r4.set (i := 1) (by omega) (.slice v L cv)
          have q1' : w9.cell? ⟨S, 3, none⟩ = some (.int .u64 gen) := by rw [q1]; simp [rsc, HGEN.out]
          have HR5' := Lib.hid (r5.congr (v' := rsc ⟨V, t, g2, 1 + n, false⟩ X v cv) fun j hj => by
            rcases (by omega : j = 0 ∨ j = 1 ∨ j = 2 ∨ j = 3 ∨ j = 4 ∨ j = 5) with e | e | e | e | e | e <;> subst e <;> simp [upd, rsc, HL.out])
          have hCh : Ch (fun x => x = S) w9 (((((w9.setCell ⟨S, 2, none⟩ (.int .i64 t)).setCell ⟨S, 3, none⟩ (.int .u64 g2)).setCell ⟨S, 4, none⟩ (.int .i64 ((1 : Int) + (n : Int)))).setCell ⟨S, 5, none⟩ (.bool false)).setCell ⟨S, 1, none⟩ (.slice v L cv)) :=
            (((((Ch.refl (fun x => x = S) w9).setCell (p := ⟨S, 2, none⟩) (fun _ => rfl) _).setCell (p := ⟨S, 3, none⟩) (fun _ => rfl) _).setCell (p := ⟨S, 4, none⟩) (fun _ => rfl) _).setCell (p := ⟨S, 5, none⟩) (fun _ => rfl) _).setCell (p := ⟨S, 1, none⟩) (fun _ => rfl) _
          have HCH := Lib.hid hCh
          have hw1n : IntKind.i64.wrap ((1 : Int) + (n : Int)) = 1 + n := IntWalk.i64_in _ ⟨by omega, by omega⟩
          clear r0 r1 r2 r3 r4 r5 hCh q1 hs9
          go_wp2_with fail
          go_ret
          rw [HE.out, HG2.out]
          have hvs := HV.out.1.ch HC9.out (fun g e => (HV.out.2 g e).1)
          have hfr := HS9.out.fresh (st' := ⟨V, t, g2, 1 + n, false⟩) hvs (fun g e => ⟨fun e2 => (HV.out.2 g e).2.1 (e2 ▸ HS9.out.dS), Nat.lt_of_lt_of_le (HV.out.2 g e).2.2 HC9.out.size⟩) HR5'.out HCH.out hV HHV.out (by have := HG2.out; show g2 ≤ _; omega) (by show 1 + n ≤ 900; omega) (by show t ≤ 1000; omega) (by show V.length ≤ 1 + n + 1; have := recs_len V; have := HN.out; omega)
          exact ⟨rfl, HR9.out.ch HCH.out (fun k hk e => hdis k hk (e ▸ HS.out.dS)), (HC9.out.mono fun _ h _ => .inl h).andThen HCH.out (fun k e _ => by rw [e]; exact .inr HS.out.dS), _, fun i hi => hi, hfr⟩
        · have hed : (e3 == 0) = false := by simpa using he3
          have HE := Lib.hid (cmp5 (st := st) HSUM.out hfl HT.out HPR.out HWA.out (by rw [HG2.out]; exact H3.out) he3)
          go_wp2_with fail
          go_ret
          rw [HE.out]
          exact ⟨rfl, RLeft.same rfl HR9.out HC9.out HS.out hdis⟩
      · have hed : (e2 == 0) = false := by simpa using he2
        have HE := Lib.hid (cmp4 (st := st) (p' := (wrAll fl t 1 (recs V)).2.2) HSUM.out hfl HT.out HPR.out (Prod.ext hw.1 (Prod.ext hw.2.1 rfl)) he2)
        clear hw h2 hs2 hsw
        go_wp2_with fail
        refine HW2.out.mono ?_
        rintro e w5 ⟨rfl, h5, c5⟩
        have HR5 := Lib.hid h5
        have HC5 : Hid (Ch D w w5) := HC.out.trans c5
        clear h5 c5 HW2 HC
        go_wp2_with fail
        go_ret
        rw [HE.out]
        exact ⟨rfl, RLeft.same rfl HR5.out HC5.out HS.out hdis⟩
end
end Go.Proofs.YtfglopkglnpokaaGreat
namespace Go.Proofs.YtfglopkglnpokaaGreat
open Go.RowKit
theorem setV_len (V : Vars) (k v : Str) : (setV V k v).length ≤ V.length + 1 := by
  induction V with
  | nil => simp [setV]
  | cons p r ih =>
    unfold setV
    split
    · simp
    · split
      · simp
      · simp only [List.length_cons]; omega
theorem chgV_len (V : Vars) (k : Nat) (n v : Str) : (chgV V k n v).length ≤ V.length + 1 := by
  unfold chgV
  split
  · exact setV_len V n v
  · have := delV_len V n; omega
theorem news_ps {w : World} {g cap : Nat} {ps : List Str} (h : PS w g 0 cap ps) : ∀ j u, (ps.map str)[j]? = some u → w.cell? ((⟨g, 0, none⟩ : Addr).add j) = some u := fun j u hu => by
  have hj : j < ps.length := by
    rcases Nat.lt_or_ge j ps.length with h1 | h1
    · exact h1
    · rw [List.getElem?_eq_none (by rw [List.length_map]; exact h1)] at hu; cases hu
  have hadd : (⟨g, 0, none⟩ : Addr).add j = ⟨g, j, none⟩ := by unfold Addr.add; split <;> simp_all
  have hc := h.2.2.2 j hj
  rw [Nat.zero_add, List.getD_eq_getElem?_getD, List.getElem?_eq_getElem hj] at hc
  rw [List.getElem?_map, List.getElem?_eq_getElem hj] at hu
  rw [hadd, hc]
  exact hu
/-- A row under way as it is handed on. -/
theorem OB.al {w wr : World} {t n : Nat} {v : Value} {ps : List Str} (h : OB w wr t 1 v n (ps.map str)) : ∃ a cap, v = .slice a n cap ∧ AL wr a cap ps ∧ ∀ g, a = some ⟨g, 0, none⟩ → w.heap.size ≤ g ∧ g < wr.heap.size := by
  have hl : ps.length = n := by have := h.row.1; simpa using this
  by_cases hn : 0 < n
  · obtain ⟨g, cap, rfl, h1, h2, h3, h4⟩ := h.ps hn
    refine ⟨_, cap, rfl, .inr ⟨g, rfl, h4.lt, by omega, h3, fun j hj => ?_⟩, fun g' e => ?_⟩
    · rw [Nat.zero_add]; exact h4.cell (by omega)
    · injection e with e; injection e with e; subst e; exact ⟨h1, h4.lt⟩
  · have hps : ps = [] := List.length_eq_zero_iff.1 (by omega)
    subst hps
    have hn0 : n = 0 := by omega
    subst hn0
    rcases h.row.2 with ⟨rfl, _⟩ | ⟨g, cap, cur, rfl, _, hh, hn1, hm1, _⟩
    · exact ⟨none, 0, rfl, .inl ⟨rfl, rfl, rfl⟩, fun g e => by cases e⟩
    · refine ⟨_, cap, rfl, .inr ⟨g, rfl, heap_lt hh, hn1, hm1, fun j hj => by cases hj⟩, fun g' e => ?_⟩
      injection e with e; injection e with e; subst e
      exact ⟨h.new g rfl, heap_lt hh⟩
theorem recs_take {V : Vars} {i : Nat} (h : i < V.length) : recs (V.take (i + 1)) = recs (V.take i) ++ [recd 1 (V.getD i ([], [])).1 (V.getD i ([], [])).2] := by
  unfold recs
  rw [List.take_succ_eq_append_getElem h, List.map_append, List.getD_eq_getElem?_getD, List.getElem?_eq_getElem h]
  rfl
theorem allP_snoc (l : List Str) (r : Str) : allP (l ++ [r]) = allP l ++ pagesR r := by simp [allP]
section
variable {w : World} {D DS : Nat → Prop} {S X : Nat} {st : ST} {y : RLay} {fl : FL}
set_option maxRecDepth 100000 in
set_option maxHeartbeats 8000000 in
theorem rchange_any {k : Nat} {nm vl : Str} {rec : ByteArray} {a : Option Addr} {cv L : Nat} {V : Vars} (hs : RS w DS S X st) (h : RW w D X y fl) (hdis : ∀ k, D k → ¬ DS k) (hb : st.blk < fl.B) (hrec : rec.data.toList = recd k nm vl) (hnl : nm.length ≤ 24 ∧ vl.length ≤ 128)
    (hv : VS w a cv V) (hVe : chgV st.V k nm vl = V) (hvD : ∀ g, a = some ⟨g, 0, none⟩ → ¬ D g ∧ ¬ DS g ∧ g < w.heap.size) (hL : V.length = L) :
    Calls Tryz.prog 72 #[fptr S, .string rec, .slice a L cv] w fun e w' => e = .returned (.int .i64 (chgF fl st k nm vl).1) ∧ RLeft w w' D DS (fun i => a = some ⟨i, 0, none⟩) S X y (chgF fl st k nm vl) := by
  obtain ⟨iS, hiS, hxS0, hxS1, hxS2⟩ := info_parts Tryz.infoS
  have hV : Srt V := by rw [← hVe]; exact chgV_srt hs.srt k nm vl
  have hhv : ∀ p ∈ V, p.1.length ≤ 24 ∧ p.2.length ≤ 128 := by rw [← hVe]; exact chgV_hv hs.hv hnl.1 hnl.2
  have hLn : L ≤ st.nxt + 2 := by rw [← hL, ← hVe]; have := chgV_len st.V k nm vl; have := hs.vl; omega
  have hnx := hs.hn
  have hL1 : L ≤ 902 := by omega
  have hvc : L ≤ cv ∧ cv ≤ maxLen := by have := hv.1; have := hv.2.1; omega
  have HS := Lib.hid hs
  have H := Lib.hid h
  have HV := Lib.hid (And.intro hv hvD)
  have HHV := Lib.hid hhv
  have HVS := Lib.hid hV
  have HL := Lib.hid hL
  have HVE := Lib.hid hVe
  have hP := h.hP
  have c0 := hs.c0
  have c5 := h.c5
  obtain ⟨np, hnp⟩ : ∃ np, pgs (recd k nm vl).length = np := ⟨_, rfl⟩
  have hrz : rec.size = (recd k nm vl).length := by rw [← hrec]; rfl
  have hnp1 : 1 ≤ np ∧ np ≤ 3 := by rw [← hnp, recd_len]; unfold pgs; omega
  have HNP := Lib.hid hnp
  have HREC := Lib.hid hrec
  have hrzz : 1 ≤ rec.size ∧ rec.size ≤ 1000 := by rw [hrz, recd_len]; omega
  have HPG := Lib.hid (rpages_any rec w hrzz.1 hrzz.2)
  rw [hrz, hnp, hrec] at HPG
  clear h hs hv hvD hhv hVe hnp hrec hrz hL hV
  cases ho : fl.off
  · rw [ho] at c5
    go_enter Tryz.func72, Tryz.ntmps72
    go_wp2_with fail
    refine HPG.out.mono ?_
    rintro e w1 ⟨gp, cp, rfl, hp1, hg1, b1⟩
    have HR1 := Lib.hid (H.out.below b1)
    have HC1 : Hid (Ch D w w1) := Ch.of_below b1 D
    have HPS1 := Lib.hid (And.intro hp1 hg1)
    have hcp : np ≤ cp ∧ cp ≤ maxLen := by have h1 := hp1.2.1; have h2 := hp1.2.2.1; rw [pagesR_len, HNP.out] at h1; exact ⟨h1, h2⟩
    clear hp1 hg1 b1 HPG c0 c5
    have hs1 := (HS.out.ch HC1.out fun k h1 h2 => hdis k h2 h1)
    obtain ⟨clo, hclo⟩ : ∃ clo, st.clo = clo := ⟨_, rfl⟩
    obtain ⟨nxt, hnxt⟩ : ∃ nxt, st.nxt = nxt := ⟨_, rfl⟩
    obtain ⟨blk, hblk⟩ : ∃ blk, st.blk = blk := ⟨_, rfl⟩
    have S1 : Hid (w1.drew.cell? ⟨S, 0, none⟩ = some (fptr X) ∧ w1.drew.cell? ⟨S, 4, none⟩ = some (.int .i64 nxt) ∧ w1.drew.cell? ⟨S, 5, none⟩ = some (.bool clo) ∧ w1.drew.cell? ⟨X, 1, none⟩ = some (.int .i64 fl.P)) := ⟨hs1.c0, by rw [← hnxt]; exact hs1.c4, by rw [← hclo]; exact hs1.c5, HR1.out.c1⟩
    have S2 : Hid (w1.drew.drew.cell? ⟨S, 0, none⟩ = some (fptr X) ∧ w1.drew.drew.cell? ⟨S, 4, none⟩ = some (.int .i64 nxt) ∧ w1.drew.drew.cell? ⟨S, 2, none⟩ = some (.int .i64 blk)) := ⟨hs1.c0, by rw [← hnxt]; exact hs1.c4, by rw [← hblk]; exact hs1.c2⟩
    have hnp63 : IntKind.i64.wrap ((nxt : Int) + (np : Int)) = (nxt : Int) + (np : Int) := IntWalk.i64_in _ ⟨by omega, by omega⟩
    have HEQ : Hid (st.clo = clo ∧ st.nxt = nxt ∧ st.blk = blk) := ⟨hclo, hnxt, hblk⟩
    rw [hnxt] at hnx hLn
    have hblB : blk < fl.B := by rw [← hblk]; exact hb
    clear hclo hnxt hblk hs1
    by_cases hcl : clo = false ∧ nxt + np ≤ fl.P
    · obtain ⟨hc0, hle⟩ := hcl
      subst hc0
      have hleI : (nxt : Int) + (np : Int) ≤ (fl.P : Int) := by omega
      obtain ⟨e2, f2, h2⟩ : ∃ e f', wrL fl blk nxt (pagesR (recd k nm vl)) = (e, f') := ⟨_, _, rfl⟩
      have hsl : S < w1.drew.drew.heap.size := Nat.lt_of_lt_of_le (HS.out.fin _ HS.out.dS) (HC1.out.drew.drew).size
      have HWR := Lib.hid (rwrite_any (HR1.out.drew.drew) (b := blk) (p := nxt) (n := np) hblB S2.out.1 hsl (fun h => hdis _ h HS.out.dS) (HPS1.out.1.below ((Below.refl _ _).drew.drew)) (fun h => by have := H.out.fin _ h; have := HPS1.out.2; omega) (pagesR_64 _) (by rw [pagesR_len]; exact HNP.out) hle)
      rw [h2] at HWR
      have H2 := Lib.hid h2
      have hcond : ¬ (st.clo = true ∨ fl.P < st.nxt + pgs (recd k nm vl).length) := by
        rw [HEQ.out.1, HEQ.out.2.1, HNP.out]; rintro (h | h)
        · cases h
        · omega
      have HCOND := Lib.hid hcond
      have HO := Lib.hid ho
      clear h2 hsl hcond ho
      have hd4 := S1.out
      obtain ⟨d40, d41, d42, d43⟩ := hd4
      go_wp2_with fail
      refine wp_region_pl (fun Y => Y = w1.drew) ((0, 0) :: (1, 0) :: (2, 0) :: (3, 0) :: (4, 0) :: (5, 0) :: (6, 0) :: (7, 0) :: (8, 0) :: (9, 0) :: (10, 0) :: (11, 0) :: (12, 0) :: (13, 0) :: (14, 0) :: (15, 0) :: (16, 0) :: (17, 0) :: (18, 0) :: (19, 0) :: (20, 0) :: (21, 0) :: (22, 0) :: []) (by kernel_rfl) (by kernel_rfl) ?_
      iterate 23 (apply wpP_go; (focus rfl); (focus rfl); (focus exact rfl); (focus (rintro Z rfl; go_simp; exact rfl)); intro K hK; go_simp; refine hK _ ?_; clear hK K)
      refine wpP_done ?_
      clear d40 d41 d42 d43 S1
      go_wp2_with fail
      refine wp_region_pl (fun Y => Y.cell? ⟨S, 0, none⟩ = some (fptr X) ∧ Y.cell? ⟨S, 4, none⟩ = some (.int .i64 nxt) ∧ Y.cell? ⟨S, 2, none⟩ = some (.int .i64 blk)) ((0, 0) :: (1, 0) :: (2, 0) :: (3, 0) :: (4, 0) :: (5, 0) :: (6, 0) :: (7, 0) :: (8, 0) :: (9, 0) :: (10, 1) :: (11, 2) :: []) (by kernel_rfl) (by kernel_rfl) ?_
      iterate 10 (apply wpP_go; (focus rfl); (focus rfl); (focus exact S2.out); (focus (rintro Z ⟨s0, s1, s2⟩; go_simp; exact rfl)); intro K hK; go_simp; refine hK _ ?_; clear hK K)
      apply wpP_one
      focus rfl
      intro K hK
      go_simp
      refine HWR.out.mono ?_
      rintro e w2 ⟨rfl, h5, c5⟩
      have HR2 := Lib.hid h5
      have HC2 : Hid (Ch D w w2) := HC1.out.drew.drew.trans c5
      have hsd : ¬ D S := fun h => hdis _ h HS.out.dS
      have hsl : S < w1.drew.drew.heap.size := Nat.lt_of_lt_of_le (HS.out.fin _ HS.out.dS) (HC1.out.drew.drew).size
      refine hK _ _ ⟨(c5.cell (p := ⟨S, 0, none⟩) hsl hsd).trans S2.out.1, (c5.cell (p := ⟨S, 4, none⟩) hsl hsd).trans S2.out.2.1, (c5.cell (p := ⟨S, 2, none⟩) hsl hsd).trans S2.out.2.2⟩ ?_
      clear hK K h5 c5 HWR HC1 HR1 S2 hsl hsd
      apply wpP_two
      focus rfl
      intro K hK
      go_simp
      refine hK _ _ ?_
      clear hK K
      refine wpP_done ?_
      by_cases he2 : e2 = 0
      · subst he2
        have HE := Lib.hid (chg4 (st := st) (k := k) (nm := nm) (v := vl) HO.out HCOND.out (by rw [HEQ.out.2.2, HEQ.out.2.1]; exact H2.out))
        have hs9 := HS.out.ch HC2.out fun k h1 h2 => hdis k h2 h1
        have HS9 := Lib.hid hs9
        obtain ⟨a0, c0, r0, _, _⟩ := hs9.ex
        have q1 := r0.cell (i := 4) (by omega)
        have q1' : w2.cell? ⟨S, 4, none⟩ = some (.int .i64 nxt) := by rw [q1]; simp [rsc, HEQ.out.2.1]
        have f1' := r0.frozen 4
        have r1 := r0.set (i := 4) (by omega) (.int .i64 ((nxt : Int) + (np : Int)))
        have q2 := r1.cell (i := 1) (by omega)
        have f2' := r1.frozen 1
        have r2 := r1.set (i := 1) (by omega) (.slice a L cv)
        have HR5' := Lib.hid (r2.congr (v' := rsc ⟨V, st.blk, st.gen, st.nxt + np, st.clo⟩ X a cv) fun j hj => by
          rcases (by omega : j = 0 ∨ j = 1 ∨ j = 2 ∨ j = 3 ∨ j = 4 ∨ j = 5) with e | e | e | e | e | e <;> subst e <;> simp [upd, rsc, HL.out, HEQ.out.2.1])
        have hCh : Ch (fun x => x = S) w2 ((w2.setCell ⟨S, 4, none⟩ (.int .i64 ((nxt : Int) + (np : Int)))).setCell ⟨S, 1, none⟩ (.slice a L cv)) :=
          ((Ch.refl (fun x => x = S) w2).setCell (p := ⟨S, 4, none⟩) (fun _ => rfl) _).setCell (p := ⟨S, 1, none⟩) (fun _ => rfl) _
        have HCH := Lib.hid hCh
        clear r0 r1 r2 hCh q1 hs9
        go_wp2_with fail
        go_ret
        rw [HE.out, HNP.out, HVE.out]
        have hvs := HV.out.1.ch HC2.out (fun g e => (HV.out.2 g e).1)
        have hfr := HS9.out.fresh (st' := ⟨V, st.blk, st.gen, st.nxt + np, st.clo⟩) hvs (fun g e => ⟨fun e2 => (HV.out.2 g e).2.1 (e2 ▸ HS9.out.dS), Nat.lt_of_lt_of_le (HV.out.2 g e).2.2 HC2.out.size⟩) HR5'.out HCH.out HVS.out HHV.out HS9.out.hg (by show st.nxt + np ≤ 900; rw [HEQ.out.2.1]; omega) HS9.out.hb (by show V.length ≤ st.nxt + np + 1; rw [HL.out, HEQ.out.2.1]; omega)
        exact ⟨rfl, HR2.out.ch HCH.out (fun k hk e => hdis k hk (e ▸ HS.out.dS)), (HC2.out.mono fun _ h _ => .inl h).andThen HCH.out (fun k e _ => by rw [e]; exact .inr HS.out.dS), _, fun i hi => hi, hfr⟩
      · have hed : (e2 == 0) = false := by simpa using he2
        have HE := Lib.hid (chg3 (st := st) (k := k) (nm := nm) (v := vl) HO.out HCOND.out (by rw [HEQ.out.2.2, HEQ.out.2.1]; exact H2.out) he2)
        go_wp2_with fail
        go_ret
        rw [HE.out]
        exact ⟨rfl, RLeft.same rfl HR2.out HC2.out HS.out hdis⟩
    · have hcond : st.clo = true ∨ fl.P < st.nxt + pgs (recd k nm vl).length := by
        rw [HEQ.out.1, HEQ.out.2.1, HNP.out]
        cases clo
        · exact .inr (Nat.lt_of_not_le fun h => hcl ⟨rfl, h⟩)
        · exact .inl rfl
      have HCOND := Lib.hid hcond
      have HO := Lib.hid ho
      clear hcond ho
      have hd4 := S1.out
      obtain ⟨d40, d41, d42, d43⟩ := hd4
      cases clo
      · have hle : ¬ nxt + np ≤ fl.P := fun h => hcl ⟨rfl, h⟩
        have hleI : ¬ (nxt : Int) + (np : Int) ≤ (fl.P : Int) := by omega
        clear hcl
        go_wp2_with fail
        refine wp_region_pl (fun Y => Y = w1.drew) ((0, 0) :: (1, 0) :: (2, 0) :: (3, 0) :: (4, 0) :: (5, 0) :: (6, 0) :: (7, 0) :: (8, 0) :: (9, 0) :: (10, 0) :: (11, 0) :: (12, 0) :: (13, 0) :: (14, 0) :: (15, 0) :: (16, 0) :: (17, 0) :: (18, 0) :: (19, 0) :: (20, 0) :: (21, 0) :: (22, 0) :: []) (by kernel_rfl) (by kernel_rfl) ?_
        iterate 23 (apply wpP_go; (focus rfl); (focus rfl); (focus exact rfl); (focus (rintro Z rfl; go_simp; exact rfl)); intro K hK; go_simp; refine hK _ ?_; clear hK K)
        refine wpP_done ?_
        clear d40 d41 d42 d43 S1 S2
        have HW : Hid (Ch D w w1.drew) := HC1.out.drew
        have HRW := Lib.hid (HR1.out.drew)
        have HVW : Hid (VS w1.drew a cv V) := HV.out.1.ch HW.out (fun g e => (HV.out.2 g e).1)
        have hszW := HW.out.size
        clear HC1 HR1 HPS1 hcp
        generalize w1.drew = W at *
        have HO0 : Hid (OB W W 9 1 (.slice none 0 0) 0 ((allP (recs (V.take 0))).map str)) := OB.nil (Below.refl _ _)
        go_wp2_with fail
        go_loopw [9, 10] (fun x z wr => ∃ (i n : Nat) (v : Value), i ≤ L ∧ v = x ∧ z = .int .i64 (i : Int) ∧ Hid (sumP (recs (V.take i)) = n ∧ n ≤ 3 * i) ∧ Hid (OB W wr 9 1 v n ((allP (recs (V.take i))).map str))) (fun _ z _ => L - (intOf z).toNat)
        case atStart => exact ⟨0, 0, _, by omega, rfl, rfl, ⟨by simp [recs, sumP], by omega⟩, HO0⟩
        case round =>
          clear HO0
          obtain ⟨i, n, v, hi, hvx, rfl, HN, HOB⟩ := hrel
          subst hvx
          have hn3 := HN.out.2
          by_cases hlt : i < L
          · have y0 : (i : Int) < L := by omega
            have hiV : i < V.length := by rw [HL.out]; exact hlt
            obtain ⟨gw, hgw, hgl, hcell⟩ := (HVW.out.below HOB.out.bel).2.2 (by intro e; rw [e] at hiV; cases hiV)
            obtain ⟨d0, d1⟩ := hcell i hiV
            have hhp := HHV.out (V.getD i ([], [])) (by rw [List.getD_eq_getElem?_getD, List.getElem?_eq_getElem hiV]; exact List.getElem_mem hiV)
            have hrt := recs_take hiV
            obtain ⟨pk, hpk⟩ : ∃ p, V.getD i ([], []) = p := ⟨_, rfl⟩
            rw [hpk] at d0 d1 hhp hrt
            obtain ⟨ke, hke⟩ : ∃ s : ByteArray, str pk.1 = .string s := ⟨_, rfl⟩
            obtain ⟨kv, hkv⟩ : ∃ s : ByteArray, str pk.2 = .string s := ⟨_, rfl⟩
            have hkel : ke.data.toList = pk.1 := by injection hke with hke; rw [← hke]
            have hkvl : kv.data.toList = pk.2 := by injection hkv with hkv; rw [← hkv]
            rw [hke] at d0
            rw [hkv] at d1
            subst hgw
            have hkes : ke.size ≤ 24 := by rw [bsz, hkel]; exact hhp.1
            have hkvs : kv.size ≤ 128 := by rw [bsz, hkvl]; exact hhp.2
            obtain ⟨rb, hrb⟩ : ∃ s : ByteArray, s = ⟨(recd 1 ke.data.toList kv.data.toList).toArray⟩ := ⟨_, rfl⟩
            have hrbl : rb.data.toList = recd 1 pk.1 pk.2 := by rw [hrb, hkel, hkvl]
            have hrbz : rb.size = 5 + ke.size + kv.size := by rw [bsz, hrbl, recd_len, bsz, bsz, hkel, hkvl]
            obtain ⟨m, hm⟩ : ∃ m, pgs rb.size = m := ⟨_, rfl⟩
            have hm3 : 1 ≤ m ∧ m ≤ 3 := by rw [← hm, hrbz]; unfold pgs; omega
            have HREC2 : Hid (∀ Z, Calls Tryz.prog 15 #[.int .u8 1, .string ke, .string kv] Z fun e w' => e = .returned (.string rb) ∧ Below Z.heap.size Z w') := fun Z => by
              rw [hrb]
              exact rrecord_any 1 ke kv Z (by omega) (by omega) (by omega)
            have HPG2 : Hid (∀ Z, Calls Tryz.prog 14 #[.string rb] Z fun e w' => ∃ g cap, e = .returned (.slice (some ⟨g, 0, none⟩) m cap) ∧ PS w' g 0 cap (pagesR (recd 1 pk.1 pk.2)) ∧ Z.heap.size ≤ g ∧ Below Z.heap.size Z w') := fun Z => by
              have := rpages_any rb Z (by omega) (by omega)
              rw [hm, hrbl] at this
              exact this
            have hml : (pagesR (recd 1 pk.1 pk.2)).length = m := by rw [pagesR_len, ← hrbl, ← hm]; rfl
            have HM := Lib.hid hml
            have HN2 : Hid (sumP (recs (V.take (i + 1))) = n + m) := by
              show _ = _
              rw [hrt, sumP_append, HN.out.1]
              show n + (pgs (recd 1 pk.1 pk.2).length + 0) = n + m
              rw [← pagesR_len, hml, Nat.add_zero]
            have HT : Hid ((allP (recs (V.take (i + 1)))).map str = (allP (recs (V.take i))).map str ++ (pagesR (recd 1 pk.1 pk.2)).map str) := by
              show _ = _
              rw [hrt, allP_snoc, List.map_append]
            obtain ⟨i2, hi2⟩ : ∃ j, 2 * i = j := ⟨_, rfl⟩
            have SR : Hid (wr.drew.cell? ⟨gw, i * 2, none⟩ = some (.string ke) ∧ wr.drew.cell? ⟨gw, i * 2 + 1, none⟩ = some (.string kv)) := ⟨d0, d1⟩
            have HBD : Hid (Below W.heap.size W wr.drew) := HOB.out.bel.drew
            have HOBD := Lib.hid (HOB.out.below ((Below.refl _ wr).drew))
            clear hpk hke hkv hkel hkvl hcell hhp hrt hrb hrbl hrbz hm hml d0 d1 hkes hkvs hi2
            go_wp2_with fail
            refine wp_region_pl (fun Y => Y.cell? ⟨gw, i * 2, none⟩ = some (.string ke) ∧ Y.cell? ⟨gw, i * 2 + 1, none⟩ = some (.string kv)) ((0, 0) :: (1, 0) :: (2, 0) :: (3, 0) :: (4, 0) :: (5, 0) :: (6, 0) :: (7, 0) :: (8, 0) :: (9, 0) :: (10, 0) :: (11, 1) :: (12, 1) :: (13, 1) :: (14, 2) :: []) (by kernel_rfl) (by kernel_rfl) ?_
            iterate 11 (apply wpP_go; (focus rfl); (focus rfl); (focus exact SR.out); (focus (rintro Z ⟨s0, s1⟩; go_simp; exact rfl)); intro K hK; go_simp; refine hK _ ?_; clear hK K)
            apply wpP_one
            focus rfl
            intro K hK
            go_simp
            refine (HREC2.out _).mono ?_
            rintro e V1 ⟨rfl, b1⟩
            have SR1 : Hid (V1.cell? ⟨gw, i * 2, none⟩ = some (.string ke) ∧ V1.cell? ⟨gw, i * 2 + 1, none⟩ = some (.string kv)) := ⟨cell_later b1 SR.out.1, cell_later b1 SR.out.2⟩
            have HOB1 := Lib.hid (HOBD.out.below b1)
            refine hK _ _ SR1.out ?_
            clear hK K b1 SR HOBD HREC2
            apply wpP_one
            focus rfl
            intro K hK
            go_simp
            refine (HPG2.out _).mono ?_
            rintro e V2 ⟨g2, c2, rfl, hp2, hg2, b2⟩
            have SR2 : Hid (V2.cell? ⟨gw, i * 2, none⟩ = some (.string ke) ∧ V2.cell? ⟨gw, i * 2 + 1, none⟩ = some (.string kv)) := ⟨cell_later b2 SR1.out.1, cell_later b2 SR1.out.2⟩
            have HOB2 := Lib.hid (HOB1.out.below b2)
            have HP2 := Lib.hid hp2
            refine hK _ _ SR2.out ?_
            clear hK K b2 SR1 HOB1 HPG2 hp2 hg2
            apply wpP_one
            focus rfl
            intro K hK
            refine step_append_lies V2 rfl _ _ 25 rfl 0 9 iS _ 1 16 Tryz.underlying25 hiS hxS0 hxS1 hxS2 rfl (by omega) v n ((allP (recs (V.take i))).map str) rfl (by exact HOB2.out.row) ⟨g2, 0, none⟩ m c2 ((pagesR (recd 1 pk.1 pk.2)).map str) rfl (by rw [List.length_map, HM.out, Nat.mul_one]) (by exact news_ps HP2.out) (one_str _) (by omega) (by simp only [maxLen]; omega) (by omega) (Nat.zero_le _) V2.heap.size rfl ?_
            intro g1 cap1 w6 ho hg hat hbel
            have hO2 := HOB2.out.take (m := m) HOB2.out.bel (by simpa using ho) hg (by
              rcases hat with h | h
              · exact .inl h
              · right; have := HOB2.out.bel.size; omega)
            rw [← HT.out] at hO2
            have HO6 := Lib.hid hO2
            have SR6 : w6.cell? ⟨gw, i * 2, none⟩ = some (.string ke) ∧ w6.cell? ⟨gw, i * 2 + 1, none⟩ = some (.string kv) := by
              have hgW : gw < W.heap.size := Nat.lt_of_lt_of_le (HV.out.2 gw rfl).2.2 hszW
              have hgV : gw < V2.heap.size := Nat.lt_of_lt_of_le hgW HOB2.out.bel.size
              exact ⟨((grown_ch hg).cell (p := ⟨gw, i * 2, none⟩) hgV (fun e => by have := HOB2.out.new gw e; omega)).trans SR2.out.1, ((grown_ch hg).cell (p := ⟨gw, i * 2 + 1, none⟩) hgV (fun e => by have := HOB2.out.new gw e; omega)).trans SR2.out.2⟩
            refine hK _ _ SR6 ?_
            clear hK K ho hg hat hbel hO2 SR6 SR2 HOB2
            apply wpP_two
            focus rfl
            intro K hK
            go_simp
            refine hK _ _ ?_
            clear hK K
            refine wpP_done ?_
            go_wp2_with fail
            go_roundw
            case rel => exact ⟨i + 1, n + m, _, by omega, rfl, by go_num, ⟨HN2.out, by omega⟩, HO6⟩
            case measure => simp [intOf]; omega
          · have y0 : ¬ (i : Int) < L := by omega
            have hiL : i = L := by omega
            have hVt : V.take i = V := List.take_of_length_le (by rw [HL.out]; omega)
            have hob := HOB.out
            have hsum := HN.out.1
            rw [hVt] at hob hsum
            obtain ⟨av, ca, rfl, hal, hag⟩ := hob.al
            have HAL := Lib.hid (And.intro hal hag)
            have HBW := Lib.hid hob.bel
            have HSUM := Lib.hid hsum
            have HCW : Hid (Ch D w wr) := HW.out.trans (Ch.of_below HBW.out D)
            have HRW2 := Lib.hid (HRW.out.below HBW.out)
            have HSW := Lib.hid (HS.out.ch HCW.out fun k h1 h2 => hdis k h2 h1)
            have k0 := HSW.out.c0
            have k1 := HRW2.out.c1
            have hpw : IntKind.i64.wrap ((fl.P : Int) - 1) = (fl.P : Int) - 1 := IntWalk.i64_in _ ⟨by omega, by omega⟩
            have hnca := hal.le
            rw [allP_len, hsum] at hnca
            have hncap : n ≤ ca ∧ ca ≤ maxLen := hnca
            clear hob hal hag hsum hVt hnca HOB HN
            by_cases hbig : fl.P < 1 + n
            · have hgt : (n : Int) > (fl.P : Int) - 1 := by omega
              have HE : Hid (chgF fl st k nm vl = (8, fl, st)) := by
                show _ = _
                rw [chg2 HO.out HCOND.out, HVE.out]
                exact cmp1 rfl (by rw [HSUM.out]; exact hbig)
              go_wp2_with fail
              go_ret
              rw [HE.out]
              exact ⟨rfl, RLeft.same rfl HRW2.out HCW.out HS.out hdis⟩
            · have hgt : ¬ (n : Int) > (fl.P : Int) - 1 := by omega
              have HE : Hid (chgF fl st k nm vl = cmpF fl st V) := by
                show _ = _
                rw [chg2 HO.out HCOND.out, HVE.out]
              have hszr := HCW.out.size
              have HCM := Lib.hid (rcompact_any HSW.out HRW2.out hdis HAL.out.1 (fun g e hD => by have := (HAL.out.2 g e).1; have := H.out.fin g hD; have := HW.out.size; omega) HSUM.out (by omega) (HV.out.1.ch HCW.out (fun g e => (HV.out.2 g e).1)) (fun g e => ⟨(HV.out.2 g e).1, (HV.out.2 g e).2.1, Nat.lt_of_lt_of_le (HV.out.2 g e).2.2 hszr⟩) HVS.out HHV.out HL.out)
              clear hszr
              go_wp2_with fail
              refine HCM.out.mono ?_
              rintro e w9 ⟨rfl, h9⟩
              have H9 := Lib.hid h9
              clear h9 HCM
              go_wp2_with fail
              go_ret
              rw [HE.out]
              exact ⟨rfl, H9.out.1, (HCW.out.mono fun _ h _ => .inl h).trans H9.out.2.1, H9.out.2.2⟩
      · clear hcl
        go_wp2_with fail
        refine wp_region_pl (fun Y => Y = w1.drew) ((0, 0) :: (1, 0) :: (2, 0) :: (3, 0) :: (4, 0) :: (5, 0) :: (6, 0) :: (7, 0) :: (8, 0) :: (9, 0) :: (10, 0) :: (11, 0) :: (12, 0) :: (13, 0) :: (14, 0) :: (15, 0) :: (16, 0) :: (17, 0) :: (18, 0) :: (19, 0) :: (20, 0) :: (21, 0) :: (22, 0) :: []) (by kernel_rfl) (by kernel_rfl) ?_
        iterate 6 (apply wpP_go; (focus rfl); (focus rfl); (focus exact rfl); (focus (rintro Z rfl; go_simp; exact rfl)); intro K hK; go_simp; refine hK _ ?_; clear hK K)
        iterate 16 (apply wpP_not; (focus rfl); (focus rfl); (focus exact rfl); intro K hK; go_simp; refine hK _ ?_; clear hK K)
        iterate 1 (apply wpP_go; (focus rfl); (focus rfl); (focus exact rfl); (focus (rintro Z rfl; go_simp; exact rfl)); intro K hK; go_simp; refine hK _ ?_; clear hK K)
        refine wpP_done ?_
        clear d40 d41 d42 d43 S1 S2
        have HW : Hid (Ch D w w1.drew) := HC1.out.drew
        have HRW := Lib.hid (HR1.out.drew)
        have HVW : Hid (VS w1.drew a cv V) := HV.out.1.ch HW.out (fun g e => (HV.out.2 g e).1)
        have hszW := HW.out.size
        clear HC1 HR1 HPS1 hcp
        generalize w1.drew = W at *
        have HO0 : Hid (OB W W 9 1 (.slice none 0 0) 0 ((allP (recs (V.take 0))).map str)) := OB.nil (Below.refl _ _)
        go_wp2_with fail
        go_loopw [9, 10] (fun x z wr => ∃ (i n : Nat) (v : Value), i ≤ L ∧ v = x ∧ z = .int .i64 (i : Int) ∧ Hid (sumP (recs (V.take i)) = n ∧ n ≤ 3 * i) ∧ Hid (OB W wr 9 1 v n ((allP (recs (V.take i))).map str))) (fun _ z _ => L - (intOf z).toNat)
        case atStart => exact ⟨0, 0, _, by omega, rfl, rfl, ⟨by simp [recs, sumP], by omega⟩, HO0⟩
        case round =>
          clear HO0
          obtain ⟨i, n, v, hi, hvx, rfl, HN, HOB⟩ := hrel
          subst hvx
          have hn3 := HN.out.2
          by_cases hlt : i < L
          · have y0 : (i : Int) < L := by omega
            have hiV : i < V.length := by rw [HL.out]; exact hlt
            obtain ⟨gw, hgw, hgl, hcell⟩ := (HVW.out.below HOB.out.bel).2.2 (by intro e; rw [e] at hiV; cases hiV)
            obtain ⟨d0, d1⟩ := hcell i hiV
            have hhp := HHV.out (V.getD i ([], [])) (by rw [List.getD_eq_getElem?_getD, List.getElem?_eq_getElem hiV]; exact List.getElem_mem hiV)
            have hrt := recs_take hiV
            obtain ⟨pk, hpk⟩ : ∃ p, V.getD i ([], []) = p := ⟨_, rfl⟩
            rw [hpk] at d0 d1 hhp hrt
            obtain ⟨ke, hke⟩ : ∃ s : ByteArray, str pk.1 = .string s := ⟨_, rfl⟩
            obtain ⟨kv, hkv⟩ : ∃ s : ByteArray, str pk.2 = .string s := ⟨_, rfl⟩
            have hkel : ke.data.toList = pk.1 := by injection hke with hke; rw [← hke]
            have hkvl : kv.data.toList = pk.2 := by injection hkv with hkv; rw [← hkv]
            rw [hke] at d0
            rw [hkv] at d1
            subst hgw
            have hkes : ke.size ≤ 24 := by rw [bsz, hkel]; exact hhp.1
            have hkvs : kv.size ≤ 128 := by rw [bsz, hkvl]; exact hhp.2
            obtain ⟨rb, hrb⟩ : ∃ s : ByteArray, s = ⟨(recd 1 ke.data.toList kv.data.toList).toArray⟩ := ⟨_, rfl⟩
            have hrbl : rb.data.toList = recd 1 pk.1 pk.2 := by rw [hrb, hkel, hkvl]
            have hrbz : rb.size = 5 + ke.size + kv.size := by rw [bsz, hrbl, recd_len, bsz, bsz, hkel, hkvl]
            obtain ⟨m, hm⟩ : ∃ m, pgs rb.size = m := ⟨_, rfl⟩
            have hm3 : 1 ≤ m ∧ m ≤ 3 := by rw [← hm, hrbz]; unfold pgs; omega
            have HREC2 : Hid (∀ Z, Calls Tryz.prog 15 #[.int .u8 1, .string ke, .string kv] Z fun e w' => e = .returned (.string rb) ∧ Below Z.heap.size Z w') := fun Z => by
              rw [hrb]
              exact rrecord_any 1 ke kv Z (by omega) (by omega) (by omega)
            have HPG2 : Hid (∀ Z, Calls Tryz.prog 14 #[.string rb] Z fun e w' => ∃ g cap, e = .returned (.slice (some ⟨g, 0, none⟩) m cap) ∧ PS w' g 0 cap (pagesR (recd 1 pk.1 pk.2)) ∧ Z.heap.size ≤ g ∧ Below Z.heap.size Z w') := fun Z => by
              have := rpages_any rb Z (by omega) (by omega)
              rw [hm, hrbl] at this
              exact this
            have hml : (pagesR (recd 1 pk.1 pk.2)).length = m := by rw [pagesR_len, ← hrbl, ← hm]; rfl
            have HM := Lib.hid hml
            have HN2 : Hid (sumP (recs (V.take (i + 1))) = n + m) := by
              show _ = _
              rw [hrt, sumP_append, HN.out.1]
              show n + (pgs (recd 1 pk.1 pk.2).length + 0) = n + m
              rw [← pagesR_len, hml, Nat.add_zero]
            have HT : Hid ((allP (recs (V.take (i + 1)))).map str = (allP (recs (V.take i))).map str ++ (pagesR (recd 1 pk.1 pk.2)).map str) := by
              show _ = _
              rw [hrt, allP_snoc, List.map_append]
            obtain ⟨i2, hi2⟩ : ∃ j, 2 * i = j := ⟨_, rfl⟩
            have SR : Hid (wr.drew.cell? ⟨gw, i * 2, none⟩ = some (.string ke) ∧ wr.drew.cell? ⟨gw, i * 2 + 1, none⟩ = some (.string kv)) := ⟨d0, d1⟩
            have HBD : Hid (Below W.heap.size W wr.drew) := HOB.out.bel.drew
            have HOBD := Lib.hid (HOB.out.below ((Below.refl _ wr).drew))
            clear hpk hke hkv hkel hkvl hcell hhp hrt hrb hrbl hrbz hm hml d0 d1 hkes hkvs hi2
            go_wp2_with fail
            refine wp_region_pl (fun Y => Y.cell? ⟨gw, i * 2, none⟩ = some (.string ke) ∧ Y.cell? ⟨gw, i * 2 + 1, none⟩ = some (.string kv)) ((0, 0) :: (1, 0) :: (2, 0) :: (3, 0) :: (4, 0) :: (5, 0) :: (6, 0) :: (7, 0) :: (8, 0) :: (9, 0) :: (10, 0) :: (11, 1) :: (12, 1) :: (13, 1) :: (14, 2) :: []) (by kernel_rfl) (by kernel_rfl) ?_
            iterate 11 (apply wpP_go; (focus rfl); (focus rfl); (focus exact SR.out); (focus (rintro Z ⟨s0, s1⟩; go_simp; exact rfl)); intro K hK; go_simp; refine hK _ ?_; clear hK K)
            apply wpP_one
            focus rfl
            intro K hK
            go_simp
            refine (HREC2.out _).mono ?_
            rintro e V1 ⟨rfl, b1⟩
            have SR1 : Hid (V1.cell? ⟨gw, i * 2, none⟩ = some (.string ke) ∧ V1.cell? ⟨gw, i * 2 + 1, none⟩ = some (.string kv)) := ⟨cell_later b1 SR.out.1, cell_later b1 SR.out.2⟩
            have HOB1 := Lib.hid (HOBD.out.below b1)
            refine hK _ _ SR1.out ?_
            clear hK K b1 SR HOBD HREC2
            apply wpP_one
            focus rfl
            intro K hK
            go_simp
            refine (HPG2.out _).mono ?_
            rintro e V2 ⟨g2, c2, rfl, hp2, hg2, b2⟩
            have SR2 : Hid (V2.cell? ⟨gw, i * 2, none⟩ = some (.string ke) ∧ V2.cell? ⟨gw, i * 2 + 1, none⟩ = some (.string kv)) := ⟨cell_later b2 SR1.out.1, cell_later b2 SR1.out.2⟩
            have HOB2 := Lib.hid (HOB1.out.below b2)
            have HP2 := Lib.hid hp2
            refine hK _ _ SR2.out ?_
            clear hK K b2 SR1 HOB1 HPG2 hp2 hg2
            apply wpP_one
            focus rfl
            intro K hK
            refine step_append_lies V2 rfl _ _ 25 rfl 0 9 iS _ 1 16 Tryz.underlying25 hiS hxS0 hxS1 hxS2 rfl (by omega) v n ((allP (recs (V.take i))).map str) rfl (by exact HOB2.out.row) ⟨g2, 0, none⟩ m c2 ((pagesR (recd 1 pk.1 pk.2)).map str) rfl (by rw [List.length_map, HM.out, Nat.mul_one]) (by exact news_ps HP2.out) (one_str _) (by omega) (by simp only [maxLen]; omega) (by omega) (Nat.zero_le _) V2.heap.size rfl ?_
            intro g1 cap1 w6 ho hg hat hbel
            have hO2 := HOB2.out.take (m := m) HOB2.out.bel (by simpa using ho) hg (by
              rcases hat with h | h
              · exact .inl h
              · right; have := HOB2.out.bel.size; omega)
            rw [← HT.out] at hO2
            have HO6 := Lib.hid hO2
            have SR6 : w6.cell? ⟨gw, i * 2, none⟩ = some (.string ke) ∧ w6.cell? ⟨gw, i * 2 + 1, none⟩ = some (.string kv) := by
              have hgW : gw < W.heap.size := Nat.lt_of_lt_of_le (HV.out.2 gw rfl).2.2 hszW
              have hgV : gw < V2.heap.size := Nat.lt_of_lt_of_le hgW HOB2.out.bel.size
              exact ⟨((grown_ch hg).cell (p := ⟨gw, i * 2, none⟩) hgV (fun e => by have := HOB2.out.new gw e; omega)).trans SR2.out.1, ((grown_ch hg).cell (p := ⟨gw, i * 2 + 1, none⟩) hgV (fun e => by have := HOB2.out.new gw e; omega)).trans SR2.out.2⟩
            refine hK _ _ SR6 ?_
            clear hK K ho hg hat hbel hO2 SR6 SR2 HOB2
            apply wpP_two
            focus rfl
            intro K hK
            go_simp
            refine hK _ _ ?_
            clear hK K
            refine wpP_done ?_
            go_wp2_with fail
            go_roundw
            case rel => exact ⟨i + 1, n + m, _, by omega, rfl, by go_num, ⟨HN2.out, by omega⟩, HO6⟩
            case measure => simp [intOf]; omega
          · have y0 : ¬ (i : Int) < L := by omega
            have hiL : i = L := by omega
            have hVt : V.take i = V := List.take_of_length_le (by rw [HL.out]; omega)
            have hob := HOB.out
            have hsum := HN.out.1
            rw [hVt] at hob hsum
            obtain ⟨av, ca, rfl, hal, hag⟩ := hob.al
            have HAL := Lib.hid (And.intro hal hag)
            have HBW := Lib.hid hob.bel
            have HSUM := Lib.hid hsum
            have HCW : Hid (Ch D w wr) := HW.out.trans (Ch.of_below HBW.out D)
            have HRW2 := Lib.hid (HRW.out.below HBW.out)
            have HSW := Lib.hid (HS.out.ch HCW.out fun k h1 h2 => hdis k h2 h1)
            have k0 := HSW.out.c0
            have k1 := HRW2.out.c1
            have hpw : IntKind.i64.wrap ((fl.P : Int) - 1) = (fl.P : Int) - 1 := IntWalk.i64_in _ ⟨by omega, by omega⟩
            have hnca := hal.le
            rw [allP_len, hsum] at hnca
            have hncap : n ≤ ca ∧ ca ≤ maxLen := hnca
            clear hob hal hag hsum hVt hnca HOB HN
            by_cases hbig : fl.P < 1 + n
            · have hgt : (n : Int) > (fl.P : Int) - 1 := by omega
              have HE : Hid (chgF fl st k nm vl = (8, fl, st)) := by
                show _ = _
                rw [chg2 HO.out HCOND.out, HVE.out]
                exact cmp1 rfl (by rw [HSUM.out]; exact hbig)
              go_wp2_with fail
              go_ret
              rw [HE.out]
              exact ⟨rfl, RLeft.same rfl HRW2.out HCW.out HS.out hdis⟩
            · have hgt : ¬ (n : Int) > (fl.P : Int) - 1 := by omega
              have HE : Hid (chgF fl st k nm vl = cmpF fl st V) := by
                show _ = _
                rw [chg2 HO.out HCOND.out, HVE.out]
              have hszr := HCW.out.size
              have HCM := Lib.hid (rcompact_any HSW.out HRW2.out hdis HAL.out.1 (fun g e hD => by have := (HAL.out.2 g e).1; have := H.out.fin g hD; have := HW.out.size; omega) HSUM.out (by omega) (HV.out.1.ch HCW.out (fun g e => (HV.out.2 g e).1)) (fun g e => ⟨(HV.out.2 g e).1, (HV.out.2 g e).2.1, Nat.lt_of_lt_of_le (HV.out.2 g e).2.2 hszr⟩) HVS.out HHV.out HL.out)
              clear hszr
              go_wp2_with fail
              refine HCM.out.mono ?_
              rintro e w9 ⟨rfl, h9⟩
              have H9 := Lib.hid h9
              clear h9 HCM
              go_wp2_with fail
              go_ret
              rw [HE.out]
              exact ⟨rfl, H9.out.1, (HCW.out.mono fun _ h _ => .inl h).trans H9.out.2.1, H9.out.2.2⟩
  · rw [ho] at c5
    have HE := Lib.hid (chg1 (st := st) (k := k) (nm := nm) (v := vl) ho)
    clear ho
    go_enter Tryz.func72, Tryz.ntmps72
    go_wp2_with fail
    go_ret
    rw [HE.out]
    exact ⟨rfl, RLeft.same rfl H.out (Ch.refl _ _) HS.out hdis⟩
end
end Go.Proofs.YtfglopkglnpokaaGreat
