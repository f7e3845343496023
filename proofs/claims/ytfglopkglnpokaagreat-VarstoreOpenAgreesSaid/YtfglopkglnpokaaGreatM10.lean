/- The reference's Program, Erase, Pages, block. Conditions: those that each theorem names. -/
import Derived.ArgAppend
import Derived.Test.YtfglopkglnpokaaGreatM9
namespace Go.Proofs.YtfglopkglnpokaaGreat
open Go.RowKit
section
variable {w : World} {D : Nat → Prop} {X : Nat} {y : RLay} {fl : FL}
set_option maxRecDepth 100000 in
set_option maxHeartbeats 4000000 in
theorem rprogram_any (h : RW w D X y fl) {b p : Nat} (hb : b < fl.B) (hp : p < fl.P) {d : ByteArray} (hd : d.size = 64) :
    Calls Tryz.prog 17 #[fptr X, .int .i64 b, .int .i64 p, .string d] w fun e w' => e = .returned (.int .i64 (progF fl b p d.data.toList).1) ∧ RW w' D X y (progF fl b p d.data.toList).2 ∧ Ch D w w' := by
  have c3 := h.c3
  have c5 := h.c5
  have cs := h.cs hb
  have cg := h.cg hb hp
  have hpc := h.pc
  have hB := h.hB
  have hP := h.hP
  have hcp := h.cp b hb
  have hbI : (b : Int) < fl.B := by omega
  have hpI : (p : Int) < fl.P := by omega
  have HB := Lib.hid (rin_any h hb hp)
  have H := Lib.hid h
  have hlen := h.len b p hb hp
  obtain ⟨old, hold⟩ : ∃ old : ByteArray, old = ⟨(fl.pg b p).toArray⟩ := ⟨_, rfl⟩
  have hol : old.data.toList = fl.pg b p := by rw [hold]
  have hos : old.size = 64 := by rw [hold]; simpa [ByteArray.size] using hlen
  have HOL := Lib.hid hol
  rw [show str (fl.pg b p) = .string old by rw [hold]] at cg
  clear h hold hol hlen
  cases ho : fl.off
  · rw [ho] at c5
    go_enter Tryz.func17, Tryz.ntmps17
    go_wp2_with fail
    refine HB.out.mono ?_
    rintro e w' ⟨rfl, rfl⟩
    go_wp2_with fail
    have HC : Hid (Ch D w w) := Ch.refl _ _
    go_loopw [10] (fun z wr => ∃ i : Nat, i ≤ 64 ∧ z = .int .i64 (i : Int) ∧ Hid (∀ j, j < i → fits1 (old.data.toList.getD j 0) (d.data.toList.getD j 0) = true) ∧ Hid (RW wr D X y fl) ∧ Hid (Ch D w wr)) (fun z _ => 64 - (intOf z).toNat)
    case atStart => exact ⟨0, by omega, rfl, fun j hj => by omega, H, HC⟩
    case round =>
      clear cs cg c3 c5 H HC HB
      obtain ⟨i, hi, rfl, HJ, H, HC⟩ := hrel
      by_cases hi6 : i < 64
      · have y0 : (i : Int) < 64 := by omega
        have hdl : d.data.toList.getD i 0 = d[i] := by
          rw [List.getD_eq_getElem?_getD, List.getElem?_eq_getElem (by rw [Array.length_toList]; exact (by omega : i < d.size))]; rfl
        have hol : old.data.toList.getD i 0 = old[i] := by
          rw [List.getD_eq_getElem?_getD, List.getElem?_eq_getElem (by rw [Array.length_toList]; exact (by omega : i < old.size))]; rfl
        by_cases hf : fits1 (old.data.toList.getD i 0) (d.data.toList.getD i 0) = true
        · have ha : bits .andNot .u8 (d[i].toNat : Int) (old[i].toNat : Int) = 0 := by
            rw [b_andNot]
            rw [hdl, hol] at hf
            unfold fits1 at hf
            rw [beq_iff_eq] at hf
            rw [hf]; rfl
          have HJ2 : Hid (∀ j, j < i + 1 → fits1 (old.data.toList.getD j 0) (d.data.toList.getD j 0) = true) := fun j hj => by
            rcases (by omega : j < i ∨ j = i) with h1 | h1
            · exact HJ.out j h1
            · rw [h1]; exact hf
          have H2 : Hid (RW wr.drew D X y fl) := H.out.drew
          have HC2 : Hid (Ch D w wr.drew) := HC.out.drew
          clear hdl hol hf HJ H HC
          go_wp2_with fail
          refine wp_region_pl (fun _ => True) ((0, 0) :: (1, 0) :: (2, 0) :: (3, 0) :: (4, 0) :: (5, 0) :: (6, 0) :: (7, 0) :: []) (by kernel_rfl) (by kernel_rfl) ?_
          iterate 8 (apply wpP_go; (focus rfl); (focus rfl); (focus exact trivial); (focus (rintro Z _; go_simp; exact rfl)); intro K hK; go_simp; refine hK _ ?_; clear hK K)
          refine wpP_done ?_
          clear ha
          generalize wr.drew = V at *
          go_wp2_with fail
          go_roundw
          case rel => exact ⟨i + 1, by omega, by go_num, HJ2, H2, HC2⟩
          case measure => simp [intOf]; omega
        · obtain ⟨x, ha, hx⟩ : ∃ x : Int, bits .andNot .u8 (d[i].toNat : Int) (old[i].toNat : Int) = x ∧ x ≠ 0 := by
            refine ⟨_, rfl, ?_⟩
            rw [b_andNot]
            rw [hdl, hol] at hf
            unfold fits1 at hf
            rw [beq_iff_eq] at hf
            intro h0
            apply hf
            apply UInt8.toNat_inj.1
            simpa using h0
          have HS : Hid (progF fl b p d.data.toList = (9, fl)) := by
            show _ = _
            unfold progF
            rw [if_neg (by rw [ho]; simp), if_pos]
            unfold fitsB
            rw [← HOL.out]
            rw [List.all_eq_false]
            refine ⟨fits1 (old.data.toList.getD i 0) (d.data.toList.getD i 0), ?_, by simpa using hf⟩
            have h1 : i < old.data.toList.length := by rw [Array.length_toList]; exact (by omega : i < old.size)
            have h2 : i < d.data.toList.length := by rw [Array.length_toList]; exact (by omega : i < d.size)
            rw [List.getD_eq_getElem?_getD, List.getD_eq_getElem?_getD, List.getElem?_eq_getElem h1, List.getElem?_eq_getElem h2]
            have h3 : i < (List.zipWith fits1 old.data.toList d.data.toList).length := by rw [List.length_zipWith]; omega
            have := List.getElem_mem h3
            rw [List.getElem_zipWith] at this
            exact this
          have H2 : Hid (RW wr.drew D X y fl) := H.out.drew
          have HC2 : Hid (Ch D w wr.drew) := HC.out.drew
          clear hdl hol hf HJ H HC
          go_wp2_with fail
          refine wp_region_pl (fun _ => True) ((0, 0) :: (1, 0) :: (2, 0) :: (3, 0) :: (4, 0) :: (5, 0) :: (6, 0) :: (7, 0) :: []) (by kernel_rfl) (by kernel_rfl) ?_
          iterate 8 (apply wpP_go; (focus rfl); (focus rfl); (focus exact trivial); (focus (rintro Z _; go_simp; exact rfl)); intro K hK; go_simp; refine hK _ ?_; clear hK K)
          refine wpP_done ?_
          clear ha
          generalize wr.drew = V at *
          go_wp2_with fail
          go_ret
          rw [HS.out]
          exact ⟨rfl, H2.out, HC2.out⟩
      · have y0 : ¬ (i : Int) < 64 := by omega
        have hfit : fitsB (fl.pg b p) d.data.toList = true := by
          unfold fitsB
          rw [List.all_eq_true]
          intro x hx
          obtain ⟨j, hj, rfl⟩ := List.getElem_of_mem hx
          rw [List.length_zipWith] at hj
          rw [List.getElem_zipWith]
          have e1 : (fl.pg b p).length = 64 := by rw [← HOL.out, Array.length_toList]; exact hos
          have := HJ.out j (by omega)
          rw [HOL.out, List.getD_eq_getElem?_getD, List.getD_eq_getElem?_getD, List.getElem?_eq_getElem (by omega), List.getElem?_eq_getElem (by omega)] at this
          exact this
        have HPF : Hid (progF fl b p d.data.toList = if (intF fl).1 = false then (0, (intF fl).2.put b p d.data.toList) else (16, (intF fl).2.put b p (tornP fl.torn (fl.pg b p) d.data.toList))) := by
          show _ = _
          unfold progF
          rw [if_neg (by rw [ho]; simp), if_neg (by rw [hfit]; simp)]
        have hdl : d.data.toList.length = 64 := by rw [Array.length_toList]; exact hd
        have HTN : Hid (mrgS fl.torn old.data.toList d.data.toList = tornP fl.torn (fl.pg b p) d.data.toList ∧ (tornP fl.torn (fl.pg b p) d.data.toList).length = 64) := by
          have e1 : (fl.pg b p).length = 64 := by rw [← HOL.out, Array.length_toList]; exact hos
          refine ⟨?_, by rw [tornP, List.length_map, List.length_range, e1]⟩
          rw [HOL.out]; exact mrgS_torn _ _ _ e1 hdl hfit
        have HI := Lib.hid (rcut_any H.out)
        have htn := H.out.ht
        obtain ⟨sB, sP, sE, sp, se, st⟩ := intF_same fl
        have SB := Lib.hid sB
        have SP := Lib.hid sP
        have Spg := Lib.hid sp
        have ST := Lib.hid st
        obtain ⟨f2, hf2⟩ : ∃ f2, (intF fl).2 = f2 := ⟨_, rfl⟩
        rw [hf2] at HI HPF SB SP Spg ST
        clear hf2 sB sP sE sp se st HJ hfit
        rcases hin : (intF fl).1 with _ | _
        · rw [hin] at HI
          rw [hin, if_pos rfl] at HPF
          go_wp2_with fail
          refine HI.out.mono ?_
          rintro e w2 ⟨rfl, h2, k2⟩
          have hb2 : b < f2.B := by rw [SB.out]; exact hb
          have hp2 : p < f2.P := by rw [SP.out]; exact hp
          have c3 := h2.c3
          have cs := h2.cs hb2
          have cg := h2.cg hb2 hp2
          have fg := (h2.pag b hb2).frozen p
          have hcb2 := h2.pc
          have hcp2 := h2.cp b hb2
          have hbI2 : (b : Int) < f2.B := by omega
          have hpI2 : (p : Int) < f2.P := by omega
          have HS := Lib.hid (h2.setPg hb2 hp2 hdl)
          have HK : Hid (Ch D w (w2.setCell ⟨y.g b, p, none⟩ (.string d))) := (HC.out.trans k2).setCell (p := ⟨y.g b, p, none⟩) (fun _ => h2.dg b hb2) _
          clear h2 k2
          go_wp2_with fail
          go_ret
          rw [HPF.out]
          exact ⟨rfl, HS.out, HK.out⟩
        · rw [hin] at HI
          rw [hin, if_neg (by simp)] at HPF
          go_wp2_with fail
          refine HI.out.mono ?_
          rintro e w2 ⟨rfl, h2, k2⟩
          have hb2 : b < f2.B := by rw [SB.out]; exact hb
          have hp2 : p < f2.P := by rw [SP.out]; exact hp
          have hcb2 := h2.pc
          have hcp2 := h2.cp b hb2
          have hbI2 : (b : Int) < f2.B := by omega
          have hpI2 : (p : Int) < f2.P := by omega
          have c7 := h2.c7
          rw [ST.out] at c7
          have S0 : Hid (w2.drew.cell? ⟨X, 3, none⟩ = some (.slice (some ⟨y.pb, 0, none⟩) f2.B y.pc) ∧ w2.drew.cell? ⟨y.pb, b, none⟩ = some (.slice (some ⟨y.g b, 0, none⟩) f2.P (y.cp b)) ∧ w2.drew.cell? ⟨X, 7, none⟩ = some (.int .u64 (fl.torn : Int))) := ⟨h2.c3, h2.cs hb2, c7⟩
          have H2d : Hid (RW w2.drew D X y f2) := h2.drew
          have K2d : Hid (Ch D w w2.drew) := (HC.out.trans k2).drew
          have HCG := Lib.hid (rmerge_any old d fl.torn w2.drew hos hd htn)
          obtain ⟨new, hnew⟩ : ∃ new : ByteArray, str (mrgS fl.torn old.data.toList d.data.toList) = .string new := ⟨_, rfl⟩
          rw [hnew] at HCG
          have HNEW : Hid (Value.string new = str (tornP fl.torn (fl.pg b p) d.data.toList)) := by show _ = _; rw [← hnew, HTN.out.1]
          clear h2 k2 hnew c7 HI H HC
          go_wp2_with fail
          refine wp_region_pl (fun Y => Y.cell? ⟨X, 3, none⟩ = some (.slice (some ⟨y.pb, 0, none⟩) f2.B y.pc) ∧ Y.cell? ⟨y.pb, b, none⟩ = some (.slice (some ⟨y.g b, 0, none⟩) f2.P (y.cp b)) ∧ Y.cell? ⟨X, 7, none⟩ = some (.int .u64 (fl.torn : Int))) ((0, 0) :: (1, 0) :: (2, 0) :: (3, 0) :: (4, 0) :: (5, 0) :: (6, 0) :: (7, 0) :: (8, 0) :: (9, 0) :: (10, 0) :: (11, 0) :: (12, 0) :: (13, 0) :: (14, 1) :: (15, 0) :: (16, 2) :: []) (by kernel_rfl) (by kernel_rfl) ?_
          iterate 14 (apply wpP_go; (focus rfl); (focus rfl); (focus exact S0.out); (focus (rintro Z ⟨s0, s1, s2⟩; go_simp; exact rfl)); intro K hK; go_simp; refine hK _ ?_; clear hK K)
          apply wpP_one
          focus rfl
          intro K hK
          go_simp
          refine HCG.out.mono ?_
          rintro e V1 ⟨rfl, b1⟩
          have h3 := H2d.out.below b1
          have S1 : Hid (V1.cell? ⟨X, 3, none⟩ = some (.slice (some ⟨y.pb, 0, none⟩) f2.B y.pc) ∧ V1.cell? ⟨y.pb, b, none⟩ = some (.slice (some ⟨y.g b, 0, none⟩) f2.P (y.cp b)) ∧ V1.cell? ⟨X, 7, none⟩ = some (.int .u64 (fl.torn : Int))) := ⟨h3.c3, h3.cs hb2, by rw [← ST.out]; exact h3.c7⟩
          have fg := (h3.pag b hb2).frozen p
          have cg := h3.cg hb2 hp2
          have HS : Hid (RW (V1.setCell ⟨y.g b, p, none⟩ (.string new)) D X y (f2.put b p (tornP fl.torn (fl.pg b p) d.data.toList))) := by
            have := h3.setPg hb2 hp2 HTN.out.2
            show RW _ _ _ _ _
            rw [HNEW.out]
            exact this
          have HK : Hid (Ch D w (V1.setCell ⟨y.g b, p, none⟩ (.string new))) := (K2d.out.trans (Ch.of_below b1 _)).setCell (p := ⟨y.g b, p, none⟩) (fun _ => h3.dg b hb2) _
          refine hK _ _ S1.out ?_
          clear hK K b1 h3 S0 H2d K2d HCG
          iterate 1 (apply wpP_go; (focus rfl); (focus rfl); (focus exact S1.out); (focus (rintro Z ⟨s0, s1, s2⟩; go_simp; exact rfl)); intro K hK; go_simp; refine hK _ ?_; clear hK K)
          apply wpP_two
          focus rfl
          intro K hK
          go_simp
          refine hK _ _ ?_
          clear hK K
          refine wpP_done ?_
          clear S1 fg cg
          generalize V1.setCell ⟨y.g b, p, none⟩ (.string new) = V at *
          go_wp2_with fail
          go_ret
          rw [HPF.out]
          exact ⟨rfl, HS.out, HK.out⟩
  · rw [ho] at c5
    have HS : Hid (progF fl b p d.data.toList = (16, fl)) := by show _ = _; unfold progF; rw [if_pos ho]
    go_enter Tryz.func17, Tryz.ntmps17
    go_wp2_with fail
    refine HB.out.mono ?_
    rintro e w' ⟨rfl, rfl⟩
    go_wp2_with fail
    go_ret
    rw [HS.out]
    exact ⟨rfl, H.out, Ch.refl _ _⟩
set_option maxRecDepth 100000 in
set_option maxHeartbeats 8000000 in
theorem rerase_any (h : RW w D X y fl) {b : Nat} (hb : b < fl.B) :
    Calls Tryz.prog 67 #[fptr X, .int .i64 b] w fun e w' => e = .returned (.int .i64 (eraseF fl b).1) ∧ RW w' D X y (eraseF fl b).2 ∧ Ch D w w' := by
  have c2 := h.c2
  have c4 := h.c4
  have c5 := h.c5
  have ce := h.ce hb
  have hnc := h.nc
  have hB := h.hB
  have hP := h.hP
  have hbI : (b : Int) < fl.B := by omega
  have HB := Lib.hid (rin_any h hb (p := 0) (by omega))
  have H := Lib.hid h
  have her := h.her b hb
  have hE := h.hE
  cases ho : fl.off
  · rw [ho] at c5
    by_cases hw : fl.E ≤ fl.er b
    · have HS : Hid (eraseF fl b = (15, fl)) := by show _ = _; unfold eraseF; rw [if_neg (by rw [ho]; simp), if_pos hw]
      have hwI : (fl.E : Int) ≤ fl.er b := by omega
      have S0 : Hid (w.drew.cell? ⟨X, 4, none⟩ = some (.slice (some ⟨y.nb, 0, none⟩) fl.B y.nc) ∧ w.drew.cell? ⟨y.nb, b, none⟩ = some (.int .i64 (fl.er b)) ∧ w.drew.cell? ⟨X, 2, none⟩ = some (.int .i64 fl.E)) := ⟨c4, ce, c2⟩
      have H2 : Hid (RW w.drew D X y fl) := H.out.drew
      have HC2 : Hid (Ch D w w.drew) := (Ch.refl _ _).drew
      clear h H
      go_enter Tryz.func67, Tryz.ntmps67
      go_wp2_with fail
      refine HB.out.mono ?_
      rintro e w' ⟨rfl, rfl⟩
      clear HB
      go_wp2_with fail
      refine wp_region_pl (fun Y => Y.cell? ⟨X, 4, none⟩ = some (.slice (some ⟨y.nb, 0, none⟩) fl.B y.nc) ∧ Y.cell? ⟨y.nb, b, none⟩ = some (.int .i64 (fl.er b)) ∧ Y.cell? ⟨X, 2, none⟩ = some (.int .i64 fl.E)) ((0, 0) :: (1, 0) :: (2, 0) :: (3, 0) :: (4, 0) :: (5, 0) :: (6, 0) :: (7, 0) :: (8, 0) :: (9, 0) :: (10, 0) :: (11, 0) :: (12, 0) :: []) (by kernel_rfl) (by kernel_rfl) ?_
      iterate 13 (apply wpP_go; (focus rfl); (focus rfl); (focus exact S0.out); (focus (rintro Z ⟨s0, s1, s2⟩; go_simp; exact rfl)); intro K hK; go_simp; refine hK _ ?_; clear hK K)
      refine wpP_done ?_
      clear S0 c2 c4 c5 ce
      generalize w.drew = V at *
      go_wp2_with fail
      go_ret
      rw [HS.out]
      exact ⟨rfl, H2.out, HC2.out⟩
    · have hwI : ¬ (fl.E : Int) ≤ fl.er b := by omega
      have hlt1 : fl.er b < fl.E := by omega
      have HI0 : Hid (RW (w.drew.setCell ⟨y.nb, b, none⟩ (.int .i64 ((fl.er b + 1 : Nat) : Int))) D X y (fl.erd b (fl.er b + 1))) := h.drew.setEr hb (by omega)
      have HC0 : Hid (Ch D w (w.drew.setCell ⟨y.nb, b, none⟩ (.int .i64 ((fl.er b + 1 : Nat) : Int)))) := ((Ch.refl D w).drew).setCell (p := ⟨y.nb, b, none⟩) (fun _ => h.dn) _
      obtain ⟨w1, hw1⟩ : ∃ w1, w.drew.setCell ⟨y.nb, b, none⟩ (.int .i64 ((fl.er b + 1 : Nat) : Int)) = w1 := ⟨_, rfl⟩
      rw [hw1] at HI0 HC0
      have hw1' : w.drew.setCell ⟨y.nb, b, none⟩ (.int .i64 ((fl.er b : Int) + 1)) = w1 := by rw [← hw1]; rfl
      have fn := h.drew.num.frozen b
      have S0 : Hid (w.drew.cell? ⟨X, 4, none⟩ = some (.slice (some ⟨y.nb, 0, none⟩) fl.B y.nc) ∧ w.drew.cell? ⟨y.nb, b, none⟩ = some (.int .i64 (fl.er b)) ∧ w.drew.cell? ⟨X, 2, none⟩ = some (.int .i64 fl.E)) := ⟨c4, ce, c2⟩
      have c4' := S0.out.1
      have ce' := S0.out.2.1
      have HCU := Lib.hid (rcut_any HI0.out)
      have HS0 : Hid (eraseF fl b = if (intF (fl.erd b (fl.er b + 1))).1 = false then (0, (intF (fl.erd b (fl.er b + 1))).2.eras b fl.P 18446744073709551615) else (16, (intF (fl.erd b (fl.er b + 1))).2.eras b fl.P fl.torn)) := by
        show _ = _
        unfold eraseF
        rw [if_neg (by rw [ho]; simp), if_neg hw]
      have htn := h.ht
      obtain ⟨sB, sP, sE, sp, se, st⟩ := intF_same (fl.erd b (fl.er b + 1))
      have SB : Hid ((intF (fl.erd b (fl.er b + 1))).2.B = fl.B) := sB
      have SP : Hid ((intF (fl.erd b (fl.er b + 1))).2.P = fl.P) := sP
      have ST : Hid ((intF (fl.erd b (fl.er b + 1))).2.torn = fl.torn) := st
      clear h H hw1 hw sB sP sE sp se st
      go_enter Tryz.func67, Tryz.ntmps67
      go_wp2_with fail
      refine HB.out.mono ?_
      rintro e w' ⟨rfl, rfl⟩
      clear HB
      go_wp2_with fail
      refine wp_region_pl (fun Y => Y.cell? ⟨X, 4, none⟩ = some (.slice (some ⟨y.nb, 0, none⟩) fl.B y.nc) ∧ Y.cell? ⟨y.nb, b, none⟩ = some (.int .i64 (fl.er b)) ∧ Y.cell? ⟨X, 2, none⟩ = some (.int .i64 fl.E)) ((0, 0) :: (1, 0) :: (2, 0) :: (3, 0) :: (4, 0) :: (5, 0) :: (6, 0) :: (7, 0) :: (8, 0) :: (9, 0) :: (10, 0) :: (11, 0) :: (12, 0) :: []) (by kernel_rfl) (by kernel_rfl) ?_
      iterate 13 (apply wpP_go; (focus rfl); (focus rfl); (focus exact S0.out); (focus (rintro Z ⟨s0, s1, s2⟩; go_simp; exact rfl)); intro K hK; go_simp; refine hK _ ?_; clear hK K)
      refine wpP_done ?_
      clear S0 c2 c4 c5 ce
      go_wp2_with fail
      clear hw1' c4' ce' fn
      refine HCU.out.mono ?_
      generalize intF (fl.erd b (fl.er b + 1)) = q at *
      obtain ⟨stop, f2⟩ := q
      simp only at SB SP ST HS0
      rintro e w2 ⟨rfl, h2, k2⟩
      cases stop
      · have H2 : Hid (RW w2 D X y (f2.eras b 0 18446744073709551615)) := by rw [eras_zero]; exact h2
        have HK2 : Hid (Ch D w w2) := HC0.out.trans k2
        have HS : Hid (eraseF fl b = (0, f2.eras b fl.P 18446744073709551615)) := by
          show _ = _
          rw [HS0.out]; rfl
        have c7 := h2.c7
        rw [ST.out] at c7
        clear h2 k2 HCU HI0 HC0 HS0
        go_wp2_with fail
        clear c7
        go_loopw [7] (fun z wr => ∃ k : Nat, k ≤ fl.P ∧ z = .int .i64 (k : Int) ∧ Hid (RW wr D X y (f2.eras b k 18446744073709551615)) ∧ Hid (Ch D w wr)) (fun z _ => fl.P - (intOf z).toNat)
        case atStart => exact ⟨0, by omega, rfl, H2, HK2⟩
        case round =>
          clear H2 HK2
          obtain ⟨k, hk, rfl, H2, HK2⟩ := hrel
          have c1 : wr.cell? ⟨X, 1, none⟩ = some (.int .i64 fl.P) := by rw [← SP.out]; exact H2.out.c1
          by_cases hlt : k < fl.P
          · have y0 : (k : Int) < fl.P := by omega
            have hb2 : b < (f2.eras b k 18446744073709551615).B := by rw [show (f2.eras b k 18446744073709551615).B = f2.B from rfl, SB.out]; exact hb
            have hp2 : k < (f2.eras b k 18446744073709551615).P := by rw [show (f2.eras b k 18446744073709551615).P = f2.P from rfl, SP.out]; exact hlt
            have hpg : (f2.eras b k 18446744073709551615).pg b k = f2.pg b k := by
              show (if b = b ∧ k < k then _ else _) = _
              rw [if_neg (by omega)]
            have hln := H2.out.len b k hb2 hp2
            rw [hpg] at hln
            have cg := H2.out.cg hb2 hp2
            rw [hpg] at cg
            obtain ⟨old, hold⟩ : ∃ old : ByteArray, str (f2.pg b k) = .string old := ⟨_, rfl⟩
            obtain ⟨be, hbe⟩ : ∃ be : ByteArray, str blank = .string be := ⟨_, rfl⟩
            have ho1 : old.data.toList = f2.pg b k := by injection hold with hold; rw [← hold]
            have hb1 : be.data.toList = blank := by injection hbe with hbe; rw [← hbe]
            have hos : old.size = 64 := by rw [← hln, ← ho1, Array.length_toList]; rfl
            have hbs : be.size = 64 := by
              have : be.data.toList.length = 64 := by rw [hb1]; rfl
              rw [Array.length_toList] at this
              exact this
            rw [hold] at cg
            have S0 : Hid (wr.drew.cell? ⟨X, 3, none⟩ = some (.slice (some ⟨y.pb, 0, none⟩) fl.B y.pc) ∧ wr.drew.cell? ⟨y.pb, b, none⟩ = some (.slice (some ⟨y.g b, 0, none⟩) fl.P (y.cp b)) ∧ wr.drew.cell? ⟨y.g b, k, none⟩ = some (.string old)) := ⟨by rw [← SB.out]; exact H2.out.c3, by rw [← SP.out]; exact H2.out.cs hb2, cg⟩
            have HER := Lib.hid (rerased_any wr.drew)
            rw [hbe] at HER
            have HCG : Hid (∀ V, Calls Tryz.prog 51 #[.string old, .string be, .int .u64 (18446744073709551615 : Nat)] V fun e w' => e = .returned (str (tornE 18446744073709551615 (f2.pg b k))) ∧ Below V.heap.size V w') := fun V => by
              have := rmerge_any old be 18446744073709551615 V hos hbs (by omega)
              rw [hb1, ho1, mrgS_eras _ _ hln] at this
              exact this
            have HLN : Hid ((tornE 18446744073709551615 (f2.pg b k)).length = 64) := by show _ = _; rw [tornE_len]; exact hln
            obtain ⟨new, hnew⟩ : ∃ new : ByteArray, str (tornE 18446744073709551615 (f2.pg b k)) = .string new := ⟨_, rfl⟩
            rw [hnew] at HCG
            have HNEW : Hid (Value.string new = str (tornE 18446744073709551615 (f2.pg b k))) := hnew.symm
            have H2d : Hid (RW wr.drew D X y (f2.eras b k 18446744073709551615)) := H2.out.drew
            have HK2d : Hid (Ch D w wr.drew) := HK2.out.drew
            have hcpb := H2.out.cp b hb2
            rw [show (f2.eras b k 18446744073709551615).P = f2.P from rfl, SP.out] at hcpb
            have hpcb := H2.out.pc
            rw [show (f2.eras b k 18446744073709551615).B = f2.B from rfl, SB.out] at hpcb
            clear hold hbe ho1 hb1 hos hbs hnew hln hpg cg H2 HK2
            go_wp2_with fail
            refine wp_region_pl (fun Y => Y.cell? ⟨X, 3, none⟩ = some (.slice (some ⟨y.pb, 0, none⟩) fl.B y.pc) ∧ Y.cell? ⟨y.pb, b, none⟩ = some (.slice (some ⟨y.g b, 0, none⟩) fl.P (y.cp b)) ∧ Y.cell? ⟨y.g b, k, none⟩ = some (.string old)) ((0, 0) :: (1, 0) :: (2, 0) :: (3, 0) :: (4, 0) :: (5, 0) :: (6, 0) :: (7, 0) :: (8, 0) :: (9, 0) :: (10, 0) :: (11, 0) :: (12, 0) :: (13, 0) :: (14, 0) :: (15, 0) :: (16, 0) :: (17, 0) :: (19, 0) :: (18, 1) :: (20, 1) :: (21, 0) :: (22, 2) :: []) (by kernel_rfl) (by kernel_rfl) ?_
            iterate 19 (apply wpP_go; (focus rfl); (focus rfl); (focus exact S0.out); (focus (rintro Z ⟨s0, s1, s2⟩; go_simp; exact rfl)); intro K hK; go_simp; refine hK _ ?_; clear hK K)
            apply wpP_one
            focus rfl
            intro K hK
            go_simp
            refine HER.out.mono ?_
            rintro e V1 ⟨rfl, b1⟩
            have h3 := H2d.out.below b1
            have S1 : Hid (V1.cell? ⟨X, 3, none⟩ = some (.slice (some ⟨y.pb, 0, none⟩) fl.B y.pc) ∧ V1.cell? ⟨y.pb, b, none⟩ = some (.slice (some ⟨y.g b, 0, none⟩) fl.P (y.cp b)) ∧ V1.cell? ⟨y.g b, k, none⟩ = some (.string old)) := ⟨by rw [← SB.out]; exact h3.c3, by rw [← SP.out]; exact h3.cs hb2, (b1.cell (p := ⟨y.g b, k, none⟩) (by exact (H2d.out.pag b hb2).lt)).trans S0.out.2.2⟩
            have H3 := Lib.hid h3
            have HK3 : Hid (Ch D w V1) := HK2d.out.trans (Ch.of_below b1 _)
            refine hK _ _ S1.out ?_
            clear hK K b1 h3 S0 H2d HK2d HER
            apply wpP_one
            focus rfl
            intro K hK
            go_simp
            refine (HCG.out V1).mono ?_
            rintro e V2 ⟨rfl, b2⟩
            have h4 := H3.out.below b2
            have S2 : Hid (V2.cell? ⟨X, 3, none⟩ = some (.slice (some ⟨y.pb, 0, none⟩) fl.B y.pc) ∧ V2.cell? ⟨y.pb, b, none⟩ = some (.slice (some ⟨y.g b, 0, none⟩) fl.P (y.cp b)) ∧ V2.cell? ⟨y.g b, k, none⟩ = some (.string old)) := ⟨by rw [← SB.out]; exact h4.c3, by rw [← SP.out]; exact h4.cs hb2, (b2.cell (p := ⟨y.g b, k, none⟩) (by exact (H3.out.pag b hb2).lt)).trans S1.out.2.2⟩
            have fg := (h4.pag b hb2).frozen k
            have cg := S2.out.2.2
            have HS4 : Hid (RW (V2.setCell ⟨y.g b, k, none⟩ (.string new)) D X y (f2.eras b (k + 1) 18446744073709551615)) := by
              have := h4.setPg hb2 hp2 HLN.out
              rw [eras_put] at this
              show RW _ _ _ _ _
              rw [HNEW.out]
              exact this
            have HK4 : Hid (Ch D w (V2.setCell ⟨y.g b, k, none⟩ (.string new))) := (HK3.out.trans (Ch.of_below b2 _)).setCell (p := ⟨y.g b, k, none⟩) (fun _ => h4.dg b hb2) _
            refine hK _ _ S2.out ?_
            clear hK K b2 h4 S1 H3 HK3 HCG
            iterate 1 (apply wpP_go; (focus rfl); (focus rfl); (focus exact S2.out); (focus (rintro Z ⟨s0, s1, s2⟩; go_simp; exact rfl)); intro K hK; go_simp; refine hK _ ?_; clear hK K)
            apply wpP_two
            focus rfl
            intro K hK
            go_simp
            refine hK _ _ ?_
            clear hK K
            refine wpP_done ?_
            clear S2 fg cg c1 HNEW HLN
            generalize V2.setCell ⟨y.g b, k, none⟩ (.string new) = V at *
            go_wp2_with fail
            go_roundw
            case rel => exact ⟨k + 1, by omega, by go_num, HS4, HK4⟩
            case measure => simp [intOf]; omega
          · have y0 : ¬ (k : Int) < fl.P := by omega
            have hke : k = fl.P := by omega
            subst hke
            go_wp2_with fail
            go_ret
            rw [HS.out]
            exact ⟨rfl, H2.out, HK2.out⟩
      · have H2 : Hid (RW w2 D X y (f2.eras b 0 fl.torn)) := by rw [eras_zero]; exact h2
        have HK2 : Hid (Ch D w w2) := HC0.out.trans k2
        have HS : Hid (eraseF fl b = (16, f2.eras b fl.P fl.torn)) := by
          show _ = _
          rw [HS0.out]; rfl
        have c7 := h2.c7
        rw [ST.out] at c7
        clear h2 k2 HCU HI0 HC0 HS0
        go_wp2_with fail
        clear c7
        go_loopw [7] (fun z wr => ∃ k : Nat, k ≤ fl.P ∧ z = .int .i64 (k : Int) ∧ Hid (RW wr D X y (f2.eras b k fl.torn)) ∧ Hid (Ch D w wr)) (fun z _ => fl.P - (intOf z).toNat)
        case atStart => exact ⟨0, by omega, rfl, H2, HK2⟩
        case round =>
          clear H2 HK2
          obtain ⟨k, hk, rfl, H2, HK2⟩ := hrel
          have c1 : wr.cell? ⟨X, 1, none⟩ = some (.int .i64 fl.P) := by rw [← SP.out]; exact H2.out.c1
          by_cases hlt : k < fl.P
          · have y0 : (k : Int) < fl.P := by omega
            have hb2 : b < (f2.eras b k fl.torn).B := by rw [show (f2.eras b k fl.torn).B = f2.B from rfl, SB.out]; exact hb
            have hp2 : k < (f2.eras b k fl.torn).P := by rw [show (f2.eras b k fl.torn).P = f2.P from rfl, SP.out]; exact hlt
            have hpg : (f2.eras b k fl.torn).pg b k = f2.pg b k := by
              show (if b = b ∧ k < k then _ else _) = _
              rw [if_neg (by omega)]
            have hln := H2.out.len b k hb2 hp2
            rw [hpg] at hln
            have cg := H2.out.cg hb2 hp2
            rw [hpg] at cg
            obtain ⟨old, hold⟩ : ∃ old : ByteArray, str (f2.pg b k) = .string old := ⟨_, rfl⟩
            obtain ⟨be, hbe⟩ : ∃ be : ByteArray, str blank = .string be := ⟨_, rfl⟩
            have ho1 : old.data.toList = f2.pg b k := by injection hold with hold; rw [← hold]
            have hb1 : be.data.toList = blank := by injection hbe with hbe; rw [← hbe]
            have hos : old.size = 64 := by rw [← hln, ← ho1, Array.length_toList]; rfl
            have hbs : be.size = 64 := by
              have : be.data.toList.length = 64 := by rw [hb1]; rfl
              rw [Array.length_toList] at this
              exact this
            rw [hold] at cg
            have S0 : Hid (wr.drew.cell? ⟨X, 3, none⟩ = some (.slice (some ⟨y.pb, 0, none⟩) fl.B y.pc) ∧ wr.drew.cell? ⟨y.pb, b, none⟩ = some (.slice (some ⟨y.g b, 0, none⟩) fl.P (y.cp b)) ∧ wr.drew.cell? ⟨y.g b, k, none⟩ = some (.string old)) := ⟨by rw [← SB.out]; exact H2.out.c3, by rw [← SP.out]; exact H2.out.cs hb2, cg⟩
            have HER := Lib.hid (rerased_any wr.drew)
            rw [hbe] at HER
            have HCG : Hid (∀ V, Calls Tryz.prog 51 #[.string old, .string be, .int .u64 (fl.torn : Nat)] V fun e w' => e = .returned (str (tornE fl.torn (f2.pg b k))) ∧ Below V.heap.size V w') := fun V => by
              have := rmerge_any old be fl.torn V hos hbs (by omega)
              rw [hb1, ho1, mrgS_eras _ _ hln] at this
              exact this
            have HLN : Hid ((tornE fl.torn (f2.pg b k)).length = 64) := by show _ = _; rw [tornE_len]; exact hln
            obtain ⟨new, hnew⟩ : ∃ new : ByteArray, str (tornE fl.torn (f2.pg b k)) = .string new := ⟨_, rfl⟩
            rw [hnew] at HCG
            have HNEW : Hid (Value.string new = str (tornE fl.torn (f2.pg b k))) := hnew.symm
            have H2d : Hid (RW wr.drew D X y (f2.eras b k fl.torn)) := H2.out.drew
            have HK2d : Hid (Ch D w wr.drew) := HK2.out.drew
            have hcpb := H2.out.cp b hb2
            rw [show (f2.eras b k fl.torn).P = f2.P from rfl, SP.out] at hcpb
            have hpcb := H2.out.pc
            rw [show (f2.eras b k fl.torn).B = f2.B from rfl, SB.out] at hpcb
            clear hold hbe ho1 hb1 hos hbs hnew hln hpg cg H2 HK2
            go_wp2_with fail
            refine wp_region_pl (fun Y => Y.cell? ⟨X, 3, none⟩ = some (.slice (some ⟨y.pb, 0, none⟩) fl.B y.pc) ∧ Y.cell? ⟨y.pb, b, none⟩ = some (.slice (some ⟨y.g b, 0, none⟩) fl.P (y.cp b)) ∧ Y.cell? ⟨y.g b, k, none⟩ = some (.string old)) ((0, 0) :: (1, 0) :: (2, 0) :: (3, 0) :: (4, 0) :: (5, 0) :: (6, 0) :: (7, 0) :: (8, 0) :: (9, 0) :: (10, 0) :: (11, 0) :: (12, 0) :: (13, 0) :: (14, 0) :: (15, 0) :: (16, 0) :: (17, 0) :: (19, 0) :: (18, 1) :: (20, 1) :: (21, 0) :: (22, 2) :: []) (by kernel_rfl) (by kernel_rfl) ?_
            iterate 19 (apply wpP_go; (focus rfl); (focus rfl); (focus exact S0.out); (focus (rintro Z ⟨s0, s1, s2⟩; go_simp; exact rfl)); intro K hK; go_simp; refine hK _ ?_; clear hK K)
            apply wpP_one
            focus rfl
            intro K hK
            go_simp
            refine HER.out.mono ?_
            rintro e V1 ⟨rfl, b1⟩
            have h3 := H2d.out.below b1
            have S1 : Hid (V1.cell? ⟨X, 3, none⟩ = some (.slice (some ⟨y.pb, 0, none⟩) fl.B y.pc) ∧ V1.cell? ⟨y.pb, b, none⟩ = some (.slice (some ⟨y.g b, 0, none⟩) fl.P (y.cp b)) ∧ V1.cell? ⟨y.g b, k, none⟩ = some (.string old)) := ⟨by rw [← SB.out]; exact h3.c3, by rw [← SP.out]; exact h3.cs hb2, (b1.cell (p := ⟨y.g b, k, none⟩) (by exact (H2d.out.pag b hb2).lt)).trans S0.out.2.2⟩
            have H3 := Lib.hid h3
            have HK3 : Hid (Ch D w V1) := HK2d.out.trans (Ch.of_below b1 _)
            refine hK _ _ S1.out ?_
            clear hK K b1 h3 S0 H2d HK2d HER
            apply wpP_one
            focus rfl
            intro K hK
            go_simp
            refine (HCG.out V1).mono ?_
            rintro e V2 ⟨rfl, b2⟩
            have h4 := H3.out.below b2
            have S2 : Hid (V2.cell? ⟨X, 3, none⟩ = some (.slice (some ⟨y.pb, 0, none⟩) fl.B y.pc) ∧ V2.cell? ⟨y.pb, b, none⟩ = some (.slice (some ⟨y.g b, 0, none⟩) fl.P (y.cp b)) ∧ V2.cell? ⟨y.g b, k, none⟩ = some (.string old)) := ⟨by rw [← SB.out]; exact h4.c3, by rw [← SP.out]; exact h4.cs hb2, (b2.cell (p := ⟨y.g b, k, none⟩) (by exact (H3.out.pag b hb2).lt)).trans S1.out.2.2⟩
            have fg := (h4.pag b hb2).frozen k
            have cg := S2.out.2.2
            have HS4 : Hid (RW (V2.setCell ⟨y.g b, k, none⟩ (.string new)) D X y (f2.eras b (k + 1) fl.torn)) := by
              have := h4.setPg hb2 hp2 HLN.out
              rw [eras_put] at this
              show RW _ _ _ _ _
              rw [HNEW.out]
              exact this
            have HK4 : Hid (Ch D w (V2.setCell ⟨y.g b, k, none⟩ (.string new))) := (HK3.out.trans (Ch.of_below b2 _)).setCell (p := ⟨y.g b, k, none⟩) (fun _ => h4.dg b hb2) _
            refine hK _ _ S2.out ?_
            clear hK K b2 h4 S1 H3 HK3 HCG
            iterate 1 (apply wpP_go; (focus rfl); (focus rfl); (focus exact S2.out); (focus (rintro Z ⟨s0, s1, s2⟩; go_simp; exact rfl)); intro K hK; go_simp; refine hK _ ?_; clear hK K)
            apply wpP_two
            focus rfl
            intro K hK
            go_simp
            refine hK _ _ ?_
            clear hK K
            refine wpP_done ?_
            clear S2 fg cg c1 HNEW HLN
            generalize V2.setCell ⟨y.g b, k, none⟩ (.string new) = V at *
            go_wp2_with fail
            go_roundw
            case rel => exact ⟨k + 1, by omega, by go_num, HS4, HK4⟩
            case measure => simp [intOf]; omega
          · have y0 : ¬ (k : Int) < fl.P := by omega
            have hke : k = fl.P := by omega
            subst hke
            go_wp2_with fail
            go_ret
            rw [HS.out]
            exact ⟨rfl, H2.out, HK2.out⟩
  · rw [ho] at c5
    have HS : Hid (eraseF fl b = (16, fl)) := by show _ = _; unfold eraseF; rw [if_pos ho]
    clear h
    go_enter Tryz.func67, Tryz.ntmps67
    go_wp2_with fail
    refine HB.out.mono ?_
    rintro e w' ⟨rfl, rfl⟩
    go_wp2_with fail
    go_ret
    rw [HS.out]
    exact ⟨rfl, H.out, Ch.refl _ _⟩
end
end Go.Proofs.YtfglopkglnpokaaGreat
namespace Go.Proofs.YtfglopkglnpokaaGreat
open Go.RowKit
/-- Bytes in a row that can be appended to. -/
def BA (w : World) (g n cap : Nat) (l : Str) : Prop := ∃ (cur : Array Value) (fr : Nat × Nat), w.heap[g]? = some (.cells cur 5 fr) ∧ l.length = n ∧ cur.size = cap ∧ n ≤ cap ∧ cap ≤ maxLen ∧ (∀ i, i < n → cur[i]? = some (.int .u8 ((l.getD i 0).toNat : Int))) ∧ ∀ i, i < cap → ¬ (fr.1 ≤ i ∧ i < fr.2)
theorem BA.bt {w : World} {g n cap : Nat} {l : Str} (h : BA w g n cap l) : Bt w g n l := by
  obtain ⟨cur, fr, h1, h2, h3, h4, h5, h6, h7⟩ := h
  exact ⟨cur, fr, h1, h2, h6, fun i hi => h7 i (by omega)⟩
theorem BA.le {w : World} {g n cap : Nat} {l : Str} (h : BA w g n cap l) : n ≤ cap ∧ cap ≤ maxLen := by
  obtain ⟨cur, fr, h1, h2, h3, h4, h5, h6, h7⟩ := h
  exact ⟨h4, h5⟩
theorem BA.len {w : World} {g n cap : Nat} {l : Str} (h : BA w g n cap l) : l.length = n := by
  obtain ⟨cur, fr, h1, h2, h3, h4, h5, h6, h7⟩ := h
  exact h2
theorem BA.ch {C : Nat → Prop} {w w' : World} {g n cap : Nat} {l : Str} (h : BA w g n cap l) (c : Ch C w w') (hg : ¬ C g) : BA w' g n cap l := by
  obtain ⟨cur, fr, h1, r⟩ := h
  exact ⟨cur, fr, (c.block g (heap_lt h1) hg).trans h1, r⟩
theorem conv_ba (w : World) (s : ByteArray) (hs : s.size ≤ 100000) : ∃ cap W, (convert 9 40 (.string s)).run Tryz.prog w = .ok (.slice (some ⟨w.heap.size, 0, none⟩) s.size cap) W ∧ BA W w.heap.size s.size cap s.data.toList ∧ Below w.heap.size w W := by
  have hg1 := grownCap_ge w s.size 0 5
  have hg2 := grownCap_le_maxLen w s.size 0 5 (by unfold maxLen; omega)
  refine ⟨_, _, run_bytes_of_string (P := Tryz.prog) w 9 40 5 s Tryz.underlying9 Tryz.underlying40 Tryz.underlying5, ⟨_, _, heap_alloc_new w.drew _, Array.length_toList, ?_, hg1, hg2, fun i hi => ?_, fun i hi => ?_⟩, ((Below.refl _ _).drew).alloc (Nat.le_refl _) _⟩
  · generalize grownCap w s.size 0 5 = cap at *
    simp [bytesRow]
    have : s.data.size = s.size := rfl
    omega
  · generalize grownCap w s.size 0 5 = cap at *
    have h0 : i < s.data.size := hi
    unfold bytesRow
    rw [Array.getElem?_append_left (by simpa using h0), Array.getElem?_map, Array.getElem?_eq_getElem h0, List.getD_eq_getElem?_getD, List.getElem?_eq_getElem (by simpa using h0)]
    simp
  · generalize grownCap w s.size 0 5 = cap at *
    have : (bytesRow s cap).size = cap := by
      simp [bytesRow]
      have : s.data.size = s.size := rfl
      omega
    simp only [this]
    omega
theorem wpList_append_run {P : Program} {w : World} {ops : Array Oper} {rest : List Oper} {o : Oper} {a : Act} {Q : Exit → Act → World → Prop} (hgd : o.guard = none) (s x : Operand) (t : TypeId)
    (ho : o.op = .call { callee := .builtin .append, args := #[s, x], argTypes := #[t, t] }) (hty : o.type = t) (v1 v2 R : Value) (W' : World) (hs : a.eval s = v1) (hx : a.eval x = v2)
    (hr : (Builtin.append_ #[t, t] t #[v1, v2]).run P w = .ok R W') (h : wpList P ops Q rest (a.put o.dst R) W') : wpList P ops Q (o :: rest) a w :=
  wpList_plain hgd fun _ hK => by
    unfold Oper.wp execOp
    simp only [ho, hty, resolve, invoke, builtin, Sem.run_bind, Sem.run_pure, Result.andThen_ok, List.map_toArray, List.map_cons, List.map_nil, hs, hx, hr]
    exact hK _ _ h
/-- One byte more. -/
theorem BA.push {w w1 : World} {g n cap : Nat} {l : Str} (h : BA w g n cap l) (b : UInt8) (hn : n ≤ 100000) (e : w1 = w.alloc (.cells #[.int .u8 (b.toNat : Int)] 5)) :
    ∃ g2 c2 w2, (Builtin.append_ #[40, 40] 40 #[.slice (some ⟨g, 0, none⟩) n cap, .slice (some ⟨w.heap.size, 0, none⟩) 1 1]).run Tryz.prog w1 = .ok (.slice (some ⟨g2, 0, none⟩) (n + 1) c2) w2 ∧ BA w2 g2 (n + 1) c2 (l ++ [b]) ∧ Ch (fun x => x = g) w w2 ∧ (g2 = g ∨ w.heap.size ≤ g2) := by
  obtain ⟨i0, hi0, hx0, hx1, hx2⟩ := info_parts Tryz.infoU
  have hgl := h.bt.lt
  have h1 : BA w1 g n cap l := by rw [e]; exact h.ch (((Ch.refl (fun _ => False) w).alloc _)) id
  have c1 : Ch (fun x => x = g) w w1 := by rw [e]; exact (Ch.refl _ w).alloc _
  have hnew : ∀ j u, [Value.int .u8 (b.toNat : Int)][j]? = some u → w1.cell? ((⟨w.heap.size, 0, none⟩ : Addr).add j) = some u := by rw [e]; exact news_new w 5 #[.int .u8 (b.toNat : Int)] _ rfl
  have hone : ∀ u ∈ [Value.int .u8 (b.toNat : Int)], u.oneCell' = true := fun u hu => by rw [List.mem_singleton.1 hu]; rfl
  have hs1 : w.heap.size ≤ w1.heap.size := c1.size
  by_cases hroom : n + 1 ≤ cap
  · have hb := h1
    obtain ⟨cur, fr, k1, k2, k3, k4, k5, k6, k7⟩ := h1
    have hcell : (w1.cell? ⟨g, n, none⟩).isSome = true := by
      rw [cell_of_row _ _ _ _ _ _ k1, Array.getElem?_eq_getElem (by omega)]; rfl
    have hfr : w1.frozen? ⟨g, n, none⟩ = false := by
      have := k7 n (by omega)
      simp only [World.frozen?, k1]
      simp only [Bool.and_eq_false_iff, decide_eq_false_iff_not]
      omega
    have hr := run_append_room_cells (P := Tryz.prog) w1 40 40 5 i0 Tryz.underlying40 hi0 g 0 n cap ⟨w.heap.size, 0, none⟩ 1 1 [.int .u8 (b.toNat : Int)] (by rw [hx1]; rfl) hnew hone hroom (fun j hj => by
      have : j = 0 := by simp at hj; omega
      subst this
      rw [hx1]; simpa using hcell) (fun j hj => by
      have : j = 0 := by simp at hj; omega
      subst this
      rw [hx1]; simpa using hfr)
    have e0 : 0 + n * i0.size = n := by rw [hx1]; omega
    rw [e0] at hr
    refine ⟨g, cap, _, hr, ?_, ?_, .inl rfl⟩
    · refine ⟨cur.setIfInBounds n (.int .u8 (b.toNat : Int)), fr, ?_, by rw [List.length_append, k2]; rfl, by simpa using k3, hroom, k5, fun i hi => ?_, k7⟩
      · show (w1.setCell ⟨g, n, none⟩ _).heap[g]? = _
        simp [World.setCell, Array.getElem?_modify, k1]
      · by_cases ei : i = n
        · subst ei
          rw [set_hit (by omega), List.getD_eq_getElem?_getD, List.getElem?_append_right (by omega), k2]
          simp
        · rw [set_miss (Ne.symm ei), k6 i (by omega), List.getD_eq_getElem?_getD, List.getD_eq_getElem?_getD, List.getElem?_append_left (by omega)]
    · exact c1.setCell (p := ⟨g, n, none⟩) (fun _ => rfl) _
  · have hcap : cap = n := by have := h.le; omega
    have hol : ∀ j u, (bys l)[j]? = some u → w1.cell? ((⟨g, 0, none⟩ : Addr).add j) = some u := fun j u hu => by
      obtain ⟨cur, fr, k1, k2, k3, k4, k5, k6, k7⟩ := h1
      have hj : j < n := by
        rcases Nat.lt_or_ge j n with h9 | h9
        · exact h9
        · unfold bys at hu
          rw [List.getElem?_map, List.getElem?_eq_none (by omega)] at hu; cases hu
      have hadd : (⟨g, 0, none⟩ : Addr).add j = ⟨g, j, none⟩ := by unfold Addr.add; split <;> simp_all
      rw [hadd, cell_of_row _ _ _ _ _ _ k1, k6 j hj, ← hu]
      unfold bys
      rw [List.getElem?_map, List.getD_eq_getElem?_getD, List.getElem?_eq_getElem (by omega)]
      rfl
    have hl := h.len
    obtain ⟨v', w2, hr, hown, hgr⟩ := run_append_arg_grows (P := Tryz.prog) w1 40 40 5 i0 (.int .u8 0) 1 1 Tryz.underlying40 hi0 hx0 hx1 hx2 rfl (by omega) ⟨g, 0, none⟩ n cap (bys l) (by simp [bys, hl]) hol ⟨w.heap.size, 0, none⟩ 1 1 [.int .u8 (b.toNat : Int)] rfl hnew (by omega) (by simp only [maxLen]; omega) (by omega)
    obtain ⟨hln, hv | ⟨g2, c2, cur, rfl, hb2, hh, hn2, hm2, hsz, ht⟩⟩ := hown
    · omega
    · refine ⟨g2, c2, w2, hr, ⟨cur, (0, 0), hh, by rw [List.length_append, hl]; rfl, by omega, hn2, hm2, fun i hi => ?_, fun i _ => by simp⟩, c1.trans (Ch.of_grown hgr fun _ hx _ => by cases hx), .inr (by omega)⟩
      have h2 : (bys l ++ [Value.int .u8 (b.toNat : Int)])[i]? = cur[i]? := by rw [← ht, List.getElem?_take_of_lt (by omega), Array.getElem?_toList]
      rw [← h2]
      have e2 : bys l ++ [Value.int .u8 (b.toNat : Int)] = bys (l ++ [b]) := by unfold bys; rw [List.map_append]; rfl
      rw [e2]
      unfold bys
      rw [List.getElem?_map, List.getD_eq_getElem?_getD, List.getElem?_eq_getElem (by rw [List.length_append, hl]; simpa using hi)]
      rfl
end Go.Proofs.YtfglopkglnpokaaGreat
namespace Go.Proofs.YtfglopkglnpokaaGreat
open Go.RowKit
theorem Bt.strAt {w : World} {g n : Nat} {l : Str} (h : Bt w g n l) (o m c : Nat) (hm : o + m ≤ n) : (convert 40 9 (.slice (some ⟨g, o, none⟩) m c)).run Tryz.prog w = .ok (.string ⟨((l.drop o).take m).toArray⟩) w := by
  obtain ⟨cur, fr, hh, h1, h2, _⟩ := h
  have hl : ((l.drop o).take m).length = m := by rw [List.length_take, List.length_drop]; omega
  have := run_convert_bytes_back (P := Tryz.prog) w 40 9 5 ⟨g, o, none⟩ c ((l.drop o).take m) Tryz.underlying40 Tryz.underlying5 Tryz.underlying9 (fun j hj => by
    rw [hl] at hj
    rw [Addr.add_mid, cell_of_row _ _ _ _ _ _ hh, h2 (o + j) (by omega), List.getD_eq_getElem?_getD, List.getElem?_eq_getElem (by omega), List.getElem_take, List.getElem_drop]
    rfl)
  rw [hl] at this
  exact this
theorem chunks_get (n : Nat) (d : Str) {i : Nat} (h : i < n) : (chunks n d).getD i [] = (d.drop (64 * i)).take 64 := by
  unfold chunks
  rw [List.getD_eq_getElem?_getD, List.getElem?_map, List.getElem?_range h]
  rfl
theorem take_next {l : List Str} {i : Nat} (h : i < l.length) : l.take (i + 1) = l.take i ++ [l.getD i []] := by
  rw [List.take_succ_eq_append_getElem h, List.getD_eq_getElem?_getD, List.getElem?_eq_getElem h]
  rfl
def lenV : Value → Nat
  | .slice _ n _ => n
  | _ => 0
set_option maxRecDepth 100000 in
set_option maxHeartbeats 4000000 in
theorem rpages_any (d : ByteArray) (w : World) (h1 : 1 ≤ d.size) (h2 : d.size ≤ 1000) :
    Calls Tryz.prog 14 #[.string d] w fun e w' => ∃ g cap, e = .returned (.slice (some ⟨g, 0, none⟩) (pgs d.size) cap) ∧ PS w' g 0 cap (pagesR d.data.toList) ∧ w.heap.size ≤ g ∧ Below w.heap.size w w' := by
  obtain ⟨iS, hiS, hxS0, hxS1, hxS2⟩ := info_parts Tryz.infoS
  obtain ⟨cap, w1, hcv, hba, hbel⟩ := conv_ba w d (by omega)
  obtain ⟨n, hn⟩ : ∃ n, d.size = n := ⟨_, rfl⟩
  obtain ⟨np, hnp⟩ : ∃ np, pgs n = np := ⟨_, rfl⟩
  have hpg : (n + 63) / 64 = np := by rw [← hnp]; rfl
  rw [hn] at hcv hba h1 h2 ⊢
  rw [hnp]
  have HN := Lib.hid hn
  have HNP := Lib.hid hnp
  obtain ⟨g0, hg0⟩ : ∃ g, w.heap.size = g := ⟨_, rfl⟩
  have HB : Hid (BA w1 g0 n cap (d.data.toList ++ List.replicate (n - n) 255) ∧ g0 ≤ g0 ∧ Below g0 w w1) := by rw [← hg0]; exact ⟨by simpa using hba, Nat.le_refl _, hbel⟩
  rw [hg0] at hcv ⊢
  have HG0 := Lib.hid hg0
  clear hba hbel hn hnp hg0
  go_enter Tryz.func14, Tryz.ntmps14
  go_wp2_with fail
  clear hcv
  go_loopw [3] (fun x wr => ∃ (L g cap : Nat), n ≤ L ∧ L ≤ np * 64 ∧ x = .slice (some ⟨g, 0, none⟩) L cap ∧ Hid (BA wr g L cap (d.data.toList ++ List.replicate (L - n) 255) ∧ g0 ≤ g ∧ Below g0 w wr)) (fun x _ => np * 64 - lenV x)
  case atStart => exact ⟨n, g0, cap, by omega, by omega, rfl, HB⟩
  case round =>
    clear HB
    obtain ⟨L, g, cap, hL1, hL2, rfl, HB⟩ := hrel
    have hle := HB.out.1.le
    by_cases hL : L % 64 = 0
    · have hm : (L : Int) % 64 = 0 := by omega
      have hLn : L = np * 64 := by omega
      subst hLn
      have HPD : Hid (d.data.toList ++ List.replicate (np * 64 - n) 255 = pad d.data.toList ∧ pagesR d.data.toList = chunks np (pad d.data.toList)) := by
        have hdl : d.data.toList.length = n := by rw [Array.length_toList]; exact HN.out
        refine ⟨?_, ?_⟩
        · unfold pad; rw [hdl, HNP.out]
        · unfold pagesR; rw [hdl, HNP.out]
      have hba := HB.out.1
      rw [HPD.out.1] at hba
      have HBA := Lib.hid hba
      have HB2 : Hid (g0 ≤ g ∧ Below g0 w wr) := HB.out.2
      have hgl := hba.bt.lt
      obtain ⟨wm, hwm⟩ : ∃ wm : World, wm = wr := ⟨_, rfl⟩
      subst hwm
      have HO : Hid (OB wm wm 9 1 (.slice none 0 0) 0 (((pagesR d.data.toList).take 0).map str)) := OB.nil (Below.refl _ _)
      have hnpl : np * 64 ≤ 1063 := by omega
      obtain ⟨N, hN⟩ : ∃ N, np * 64 = N := ⟨_, rfl⟩
      rw [hN] at HBA hle hnpl ⊢
      have hm2 : (N : Int) % 64 = 0 := by omega
      clear hba HB hm hL
      go_wp2_with fail
      clear hm2
      go_loopw [4, 5] (fun x z wr => ∃ (i a : Nat) (vl : Value), i ≤ np ∧ Hid (a = 64 * i) ∧ vl = x ∧ z = .int .i64 (a : Int) ∧ Hid (OB wm wr 9 1 vl i (((pagesR d.data.toList).take i).map str))) (fun _ z _ => N - (intOf z).toNat)
      case atStart => exact ⟨0, 0, _, by omega, rfl, rfl, rfl, HO⟩
      case round =>
        clear HO
        obtain ⟨i, a, vl, hi, HA, hvl, rfl, HO⟩ := hrel
        subst hvl
        have ha := HA.out
        by_cases hlt : i < np
        · have y0 : (a : Int) < N := by omega
          have hb2 : BA wr g N cap (pad d.data.toList) := HBA.out.ch (Ch.of_below HO.out.bel (fun _ => False)) id
          obtain ⟨ck, hck⟩ : ∃ ck : ByteArray, ck = ⟨(((pad d.data.toList).drop a).take 64).toArray⟩ := ⟨_, rfl⟩
          have hcv : ∀ c, (convert 40 9 (.slice (some ⟨g, a, none⟩) 64 c)).run Tryz.prog wr = .ok (.string ck) wr := fun c => by
            rw [hck]
            exact hb2.bt.strAt a 64 c (by omega)
          have HT : Hid (((pagesR d.data.toList).take (i + 1)).map str = ((pagesR d.data.toList).take i).map str ++ [.string ck]) := by
            show _ = _
            have hl : (pagesR d.data.toList).length = np := by rw [HPD.out.2]; simp [chunks]
            rw [take_next (by omega), List.map_append, hck, ha, ← chunks_get np _ hlt, ← HPD.out.2]
            rfl
          have HOW := Lib.hid (HO.out.below ((Below.refl _ wr).alloc (Nat.le_refl _) (.cells #[.string ck] 9)))
          have y1 : (a : Int) + 64 ≤ N := by omega
          have y2 : a + 64 ≤ N := by omega
          have y3 : a ≤ N := by omega
          have y4 : (a : Int) ≤ (a : Int) + 64 := by omega
          have y5 : (a : Int) + 64 ≤ cap := by omega
          clear hb2 hck ha
          go_wp2_with (at_builtin; refine wpList_append_lies _ rfl _ _ 25 rfl 0 9 iS _ 1 16 Tryz.underlying25 hiS hxS0 hxS1 hxS2 rfl (by omega) vl i (((pagesR d.data.toList).take i).map str) rfl (by exact HOW.out.row) ⟨wr.heap.size, 0, none⟩ 1 1 [.string ck] rfl rfl (by exact news_new wr 9 #[.string ck] _ rfl) (by intro u hu; rw [List.mem_singleton.1 hu]; rfl) (by omega) (by simp only [maxLen]; omega) (by omega) (Nat.zero_le _) (wr.heap.size + 1) (by simp) ?_)
          intro g1 cap1 w6 ho hg hat hbel
          have O2 := HO.out.take (m := 1) (news := [.string ck]) HOW.out.bel (by simpa using ho) hg (by
            rcases hat with h | h
            · exact .inl h
            · right; have := HO.out.bel.size; omega)
          rw [← HT.out] at O2
          have HO6 := Lib.hid O2
          clear ho hg hat hbel O2 HO HOW HT hcv
          go_wp2_with fail
          go_roundw
          case rel => exact ⟨i + 1, a + 64, _, by omega, (by show _ = _; rw [HA.out]; omega), rfl, by go_num, HO6⟩
          case measure => simp [intOf]; omega
        · have y0 : ¬ (a : Int) < N := by omega
          have hin : i = np := by omega
          subst hin
          have ho := HO.out
          rw [List.take_of_length_le (by rw [HPD.out.2]; simp [chunks])] at ho
          obtain ⟨g1, c1, rfl, hg1, hc1, hc2, hr⟩ := ho.ps (by omega)
          have HPS : Hid (PS wr g1 0 c1 (pagesR d.data.toList)) := by
            have hl : (pagesR d.data.toList).length = i := by rw [HPD.out.2]; simp [chunks]
            refine ⟨hr.lt, by omega, hc2, fun j hj => ?_⟩
            rw [Nat.zero_add]
            exact hr.cell (by omega)
          have HBF : Hid (g0 ≤ g1 ∧ Below g0 w wr) := by
            have h0 := HB2.out.2.size
            rw [HG0.out] at h0
            exact ⟨by omega, HB2.out.2.trans (ho.bel.mono h0)⟩
          clear ho hr HO hg1 ha
          go_wp2_with fail
          go_ret
          exact ⟨_, _, rfl, HPS.out, HBF.out⟩
    · obtain ⟨m, hm0⟩ : ∃ m, L % 64 = m := ⟨_, rfl⟩
      have hm : (L : Int) % 64 = (m : Int) := by omega
      have bm : ((m : Int) == 0) = false := by rw [beq_eq_false_iff_ne]; omega
      have hm1 : ¬ (m : Int) = 0 := by omega
      have hLn : L < np * 64 := by omega
      obtain ⟨g2, c2, w2, hr, hba, hch, hg2⟩ := HB.out.1.push 255 (by omega) rfl
      have HB2 : Hid (BA w2 g2 (L + 1) c2 (d.data.toList ++ List.replicate (L + 1 - n) 255) ∧ g0 ≤ g2 ∧ Below g0 w w2) := by
        have h0 := HB.out.2.2.size
        rw [HG0.out] at h0
        refine ⟨?_, ?_, HB.out.2.2.trans (hch.below h0 (fun x hx => by rw [hx]; exact HB.out.2.1))⟩
        · rw [show L + 1 - n = (L - n) + 1 by omega, List.replicate_succ', ← List.append_assoc]; exact hba
        · have := HB.out.2.1
          rcases hg2 with h | h <;> omega
      have h255 : ((255 : UInt8).toNat : Int) = 255 := rfl
      rw [h255] at hr
      clear hba hch hg2 h255 hm0
      go_wp2_with (at_builtin; refine wpList_append_run rfl _ _ 40 rfl rfl _ _ _ _ rfl rfl (by exact hr) ?_)
      clear hr
      go_wp2_with fail
      go_roundw
      case rel => exact ⟨L + 1, g2, c2, by omega, by omega, rfl, HB2⟩
      case measure => simp [lenV]; omega
end Go.Proofs.YtfglopkglnpokaaGreat
namespace Go.Proofs.YtfglopkglnpokaaGreat
open Go.RowKit
section
variable {w : World} {D : Nat → Prop} {X : Nat} {y : RLay} {fl : FL}
theorem RW.p64 (h : RW w D X y fl) {b : Nat} (hb : b < fl.B) : P64 (pgsF fl b) := fun p hp => by
  unfold pgsF at hp
  obtain ⟨q, hq, rfl⟩ := List.mem_map.1 hp
  exact h.len b q hb (List.mem_range.1 hq)
theorem rsmall_any (h : RW w D X y fl) : Calls Tryz.prog 58 #[fptr X] w fun e w' => e = .returned (.bool (decide (fl.B < 2) || decide (fl.P < 2))) ∧ w = w' := by
  have c0 := h.c0
  have c1 := h.c1
  have hB := h.hB
  have hP := h.hP
  clear h
  go_enter Tryz.func58, Tryz.ntmps58
  go_wp2_with fail
  all_goals
    go_ret
    refine ⟨?_, rfl⟩
    show Ending.returned (Value.bool _) = Ending.returned (Value.bool _)
    congr 2
    rw [Bool.eq_iff_iff]
    simp at *
    try omega
set_option maxRecDepth 100000 in
set_option maxHeartbeats 2000000 in
theorem rblock_any (h : RW w D X y fl) {b q : Nat} (hb : b < fl.B) (hq : q ≤ fl.P) : Calls Tryz.prog 60 #[fptr X, .int .i64 b, .int .i64 q] w fun e w' => e = .returned (str ((pgsF fl b).drop q).flatten) ∧ w = w' := by
  have c1 := h.c1
  have c3 := h.c3
  have cs := h.cs hb
  have hpc := h.pc
  have hB := h.hB
  have hP := h.hP
  have hcp := h.cp b hb
  have hbI : (b : Int) < fl.B := by omega
  have hp64 := h.p64 hb
  have H := Lib.hid h
  have HP64 : Hid (∀ p ∈ pgsF fl b, p.length = 64) := hp64
  have h0 : Hid ((⟨#[]⟩ : ByteArray).data.toList = (((pgsF fl b).drop q).take 0).flatten) := rfl
  clear h hp64
  go_enter Tryz.func60, Tryz.ntmps60
  go_wp2_with fail
  go_loop [7, 8] (fun x z => ∃ (j k : Nat) (s : ByteArray), q + j = k ∧ k ≤ fl.P ∧ x = .string s ∧ z = .int .i64 (k : Int) ∧ Hid (s.data.toList = (((pgsF fl b).drop q).take j).flatten)) (fun _ z => fl.P - (intOf z).toNat)
  case atStart => exact ⟨0, q, _, rfl, hq, rfl, rfl, h0⟩
  case round =>
    clear h0
    obtain ⟨j, k, s, hjk, hk, rfl, rfl, HS⟩ := hrel
    have hdl : ((pgsF fl b).drop q).length = fl.P - q := by rw [List.length_drop, pgsF_len]
    have hss : s.size ≤ 2048 := by
      have h1 : s.data.toList.length = s.size := Array.length_toList
      rw [← h1, HS.out, flat_len _ (fun p hp => HP64.out p (List.mem_of_mem_drop (List.mem_of_mem_take hp)))]
      have := List.length_take_le j ((pgsF fl b).drop q)
      have h3 : (((pgsF fl b).drop q).take j).length ≤ 32 := by rw [List.length_take]; omega
      omega
    by_cases hlt : k < fl.P
    · have y0 : (k : Int) < fl.P := by omega
      have cg := H.out.cg hb hlt
      obtain ⟨pe, hpe⟩ : ∃ pe : ByteArray, str (fl.pg b k) = .string pe := ⟨_, rfl⟩
      have hpl : pe.data.toList = fl.pg b k := by injection hpe with hpe; rw [← hpe]
      have hps : pe.size = 64 := by
        have := H.out.len b k hb hlt
        rw [← hpl, Array.length_toList] at this
        exact this
      rw [hpe] at cg
      have HS2 : Hid ((s ++ pe).data.toList = (((pgsF fl b).drop q).take (j + 1)).flatten) := by
        show _ = _
        rw [take_next (by rw [hdl]; omega), List.flatten_append, ByteArray.data_append, Array.toList_append, HS.out, hpl]
        congr 1
        rw [List.getD_eq_getElem?_getD, List.getElem?_drop, ← List.getD_eq_getElem?_getD, hjk, pgsF_get fl b k hlt]
        simp
      have q1 : ¬ 9223372036854775807 < s.size + pe.size := by omega
      have hjk2 : q + (j + 1) = k + 1 := by omega
      clear hpe hpl hss HS hdl hjk
      go_wp2_with fail
      go_round
      case rel => exact ⟨j + 1, k + 1, s ++ pe, hjk2, by omega, rfl, by go_num, HS2⟩
      case measure => simp [intOf]; omega
    · have y0 : ¬ (k : Int) < fl.P := by omega
      have hs := HS.out
      rw [List.take_of_length_le (by rw [hdl]; omega)] at hs
      have HF : Hid (Value.string s = str ((pgsF fl b).drop q).flatten) := str_of hs
      clear hs HS hdl hjk
      go_wp2_with fail
      go_ret
      exact ⟨by rw [← HF.out]; rfl, rfl⟩
theorem zeros_one (l : Str) : zeros l = 0 ↔ ∀ x ∈ l, x = 255 := by
  constructor
  · intro h x hx
    rw [zeros_zero h] at hx
    exact List.eq_of_mem_replicate hx
  · intro h
    have : l = List.replicate l.length 255 := List.eq_replicate_iff.2 ⟨rfl, h⟩
    rw [this, zeros_ff]
theorem blankP_flat (ps : List Str) : blankP ps = true ↔ ∀ x ∈ ps.flatten, x = 255 := by
  unfold blankP
  rw [List.all_eq_true]
  constructor
  · intro h x hx
    obtain ⟨p, hp, hx⟩ := List.mem_flatten.1 hx
    exact (zeros_one p).1 (by simpa using h p hp) x hx
  · intro h p hp
    have := (zeros_one p).2 fun x hx => h x (List.mem_flatten.2 ⟨p, hp, hx⟩)
    simpa using this
set_option maxRecDepth 100000 in
set_option maxHeartbeats 2000000 in
theorem rblank_any (h : RW w D X y fl) {b : Nat} (hb : b < fl.B) : Calls Tryz.prog 66 #[fptr X, .int .i64 b] w fun e w' => e = .returned (.bool (blankP (pgsF fl b))) ∧ w = w' := by
  have HBK := Lib.hid (rblock_any h hb (q := 0) (Nat.zero_le _))
  obtain ⟨s, hs⟩ : ∃ s : ByteArray, str ((pgsF fl b).drop 0).flatten = .string s := ⟨_, rfl⟩
  rw [hs] at HBK
  have hsl : s.data.toList = (pgsF fl b).flatten := by injection hs with hs; rw [← hs]; rfl
  have hss : s.size = fl.P * 64 := by
    have := flat_len _ (h.p64 hb)
    rw [← hsl, Array.length_toList, pgsF_len] at this
    exact this
  have hP := h.hP
  have HBL : Hid (blankP (pgsF fl b) = true ↔ ∀ x ∈ s.data.toList, x = 255) := by show _ ↔ _; rw [hsl]; exact blankP_flat _
  generalize blankP (pgsF fl b) = res at *
  obtain ⟨N, hN⟩ : ∃ N, s.size = N := ⟨_, rfl⟩
  have hN2 : N ≤ 2048 := by omega
  have HN := Lib.hid hN
  clear h hs hsl hss
  go_enter Tryz.func66, Tryz.ntmps66
  go_wp2_with fail
  refine HBK.out.mono ?_
  rintro e w' ⟨rfl, rfl⟩
  go_wp2_with fail
  clear hN
  go_loop [6] (fun z => ∃ i : Nat, i ≤ N ∧ z = .int .i64 (i : Int) ∧ Hid (∀ j, j < i → s.data.toList.getD j 0 = 255)) (fun z => N - (intOf z).toNat)
  case atStart => exact ⟨0, by omega, rfl, fun j hj => by omega⟩
  case round =>
    obtain ⟨i, hi, rfl, HJ⟩ := hrel
    have hN := HN.out
    have hsl : s.data.toList.length = s.size := Array.length_toList
    by_cases hlt : i < N
    · have y0 : (i : Int) < N := by omega
      have hls : i < s.size := by omega
      have hgi : s.data.toList.getD i 0 = s[i]'hls := by
        rw [List.getD_eq_getElem?_getD, List.getElem?_eq_getElem (by omega)]; rfl
      by_cases he : s[i]'hls = 255
      · have h255 : ((s[i]'hls).toNat : Int) = 255 := by rw [he]; rfl
        have HJ2 : Hid (∀ j, j < i + 1 → s.data.toList.getD j 0 = 255) := fun j hj => by
          rcases (by omega : j < i ∨ j = i) with h1 | h1
          · exact HJ.out j h1
          · rw [h1, hgi]; exact he
        clear hgi he hsl
        go_wp2_with fail
        go_round
        case rel => exact ⟨i + 1, by omega, by go_num, HJ2⟩
        case measure => simp [intOf]; omega
      · have hb5 : (((s[i]'hls).toNat : Int) == 255) = false := by
          rw [beq_eq_false_iff_ne]
          intro h9
          apply he
          apply UInt8.toNat_inj.1
          have : ((255 : UInt8).toNat : Int) = 255 := rfl
          omega
        have hn5 : ¬ ((s[i]'hls).toNat : Int) = 255 := by simpa using hb5
        have HF : Hid (res = false) := by
          show _ = _
          cases hr : res
          · rfl
          · have := (HBL.out.1 hr) (s[i]'hls) (by
              have h2 : i < s.data.toList.length := by omega
              have := List.getElem_mem h2
              exact this)
            exact absurd this he
        clear hgi he hsl
        go_wp2_with fail
        go_ret
        exact ⟨by rw [HF.out]; rfl, rfl⟩
    · have y0 : ¬ (i : Int) < N := by omega
      have HF : Hid (res = true) := HBL.out.2 fun x hx => by
        obtain ⟨j, hj, rfl⟩ := List.getElem_of_mem hx
        have := HJ.out j (by omega)
        rw [List.getD_eq_getElem?_getD, List.getElem?_eq_getElem hj] at this
        exact this
      clear hsl
      go_wp2_with fail
      go_ret
      exact ⟨by rw [HF.out]; rfl, rfl⟩
end
end Go.Proofs.YtfglopkglnpokaaGreat
