/- ref.ValidFunction, the head valid, case 2 of three. No condition but that the bars lie in memory. -/
import Derived.Test.YtedihfcbpgogoaaL
namespace Go.Proofs.Ytedihfcbpgogoaa
open Go.RowKit
set_option maxRecDepth 100000 in
set_option maxHeartbeats 4000000 in
theorem rvalidF_yes2 {w : World} {f : Fn} {a : Option Addr} {n cap : Nat} (h : BarS w a n cap f.ba) (hv : vH f) (n3 : f.sp ≤ 0 ∧ f.br = true) :
    Calls Try.prog 40 #[.agg #[.int .i64 f.pa, .int .i64 f.sl, .int .i64 f.ve, .int .i64 f.de, .bool f.br, .bool f.pf, .bool f.hp, .int .i64 f.sp, .int .i64 f.pn, .int .i64 f.vc, .slice a n cap]] w (VPost (vF f) w) := by
  have hcc : n ≤ cap := h.2.1
  have hml : n ≤ 9223372036854775807 := by have := h.2.2.1; unfold maxLen at this; omega
  have HN := Lib.hid h.1
  have HB := Lib.hid h
  clear h
  have BN0 : Hid (∀ o : Obj, Below w.heap.size w (w.alloc o)) := fun o => (Below.refl _ _).alloc (Nat.le_refl _) o
  have HV := Lib.hid hv
  obtain ⟨rg, hrg⟩ : ∃ rg, rgs f.br = rg := ⟨_, rfl⟩
  have HR := Lib.hid hrg
  have HC : Hid (∀ W, Calls Try.prog 50 #[.agg #[.int .i64 f.pa, .int .i64 f.sl, .int .i64 f.ve, .int .i64 f.de, .bool f.br, .bool f.pf, .bool f.hp, .int .i64 f.sp, .int .i64 f.pn, .int .i64 f.vc, .slice a n cap]] W fun e w' => e = .returned (.int .i64 rg) ∧ Below W.heap.size W w') := fun W => by rw [← hrg]; exact Registers_any W
  clear hrg
  have fin : Hid ((∀ j, j < n → vBar f.ba j) → (n : Int) ≤ rg → vF f) := fun h1 h2 => ⟨HV.out, by rw [HN.out, HR.out]; exact h2, fun j hj => h1 j (by have := HN.out; omega)⟩
  have nreg : Hid (¬ (n : Int) ≤ rg → ¬ vF f) := fun h1 h2 => h1 (by have := h2.reg; rw [HN.out, HR.out] at this; exact this)
  have nbar : Hid (∀ i, i < n → ¬ vBar f.ba i → ¬ vF f) := fun i hi h1 h2 => h1 (h2.bar i (by have := HN.out; omega))
  obtain ⟨⟨v1, v2⟩, ⟨v3, v4⟩, ⟨v5, v6⟩, ⟨v7, v8⟩, ⟨v9, v10⟩, ⟨v11, v12⟩, v13, v14, v15⟩ := hv
  clear HV HR v14 v15
  generalize vF f = VF at *
  obtain ⟨pa, sl, ve, de, br, pf, hp, sp, pn, vc, bv, ba⟩ := f
  simp only at *
  obtain ⟨k1, rfl⟩ := n3
  go_enter Try.func40, Try.ntmps40
  go_wp2_with fail
  generalize hW : (w.alloc (Obj.cells _ 25)) = W0 at *
  have hc : ∀ j u, (Array.mk _)[j]? = some u → W0.cell? ⟨w.heap.size, j, none⟩ = some u := fun j u hu => by rw [← hW]; exact (cell_of_row _ _ j _ _ _ (heap_alloc_new w _)).trans hu
  have hz0 : w.heap.size < W0.heap.size := by rw [← hW]; simp
  have B0 : Hid (Below w.heap.size w W0) := by rw [← hW]; exact BN0.out _
  have c0 := hc 0 _ rfl
  have c1 := hc 1 _ rfl
  have c2 := hc 2 _ rfl
  have c3 := hc 3 _ rfl
  have c4 := hc 4 _ rfl
  have c5 := hc 5 _ rfl
  have c6 := hc 6 _ rfl
  have c7 := hc 7 _ rfl
  have c8 := hc 8 _ rfl
  have c9 := hc 9 _ rfl
  have c10 := hc 10 _ rfl
  clear hc hW
  obtain ⟨Z, hZ⟩ : ∃ Z, w.heap.size = Z := ⟨_, rfl⟩
  have HZ := Lib.hid hZ
  rw [hZ] at c0 c1 c2 c3 c4 c5 c6 c7 c8 c9 c10 hz0 B0 ⊢
  clear hZ
  refine wp_region_pl (fun X => ∀ j u, W0.cell? ⟨Z, j, none⟩ = some u → X.cell? ⟨Z, j, none⟩ = some u) ((0, 0) :: (1, 0) :: (2, 0) :: (3, 0) :: (4, 1) :: (5, 0) :: []) (by kernel_rfl) (by kernel_rfl) ?_
  have S0 : Hid (∀ j u, W0.cell? ⟨Z, j, none⟩ = some u → W0.drew.cell? ⟨Z, j, none⟩ = some u) := fun j u hu => hu
  iterate 4 (apply wpP_go; (focus rfl); (focus rfl); (focus exact S0.out); (focus (rintro X sX; have d0 := sX 0 _ c0; have d1 := sX 1 _ c1; have d2 := sX 2 _ c2; have d3 := sX 3 _ c3; have d4 := sX 4 _ c4; have d5 := sX 5 _ c5; have d6 := sX 6 _ c6; have d7 := sX 7 _ c7; have d8 := sX 8 _ c8; have d9 := sX 9 _ c9; have d10 := sX 10 _ c10; clear sX; go_simp; exact rfl)); intro K hK; go_simp; refine hK _ ?_; clear hK K)
  apply wpP_one
  focus rfl
  intro K hK
  go_simp
  refine (HC.out _).mono ?_
  rintro e w1 ⟨rfl, hb1⟩
  have B1 : Hid (Below W0.heap.size W0 w1) := ⟨hb1.os, hb1.tape, hb1.output, hb1.size, hb1.block⟩
  have S1 : Hid (∀ j u, W0.cell? ⟨Z, j, none⟩ = some u → w1.cell? ⟨Z, j, none⟩ = some u) := fun j u hu => (B1.out.cell (p := ⟨Z, j, none⟩) hz0).trans hu
  refine hK _ _ S1.out ?_
  clear hK K hb1
  iterate 1 (apply wpP_go; (focus rfl); (focus rfl); (focus exact S1.out); (focus (rintro X sX; clear sX; go_simp; exact rfl)); intro K hK; go_simp; refine hK _ ?_; clear hK K)
  refine wpP_done ?_
  have Lc : Hid (∀ wr, Below W0.heap.size W0 wr → wr.cell? ⟨Z, 10, none⟩ = some (.slice a n cap)) := fun wr hb => (hb.cell (p := ⟨Z, 10, none⟩) hz0).trans c10
  have LB : Hid (∀ wr, Below W0.heap.size W0 wr → Below Z w wr) := fun wr hb => B0.out.trans (hb.mono (by omega))
  have LS : Hid (∀ wr, Below W0.heap.size W0 wr → BarS wr a n cap ba) := fun wr hb => SLs.below HB.out (by rw [HZ.out]; exact LB.out wr hb) (Nat.le_refl _)
  clear c0 c1 c2 c3 c4 c5 c6 c7 c8 c9 c10 S0 S1 HC BN0
  by_cases hreg : (n : Int) ≤ rg
  · have hreg2 : ¬ rg < (n : Int) := by omega
    go_wp2_with fail
    go_loopw [3] (fun z wr => ∃ i : Nat, i ≤ n ∧ z = .int .i64 (i : Int) ∧ Hid (Below W0.heap.size W0 wr) ∧ Hid (∀ j, j < i → vBar ba j)) (fun z _ => n - (intOf z).toNat)
    case atStart => exact ⟨0, Nat.zero_le _, rfl, B1, fun j hj => by omega⟩
    case round =>
      clear B1
      obtain ⟨i, hi, rfl, B1, HI⟩ := hrel
      have c10 := Lc.out wr B1.out
      by_cases hlt : i < n
      · have hltI : (i : Int) < n := by omega
        obtain ⟨bb, bo, k, s, k', rfl, hbb, d0, d1, d2, hvb⟩ := rbar_facts (LS.out wr B1.out) hlt
        have HVB := Lib.hid hvb
        have nb := Lib.hid (nbar.out i hlt)
        have HB2 : Hid (∀ o, Below W0.heap.size W0 (wr.alloc o)) := fun o => B1.out.alloc B1.out.size o
        have hzr : Z < wr.heap.size := by have := B1.out.size; omega
        have HI2 : Hid (vBar ba i → ∀ j, j < i + 1 → vBar ba j) := fun hv j hj => by
          rcases Nat.lt_succ_iff_lt_or_eq.1 hj with h1 | rfl
          · exact HI.out j h1
          · exact hv
        clear hvb
        have hsum : IntKind.i64.wrap ((i : Int) + 1) = (i : Int) + 1 := IntWalk.i64_in _ (by omega)
        by_cases h2 : i + 1 < n
        · have d3 := d2 h2
          have h2I : (i : Int) + 1 < n := by omega
          have h2J : ¬ (n : Int) ≤ (i : Int) + 1 := by omega
          clear d2
          go_wp2_with fail
          all_goals first
            | (go_ret
               refine rno (nb.out (fun q => ?_)) (by rw [HZ.out]; exact LB.out _ (HB2.out _))
               rw [HVB.out] at q
               clear hsum HVB
               simp only [beq_iff_eq, beq_eq_false_iff_ne, bne_iff_ne, bne_eq_false_iff_eq, ne_eq] at *
               omega)
            | (go_roundw
               case rel =>
                 refine ⟨i + 1, by omega, by go_num, HB2.out _, HI2.out ?_⟩
                 rw [HVB.out]
                 clear hsum HVB
                 simp only [beq_iff_eq, beq_eq_false_iff_ne, bne_eq_false_iff_eq, ne_eq] at *
                 omega
               case measure => simp [intOf]; omega)
        · have h2I : ¬ (i : Int) + 1 < n := by omega
          have h2J : (n : Int) ≤ (i : Int) + 1 := by omega
          clear d2
          go_wp2_with fail
          all_goals first
            | (go_ret
               refine rno (nb.out (fun q => ?_)) (by rw [HZ.out]; exact LB.out _ (HB2.out _))
               rw [HVB.out] at q
               clear hsum HVB
               simp only [beq_iff_eq, beq_eq_false_iff_ne, bne_iff_ne, bne_eq_false_iff_eq, ne_eq] at *
               omega)
            | (go_roundw
               case rel =>
                 refine ⟨i + 1, by omega, by go_num, HB2.out _, HI2.out ?_⟩
                 rw [HVB.out]
                 clear hsum HVB
                 simp only [beq_iff_eq, beq_eq_false_iff_ne, bne_eq_false_iff_eq, ne_eq] at *
                 omega
               case measure => simp [intOf]; omega)
      · have hltI : ¬ (i : Int) < n := by omega
        have HF : Hid VF := fin.out (fun j hj => HI.out j (by omega)) hreg
        go_wp2_with fail
        go_ret
        exact ryes HF.out (by rw [HZ.out]; exact LB.out _ B1.out)
  · have hreg2 : rg < (n : Int) := by omega
    go_wp2_with fail
    go_ret
    exact rno (nreg.out hreg) (by rw [HZ.out]; exact LB.out _ B1.out)
end Go.Proofs.Ytedihfcbpgogoaa
