/- The walk of MeasureExtendsPrefix. Condition: the round constants lie in block 0. -/
import Derived.Test.YtndbbbkdpjkljaaDoorP9
namespace Go.Proofs.YtndbbbkdpjkljaaDoor
open Go.RowKit
attribute [local go_sem ↓] alloc26 load26n store26n alloc45 load45n store45n
attribute [local go_sem] stN_uc stN_b8 set_new fold_drew ldN_drew ldN_drewN stN_drew stN_drewN stN_ev set_ev stN_b8c set_newc

set_option maxRecDepth 100000 in
set_option maxHeartbeats 4000000 in
theorem prefix_walk (a : Option Addr) (len cap : Nat) (es : List Ev) (cut : Int) (w : World) (hE : EvS w a len cap es) (hr : Rnd w) (h0 : 0 < w.heap.size) :
    Calls Tryd.prog 9 #[.slice a len cap, .int .i64 cut] w fun e w' => e = .returned (.bool true) ∧ Below w.heap.size w w' := by
  have HR := Lib.hid hr
  have HE := Lib.hid hE
  have hlen : len ≤ 9223372036854775807 := by have h1 := hE.2.1; have h2 := hE.2.2.1; unfold maxLen at h2; omega
  have hel : es.length = len := hE.1
  subst hel
  clear hr hE
  by_cases h20 : 20 < es.length
  · have d0 : (es.length : Int) > 20 := by omega
    have d0' : (20 : Int) < es.length := by omega
    go_enter Tryd.func9, Tryd.ntmps9
    go_wp2_with fail
    refine (awake_any _ HR.out h0).mono ?_
    rintro e w1 ⟨rfl, hb⟩
    go_wp2_with fail
    go_ret
    exact ⟨rfl, hb⟩
  · have d0 : ¬ (es.length : Int) > 20 := by omega
    have d0' : ¬ (20 : Int) < es.length := by omega
    obtain ⟨g, cp, V, hcopy, hcp, hev, hbV⟩ := copy_run a cap es w HE.out.rd (by omega)
    have hmk : ∀ W, (Instr.buildSlice 46 0 #[]).run Tryd.prog W = .ok (.slice (some ⟨W.heap.size, 0, none⟩) 0 0) (W.alloc (.cells #[] 45)) := fun _ => by kernel_rfl
    have E0 : Hid (EV V w.heap.size g (modE es 0)) := hev
    have B0 := Lib.hid hbV
    have HCopy := Lib.hid hcopy
    clear hev hbV hcopy
    go_enter Tryd.func9, Tryd.ntmps9
    go_wp2_with (at_builtin; refine wpList_append_run rfl _ _ 46 rfl rfl _ _ _ _ rfl rfl (by exact HCopy.out) ?_)
    clear hmk
    go_loopw [6] (fun x wr => ∃ i : Nat, i ≤ es.length ∧ x = .int .i64 i ∧ Hid (EV wr w.heap.size g (modE es i)) ∧ Hid (Below w.heap.size w wr)) (fun x _ => es.length - (intOf x).toNat)
    case atStart => exact ⟨0, by omega, rfl, E0, B0⟩
    case round =>
      clear E0 B0
      obtain ⟨i, hi, rfl, hq, hb⟩ := hrel
      have hsz := hb.out.size
      by_cases hlt : i < es.length
      · have z0 : (i : Int) < es.length := by omega
        obtain ⟨e, he⟩ : ∃ e, es[i]? = some e := ⟨_, List.getElem?_eq_getElem hlt⟩
        have cl := hq.out.cell (modE_at es i e he)
        have fr := hq.out.2.2.1 (i * 34)
        have E1 : Hid (EV (wr.setCell ⟨g, i * 34, none⟩ (.int .i64 ((mo e.r 8 : Nat) : Int))) w.heap.size g (modE es (i + 1))) := by
          have := hq.out.set i ((mo e.r 8 : Nat) : Int)
          rw [modE_succ es i e he] at this
          exact this
        have B1 : Hid (Below w.heap.size w (wr.setCell ⟨g, i * 34, none⟩ (.int .i64 ((mo e.r 8 : Nat) : Int)))) := hb.out.setCell (p := ⟨g, i * 34, none⟩) hq.out.1 _
        clear hq hb he
        go_wp2_with fail
        refine (mod_any e.r 8 _ (by omega) (by omega)).mono ?_
        rintro _ w3 ⟨rfl, rfl⟩
        go_wp2_with fail
        generalize wr.setCell ⟨g, i * 34, none⟩ (.int .i64 ((mo e.r 8 : Nat) : Int)) = Z at E1 B1 ⊢
        exact ⟨⟨i + 1, by omega, by go_num, E1, B1⟩, by simp [intOf]; omega⟩
      · have z0 : ¬ (i : Int) < es.length := by omega
        have hfin : Hid (EV wr w.heap.size g (es.map nrm)) := by
          have h1 := hq.out
          rw [show i = es.length by omega, modE_all] at h1
          exact h1
        obtain ⟨L, hL⟩ : ∃ L, L = es.map nrm := ⟨_, rfl⟩
        have hLl : L.length = es.length := by rw [hL, List.length_map]
        have HOK : Hid (L.all okE = true) := by rw [hL]; exact nrm_ok es
        have HBY : Hid (∀ e ∈ L, Byt e.d) := by
          rw [hL]
          intro e he
          obtain ⟨x, hx, rfl⟩ := List.mem_map.1 he
          exact (HE.out.2.2.2.1 x hx).1
        rw [← hL] at hfin
        clear hL hq
        have HMd : Hid (∀ V, Calls Tryd.prog 14 #[.int .i64 cut, .int .i64 ((es.length : Int) + 1)] V fun e w' => e = .returned (.int .i64 ((mo cut (es.length + 1) : Nat) : Int)) ∧ V = w') := fun V => by
          have := mod_any cut (es.length + 1) V (by omega) (by omega)
          rw [show ((es.length + 1 : Nat) : Int) = (es.length : Int) + 1 by omega] at this
          exact this
        have hk := mo_lt cut (es.length + 1) (by omega)
        go_wp2_with fail
        refine (HMd.out _).mono ?_
        rintro e w4 ⟨rfl, rfl⟩
        generalize mo cut (es.length + 1) = k at hk ⊢
        clear HMd
        generalize hn : es.length = n at *
        have hkn : (k : Int) ≤ n := by omega
        have hkc : (k : Int) ≤ cp := by omega
        have RD : Hid (∀ V, EV V w.heap.size g L → RdE V (.slice (some ⟨g, 0, none⟩) n cp) L) := fun V h => by
          have := h.rd cp
          rw [hLl] at this
          exact this
        have RDk : Hid (∀ V, EV V w.heap.size g L → RdE V (.slice (some ⟨g, 0, none⟩) k cp) (L.take k)) := fun V h => (h.rd cp).take (by omega)
        have hgw : Hid (w.heap.size ≤ g) := hfin.out.1
        go_wp2_with fail
        refine (replay_any _ L wr (RD.out _ hfin.out) (by omega) HBY.out (HR.out.below hb.out h0) (by omega)).mono ?_
        rintro e w5 hrep
        obtain ⟨g1, rfl, hg1, hG1, hb5⟩ := hrep.ok HOK.out
        have E5 := Lib.hid (hfin.out.below hb5 hfin.out.2.1)
        have B5 := Lib.hid (bss hb.out hb5)
        have G5 := Lib.hid hG1
        have gg5 : g < g1 := Nat.lt_of_lt_of_le hfin.out.2.1 hg1
        have g1l : g1 < w5.heap.size := Row.lt hG1
        clear hb5 hG1 hrep hg1 hfin
        have HTO : Hid ((L.take k).all okE = true) := by
          show (L.take k).all okE = true
          rw [List.all_eq_true]
          intro e he
          exact List.all_eq_true.1 HOK.out e (List.mem_of_mem_take he)
        go_wp2_with fail
        refine (replay_any _ (L.take k) w5 (RDk.out _ E5.out) (by simp; omega) (fun e he => HBY.out e (List.mem_of_mem_take he)) (HR.out.below B5.out h0) (by have := B5.out.size; omega)).mono ?_
        rintro e w6 hrep
        obtain ⟨g2, rfl, hg2, hG2, hb6⟩ := hrep.ok HTO.out
        have E6 := Lib.hid (E5.out.below hb6 E5.out.2.1)
        have B6 := Lib.hid (bss B5.out hb6)
        have G6 := Lib.hid (Row.below G5.out hb6 g1l)
        have F6 := Lib.hid hG2
        have g12 : g1 < g2 := by omega
        clear hb6 hG2 hrep hg2 E5 B5 G5 HTO RDk
        go_wp2_with fail
        go_loopw [12, 13] (fun x y wr => ∃ i : Nat, k ≤ i ∧ i ≤ n ∧ x = .int .i64 i ∧ Hid (EV wr w.heap.size g L) ∧ Hid (RG wr g1 (regs L)) ∧ Hid (RG wr g2 (regs (L.take i))) ∧ Hid (Below w.heap.size w wr)) (fun x _ _ => n - (intOf x).toNat)
        case atStart => exact ⟨k, by omega, by omega, rfl, E6, G6, F6, B6⟩
        case round =>
          clear E6 G6 F6 B6
          obtain ⟨i, hki, hin, rfl, hE, hG, hF, hb⟩ := hrel
          have hsz := hb.out.size
          by_cases hlt : i < n
          · have z0 : (i : Int) < n := by omega
            obtain ⟨e, he⟩ : ∃ e, L[i]? = some e := ⟨_, List.getElem?_eq_getElem (by omega)⟩
            have hok := List.all_eq_true.1 HOK.out e (List.mem_of_getElem? he)
            have HBE := Lib.hid (HBY.out e (List.mem_of_getElem? he))
            unfold okE at hok
            simp only [Bool.and_eq_true, decide_eq_true_eq] at hok
            obtain ⟨r, hr⟩ := Int.eq_ofNat_of_zero_le hok.1
            have hr8 : r < 8 := by have := hok.2; rw [hr] at this; exact Int.ofNat_lt.1 this
            have HRT : Hid (regs (L.take (i + 1)) = fun q => if q = r then sumD (dl (regs (L.take i) r) ++ dl e.d) else regs (L.take i) q) := by
              show regs (L.take (i + 1)) = _
              rw [regs_take L i e he]; exact reg1_at _ _ _ hr
            have HBG : Hid (Byt (regs (L.take i) r)) := regs_byt _ _
            have cl := hE.out.cell he
            rw [hr] at cl
            have HE' := Lib.hid he
            clear hok he
            have HSK : Hid (∀ X, RG X g2 (regs (L.take i)) → EV X w.heap.size g L → (convert 23 9 (.slice (some ⟨g2, r * 32, none⟩) 32 32)).run Tryd.prog X = .ok (.string ⟨(dl (regs (L.take i) r)).toArray⟩) X ∧ (convert 23 9 (.slice (some ⟨g, i * 34 + 1, none⟩) 32 32)).run Tryd.prog X = .ok (.string ⟨(dl e.d).toArray⟩) X) := fun X h1 h2 =>
              ⟨rng_str HBG.out (h1.range hr8), rng_str HBE.out (h2.dig HE'.out)⟩
            have Ed : Hid (EV wr.drew w.heap.size g L) := hE.out
            have S0 := Lib.hid (HSK.out wr.drew hF.out.drew Ed.out)
            have r8 : (r : Int) < 8 := by omega
            have a8 : (0 : Int) ≤ (r : Int) := by omega
            have hln : ¬ 9223372036854775807 < (dl (regs (L.take i) r)).length + (dl e.d).length := by rw [dl_len, dl_len]; omega
            obtain ⟨Sx, hSx⟩ : ∃ Sx : ByteArray, Sx = ({ data := (dl (regs (L.take i) r)).toArray } ++ { data := (dl e.d).toArray } : ByteArray) := ⟨_, rfl⟩
            have HSx : Hid (Sx.data.toList = dl (regs (L.take i) r) ++ dl e.d) := by rw [hSx]; exact cat_data _ _
            have hSz : Sx.size ≤ 1073741824 := by rw [size_eq, HSx.out, List.length_append, dl_len, dl_len]; omega
            have HCs : Hid (∀ X, Rnd X → 0 < X.heap.size → Calls Tryd.prog 15 #[.string ({ data := (dl (regs (L.take i) r)).toArray } ++ { data := (dl e.d).toArray } : ByteArray)] X fun e' w' => e' = .returned (.agg (arr 32 (b8 (sumD (dl (regs (L.take i) r) ++ dl e.d))))) ∧ Below X.heap.size X w') := fun X h1 h2 => by
              rw [← hSx, ← HSx.out]; exact sum_any Sx X hSz h1 h2
            clear hSx
            go_wp2_with fail
            refine wp_region_pl (fun X => (convert 23 9 (.slice (some ⟨g2, r * 32, none⟩) 32 32)).run Tryd.prog X = .ok (.string ⟨(dl (regs (L.take i) r)).toArray⟩) X ∧ (convert 23 9 (.slice (some ⟨g, i * 34 + 1, none⟩) 32 32)).run Tryd.prog X = .ok (.string ⟨(dl e.d).toArray⟩) X)
              ((0, 0) :: (1, 0) :: (2, 0) :: (3, 0) :: (4, 0) :: (5, 0) :: (6, 0) :: (7, 0) :: (8, 0) :: (9, 0) :: (10, 0) :: (11, 0) :: (12, 0) :: (13, 0) :: (14, 1) :: (15, 1) :: (16, 2) :: []) (by kernel_rfl) (by kernel_rfl) ?_
            iterate 14 (apply wpP_go; (focus rfl); (focus rfl); (focus exact S0.out); (focus (rintro X ⟨s0, s1⟩; go_simp; exact rfl)); intro K hK; go_simp; refine hK _ ?_; clear hK K)
            apply wpP_one
            focus rfl
            intro K hK
            go_simp
            refine (HCs.out _ (by exact HR.out.below hb.out.drew h0) (by show 0 < wr.heap.size; omega)).mono ?_
            rintro _ w4 ⟨rfl, hb4⟩
            have E4 := Lib.hid (Ed.out.below hb4 Ed.out.2.1)
            have G4 := Lib.hid (Row.below hG.out.drew hb4 hG.out.lt)
            have F4 := Lib.hid (Row.below hF.out.drew hb4 hF.out.lt)
            have S4 := Lib.hid (HSK.out w4 F4.out E4.out)
            have B4 := Lib.hid (bss hb.out.drew hb4)
            clear hb4
            refine hK _ _ S4.out ?_
            clear hK K
            apply wpP_one
            focus rfl
            intro K hK
            go_simp
            refine hK _ _ S4.out ?_
            clear hK K
            obtain ⟨M, hM⟩ : ∃ M : Nat → Int, sumD (dl (regs (L.take i) r) ++ dl e.d) = M := ⟨_, rfl⟩
            rw [hM]
            have HM := Lib.hid hM
            clear hM
            have hst : stN 32 w4 (.pointer (some ⟨g2, r * 32, none⟩)) (.agg (arr 32 (b8 M))) = some (g2, r * 32, arr 32 (b8 M)) := stN_of (by simp [arr]) (RG.there F4.out r hr8) (all_one _ _ (fun _ => rfl))
            apply wpP_two
            focus rfl
            intro K hK
            go_simp
            refine hK _ _ ?_
            clear hK K
            refine wpP_done ?_
            have F5 : Hid (RG (w4.setCells g2 (r * 32) (arr 32 (b8 M)).toList) g2 (regs (L.take (i + 1)))) := by
              show RG _ _ _
              rw [HRT.out, HM.out]
              exact RG.reg F4.out r hr8 M
            have hg2 : w.heap.size ≤ g2 := by have := hgw.out; omega
            have BB : Hid (Below g2 w4 (w4.setCells g2 (r * 32) (arr 32 (b8 M)).toList)) := Below.setAll (Nat.le_refl _) _ _ _ (Below.refl _ _)
            have B5 : Hid (Below w.heap.size w (w4.setCells g2 (r * 32) (arr 32 (b8 M)).toList)) := Below.setAll hg2 _ _ _ B4.out
            have E5 := Lib.hid (E4.out.below BB.out (by omega))
            have G5 := Lib.hid (Row.below G4.out BB.out g12)
            clear BB hst
            generalize w4.setCells g2 (r * 32) (arr 32 (b8 M)).toList = Z at E5 G5 F5 B5 ⊢
            go_wp2_with fail
            exact ⟨⟨i + 1, by omega, by omega, by go_num, E5, G5, F5, B5⟩, by simp [intOf]; omega⟩
          · have z0 : ¬ (i : Int) < n := by omega
            have F5 : Hid (RG wr g2 (regs L)) := by have := hF.out; rw [List.take_of_length_le (by omega)] at this; exact this
            have HCE : Hid (Calls Tryd.prog 31 #[.slice (some ⟨g1, 0, none⟩) 8 8, .slice (some ⟨g2, 0, none⟩) 8 8] wr fun e w' => e = .returned (.bool true) ∧ Below wr.heap.size wr w') := equalD_same _ _ (rgl (regs L)) wr hG.out.rd F5.out.rd (by simp [rgl]) (fun D hD => by obtain ⟨i, _, rfl⟩ := List.mem_map.1 hD; exact regs_byt _ _)
            clear hF F5 hG hE
            go_wp2_with fail
            refine HCE.out.mono ?_
            rintro _ w7 ⟨rfl, hb7⟩
            have B7 := Lib.hid (bss hb.out hb7)
            clear hb7 HCE
            go_wp2_with fail
            refine (awake_any _ (HR.out.below B7.out h0) (by have := B7.out.size; omega)).mono ?_
            rintro _ w8 ⟨rfl, hb8⟩
            have B8 := bss B7.out hb8
            go_wp2_with fail
            go_ret
            exact ⟨rfl, B8⟩
end Go.Proofs.YtndbbbkdpjkljaaDoor
