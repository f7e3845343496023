/- VarstoreCapacity walked. No condition. -/
import Derived.Test.YtfglopkglnpokaaLD
namespace Go.Proofs.Ytfglopkglnpokaa
open Go.RowKit
set_option maxRecDepth 100000 in
set_option maxHeartbeats 2000000 in
theorem capacity_any (rB rP rE : Int) (a : Option Addr) (len cap : Nat) (l : List CV) (w : World) (hl : CallS w a len cap l) :
    Calls Try.prog 5 #[fsV rB rP rE, .slice a len cap] w fun e w' => e = .returned (.bool true) ∧ Below w.heap.size w w' := by
  have HL := Lib.hid hl
  have hcap : len ≤ cap := hl.2.1
  have hcapM := hl.2.2.1
  unfold maxLen at hcapM
  obtain ⟨i0, hi0, hx0, hx1, hx2⟩ := info_parts Try.infoV
  clear hl
  by_cases hbig : 30 < len
  · have hbI : (len : Int) > 30 := by omega
    have HAW := Lib.hid (awake_any (w.alloc (.cells #[.int .i64 rB, .int .i64 rP, .int .i64 rE] 23)))
    have HB0 : Hid (Below w.heap.size w (w.alloc (.cells #[.int .i64 rB, .int .i64 rP, .int .i64 rE] 23))) := (Below.refl _ _).alloc (Nat.le_refl _) _
    go_enter Try.func5, Try.ntmps5
    go_wp2_with fail
    refine HAW.out.mono ?_
    rintro e w1 ⟨rfl, b1⟩
    have HB1 : Hid (Below w.heap.size w w1) := HB0.out.trans (b1.mono HB0.out.size)
    clear b1 HAW HB0
    go_wp2_with fail
    go_ret
    exact ⟨rfl, HB1.out⟩
  · have hbI : ¬ (len : Int) > 30 := by omega
    have HB0 : Hid (Below w.heap.size w (w.alloc (.cells #[.int .i64 rB, .int .i64 rP, .int .i64 rE] 23))) := (Below.refl _ _).alloc (Nat.le_refl _) _
    have r0 := Row.ofList w 23 #[.int .i64 rB, .int .i64 rP, .int .i64 rE] (fsc rB rP rE) 3 rfl
    have z0 : (w.alloc (.cells #[.int .i64 rB, .int .i64 rP, .int .i64 rE] 23)).cell? ⟨w.heap.size, 0, none⟩ = some (.int .i64 rB) := r0.cell (i := 0) (by omega)
    have z1 : (w.alloc (.cells #[.int .i64 rB, .int .i64 rP, .int .i64 rE] 23)).cell? ⟨w.heap.size, 1, none⟩ = some (.int .i64 rP) := r0.cell (i := 1) (by omega)
    have z2 : (w.alloc (.cells #[.int .i64 rB, .int .i64 rP, .int .i64 rE] 23)).cell? ⟨w.heap.size, 2, none⟩ = some (.int .i64 rE) := r0.cell (i := 2) (by omega)
    have HSH := Lib.hid (shape_law rB rP rE (w.alloc (.cells #[.int .i64 rB, .int .i64 rP, .int .i64 rE] 23)))
    have hB := shB_le rB
    have hP := shP_le rP
    have hE := shE_le rE
    generalize shB rB = B at *
    generalize shP rP = P at *
    generalize shE rE = E at *
    clear r0
    go_enter Try.func5, Try.ntmps5
    go_wp2_with fail
    refine HSH.out.mono ?_
    rintro e w1 ⟨rfl, b1⟩
    have HB1 : Hid (Below w.heap.size w w1) := HB0.out.trans (b1.mono HB0.out.size)
    clear b1 HSH HB0 z0 z1 z2
    go_wp2_with fail
    obtain ⟨T, hT⟩ : ∃ T, w1.heap.size = T := ⟨_, rfl⟩
    have HX : Hid ((w1.alloc (.cells #[.int .i64 B, .int .i64 P, .int .i64 1000] 23)).cell? ⟨T, 1, none⟩ = some (.int .i64 P)) := by rw [← hT]; exact (Row.ofList w1 23 #[.int .i64 B, .int .i64 P, .int .i64 1000] (fsc B P 1000) 3 rfl).cell (i := 1) (by omega)
    have HB2 : Hid (Below w.heap.size w (w1.alloc (.cells #[.int .i64 B, .int .i64 P, .int .i64 1000] 23))) := HB1.out.alloc HB1.out.size _
    have hTs : (w1.alloc (.cells #[.int .i64 B, .int .i64 P, .int .i64 1000] 23)).heap.size = T + 1 := by simp [hT]
    have hwT : w.heap.size ≤ T := by rw [← hT]; exact HB1.out.size
    rw [hT]
    generalize w1.alloc (.cells #[.int .i64 B, .int .i64 P, .int .i64 1000] 23) = w2 at *
    clear HB1 hT
    refine (open_law w2 B P 1000 ⟨by omega, by omega⟩ ⟨by omega, by omega⟩ (by omega)).mono ?_
    rintro e w3 ⟨S, X, y, D, f1, rfl, ha, hI, hS, her, hc, hbl, b3⟩
    rw [hTs] at ha b3
    have HI : Hid (Inv f1 st0 ∧ f1.cut = false ∧ f1.B = B ∧ f1.P = P ∧ f1.E = 1000 ∧ st0.gen ≤ 1 + 0 ∧ ∀ b, f1.er b ≤ 0) := ⟨hI, hc, hS.1, hS.2.1, hS.2.2.1, Nat.le_refl _, fun b => by rw [her b]; omega⟩
    have HA : Hid (AT w3 (T + 1) S X y D (32 + 0) f1 st0) := ha
    have HX3 : Hid (w3.cell? ⟨T, 1, none⟩ = some (.int .i64 P)) := (b3.cell (p := ⟨T, 1, none⟩) (by show T < T + 1; omega)).trans HX.out
    have HB3 : Hid (Below w.heap.size w w3) := HB2.out.trans (b3.mono (by omega))
    clear ha hI hS her hc hbl b3 HB2 HX hTs
    go_wp2_with fail
    go_loopw [9] (fun z wr => ∃ (i : Nat) (fl : FL) (st : ST), i ≤ len ∧ z = .int .i64 (i : Int) ∧ Hid (AT wr (T + 1) S X y D (32 + i) fl st) ∧ Hid (Inv fl st ∧ fl.cut = false ∧ fl.B = B ∧ fl.P = P ∧ fl.E = 1000 ∧ st.gen ≤ 1 + i ∧ ∀ b, fl.er b ≤ i) ∧ Hid (wr.cell? ⟨T, 1, none⟩ = some (.int .i64 P)) ∧ Hid (Below w.heap.size w wr)) (fun z _ => len - (intOf z).toNat)
    case atStart => exact ⟨0, f1, st0, by omega, rfl, HA, HI, HX3, HB3⟩
    case round =>
      clear HA HI HX3 HB3
      obtain ⟨i, fl, st, hi, rfl, HA, HI, HX, HB⟩ := hrel
      obtain ⟨wo, hwo⟩ : ∃ wo : World, wo = wr := ⟨_, rfl⟩
      subst hwo
      by_cases hlt : i < len
      · have y0 : (i : Int) < len := by omega
        obtain ⟨bb, o, c, rfl, hbb, _, q0, q1, q2, q3⟩ := (HL.out.below HB.out (Nat.le_refl _)).at hlt
        have hcs := doF_cases HI.out.1 (by have := HI.out.2.2.2.2.2.1; omega) c.kd c.nm c.ln c.fi
        have hcalm := hcs.calm HI.out.1 HI.out.2.1
        have hcp := hcs.cap HI.out.1 HI.out.2.1 HI.out.2.2.2.2.1 (fun b => by have := HI.out.2.2.2.2.2.2 b; omega)
        have hdoC : doF fl st c.kd c.nm c.ln c.fi = doC fl st c := rfl
        rw [hdoC] at hcalm hcp
        obtain ⟨e1, f1, s1, hr1⟩ : ∃ e f s, doC fl st c = (e, f, s) := ⟨_, _, _, rfl⟩
        rw [hr1] at hcalm hcp
        simp only at hcalm hcp
        have HI2 : Hid (Inv f1 s1 ∧ f1.cut = false ∧ f1.B = B ∧ f1.P = P ∧ f1.E = 1000 ∧ s1.gen ≤ 1 + (i + 1) ∧ ∀ b, f1.er b ≤ i + 1) :=
          ⟨hcalm.1, hcalm.2.1, hcalm.2.2.1.1.trans HI.out.2.2.1, hcalm.2.2.1.2.1.trans HI.out.2.2.2.1, hcalm.2.2.1.2.2.1.trans HI.out.2.2.2.2.1, by have := hcalm.2.2.2.1; have := HI.out.2.2.2.2.2.1; omega, fun b => by have := hcalm.2.2.2.2 b; have := HI.out.2.2.2.2.2.2 b; omega⟩
        rw [HI.out.2.2.2.1, ← need_after HI.out.1.srt] at hcp
        have HCP := Lib.hid hcp
        have HDO : Hid (∀ wx, Below wo.heap.size wo wx → Calls Try.prog 13 #[fptr S, .agg #[.int .i64 c.kd, .int .i64 c.nm, .int .i64 c.ln, .int .u8 (c.fi.toNat : Int)]] wx fun e w' => e = .returned (.int .i64 e1) ∧ AT w' (T + 1) S X y D (32 + i + 1) f1 s1 ∧ Ch (fun k => T + 1 ≤ k ∧ k < wo.heap.size) wx w') := fun wx hx => by
          have := HA.out.doB hx HI.out.1.blk (by omega) c
          rw [hr1] at this
          exact this
        have HV : Hid (Srt st.V ∧ st.V.length ≤ 32 + i ∧ ∀ p ∈ st.V, p.1.length ≤ 24 ∧ p.2.length ≤ 128) := by
          obtain ⟨DS, m, h1, h2, h3⟩ := HA.out.s
          exact ⟨h1.srt, h1.map.len h1.srt, h1.hv⟩
        obtain ⟨k8, hk8⟩ : ∃ k, mo c.kd 8 = k := ⟨_, rfl⟩
        have hk8l : k8 < 8 := by rw [← hk8]; exact mo_lt _ _ (by omega)
        have HM8 : Hid (Calls Try.prog 15 #[.int .i64 c.kd, .int .i64 8] wo fun e w' => e = .returned (.int .i64 ((mo c.kd 8 : Nat) : Int)) ∧ wo = w') := mod_any c.kd 8 wo (by omega) (by omega)
        rw [hk8] at HM8
        have HK8 : Hid (isDel c.kd ↔ k8 = 5 ∨ k8 = 6) := by show _ ↔ _; unfold isDel; rw [hk8]
        obtain ⟨ne, hne⟩ : ∃ s : ByteArray, s = ⟨(nameOf c.nm).toArray⟩ := ⟨_, rfl⟩
        obtain ⟨ve, hve⟩ : ∃ s : ByteArray, s = ⟨(valOf c.ln c.fi).toArray⟩ := ⟨_, rfl⟩
        have HNE : Hid (ne.data.toList = nameOf c.nm ∧ ve.data.toList = valOf c.ln c.fi) := by rw [hne, hve]; exact ⟨rfl, rfl⟩
        have HNM : Hid (∀ w, Calls Try.prog 19 #[.int .i64 c.nm] w fun e w' => e = .returned (.string ne) ∧ w = w') := fun w => by rw [hne]; exact name_any c.nm w
        have HVA : Hid (∀ w, Calls Try.prog 16 #[.agg #[.int .i64 c.kd, .int .i64 c.nm, .int .i64 c.ln, .int .u8 (c.fi.toNat : Int)]] w fun e w' => e = .returned (.string ve) ∧ Below w.heap.size w w') := fun w => by rw [hve]; exact value_any c.kd c.nm c.ln c.fi w
        have S1 : Hid (wo.drew.cell? ⟨bb, o + i * 4, none⟩ = some (.int .i64 c.kd) ∧ wo.drew.cell? ⟨bb, o + i * 4 + 1, none⟩ = some (.int .i64 c.nm) ∧ wo.drew.cell? ⟨bb, o + i * 4 + 2, none⟩ = some (.int .i64 c.ln) ∧ wo.drew.cell? ⟨bb, o + i * 4 + 3, none⟩ = some (.int .u8 (c.fi.toNat : Int))) := ⟨q0, q1, q2, q3⟩
        have HQ : Hid (wo.cell? ⟨bb, o + i * 4, none⟩ = some (.int .i64 c.kd) ∧ wo.cell? ⟨bb, o + i * 4 + 1, none⟩ = some (.int .i64 c.nm) ∧ wo.cell? ⟨bb, o + i * 4 + 2, none⟩ = some (.int .i64 c.ln) ∧ wo.cell? ⟨bb, o + i * 4 + 3, none⟩ = some (.int .u8 (c.fi.toNat : Int))) := ⟨q0, q1, q2, q3⟩
        clear hcs hcalm hcp hdoC hr1 hk8 hne hve
        go_wp2_with fail
        refine HM8.out.mono ?_
        rintro e w' ⟨rfl, rfl⟩
        go_wp2_with fail
        clear q0 q1 q2 q3
        refine wp_region_pl (fun Y => Y.cell? ⟨bb, o + i * 4, none⟩ = some (.int .i64 c.kd) ∧ Y.cell? ⟨bb, o + i * 4 + 1, none⟩ = some (.int .i64 c.nm) ∧ Y.cell? ⟨bb, o + i * 4 + 2, none⟩ = some (.int .i64 c.ln) ∧ Y.cell? ⟨bb, o + i * 4 + 3, none⟩ = some (.int .u8 (c.fi.toNat : Int))) ((0, 0) :: (1, 0) :: (2, 0) :: (3, 0) :: (4, 0) :: (5, 0) :: (6, 0) :: (7, 0) :: (8, 0) :: (9, 0) :: (10, 1) :: (11, 0) :: (12, 1) :: (13, 0) :: []) (by kernel_rfl) (by kernel_rfl) ?_
        iterate 5 (apply wpP_go; (focus rfl); (focus rfl); (focus exact S1.out); (focus (rintro Z ⟨s0, s1, s2, s3⟩; go_simp; exact rfl)); intro K hK; go_simp; refine hK _ ?_; clear hK K)
        apply wpP_call
        focus rfl
        focus rfl
        focus exact S1.out
        focus (rintro Z ⟨s0, s1, s2, s3⟩; go_simp; exact ⟨rfl, rfl⟩)
        focus (rintro Z ⟨s0, s1, s2, s3⟩; exact HNM.out Z)
        intro K hK
        go_simp
        refine hK _ ?_
        clear hK K
        iterate 4 (apply wpP_go; (focus rfl); (focus rfl); (focus exact S1.out); (focus (rintro Z ⟨s0, s1, s2, s3⟩; go_simp; exact rfl)); intro K hK; go_simp; refine hK _ ?_; clear hK K)
        apply wpP_one
        focus rfl
        intro K hK
        go_simp
        refine (HVA.out _).mono ?_
        rintro e V1 ⟨rfl, b1⟩
        have HB1 : Hid (Below wo.heap.size wo V1) := ((Below.refl _ wo).drew).trans b1
        have S2 : Hid (V1.cell? ⟨bb, o + i * 4, none⟩ = some (.int .i64 c.kd) ∧ V1.cell? ⟨bb, o + i * 4 + 1, none⟩ = some (.int .i64 c.nm) ∧ V1.cell? ⟨bb, o + i * 4 + 2, none⟩ = some (.int .i64 c.ln) ∧ V1.cell? ⟨bb, o + i * 4 + 3, none⟩ = some (.int .u8 (c.fi.toNat : Int))) := ⟨cell_later b1 S1.out.1, cell_later b1 S1.out.2.1, cell_later b1 S1.out.2.2.1, cell_later b1 S1.out.2.2.2⟩
        refine hK _ _ S2.out ?_
        clear hK K b1
        iterate 1 (apply wpP_go; (focus rfl); (focus rfl); (focus exact S2.out); (focus (rintro Z ⟨s0, s1, s2, s3⟩; go_simp; exact rfl)); intro K hK; go_simp; refine hK _ ?_; clear hK K)
        apply wpP_one
        focus rfl
        intro K hK
        go_simp
        have b2 : Below V1.heap.size V1 (V1.alloc (.cells #[.string ne, .string ve] 51)) := (Below.refl _ _).alloc (Nat.le_refl _) _
        have HO2 := Lib.hid (OV.one HB1.out ne ve)
        have S3 : Hid ((V1.alloc (.cells #[.string ne, .string ve] 51)).cell? ⟨bb, o + i * 4, none⟩ = some (.int .i64 c.kd) ∧ (V1.alloc (.cells #[.string ne, .string ve] 51)).cell? ⟨bb, o + i * 4 + 1, none⟩ = some (.int .i64 c.nm) ∧ (V1.alloc (.cells #[.string ne, .string ve] 51)).cell? ⟨bb, o + i * 4 + 2, none⟩ = some (.int .i64 c.ln) ∧ (V1.alloc (.cells #[.string ne, .string ve] 51)).cell? ⟨bb, o + i * 4 + 3, none⟩ = some (.int .u8 (c.fi.toNat : Int))) := ⟨cell_later b2 S2.out.1, cell_later b2 S2.out.2.1, cell_later b2 S2.out.2.2.1, cell_later b2 S2.out.2.2.2⟩
        refine hK _ _ S3.out ?_
        clear hK K b2
        iterate 1 (apply wpP_go; (focus rfl); (focus rfl); (focus exact S3.out); (focus (rintro Z ⟨s0, s1, s2, s3⟩; go_simp; exact rfl)); intro K hK; go_simp; refine hK _ ?_; clear hK K)
        refine wpP_done ?_
        obtain ⟨G, hG⟩ : ∃ G, V1.heap.size = G := ⟨_, rfl⟩
        have hGr : wo.heap.size ≤ G := by rw [← hG]; exact HB1.out.size
        have hG2 : (V1.alloc (.cells #[.string ne, .string ve] 51)).heap.size = G + 1 := by simp [hG]
        rw [hG] at HO2 ⊢
        rw [HNE.out.1, HNE.out.2] at HO2
        clear S1 S2 HB1 hG
        generalize V1.alloc (.cells #[.string ne, .string ve] 51) = V2 at *
        have HLS := Lib.hid ((HA.out.below HO2.out.bel).list (by omega))
        obtain ⟨Lw, hLw⟩ : ∃ L, st.V.length = L := ⟨_, rfl⟩
        rw [hLw] at HLS
        have hLl : Lw ≤ 62 := by have := HV.out.2.1; omega
        have HLW := Lib.hid hLw
        clear hLw
        go_wp2_with fail
        refine HLS.out.mono ?_
        rintro e V3 ⟨gw, rfl, hgw, hvs, b3⟩
        have HVS := Lib.hid hvs
        have HO3 := Lib.hid (HO2.out.below b3)
        have hgG : G ≠ gw := by omega
        have HE0 : Hid ([(nameOf c.nm, valOf c.ln c.fi)] = (nameOf c.nm, valOf c.ln c.fi) :: delV (st.V.take 0) (nameOf c.nm)) := rfl
        clear hvs b3 hgw HLS HO2 S3 hG2
        go_wp2_with fail
        go_loopw [11, 13] (fun x11 z wr => ∃ (k gv cv n : Nat) (E' : Vars), k ≤ Lw ∧ n ≤ 1 + k ∧ x11 = .slice (some ⟨gv, 0, none⟩) n cv ∧ z = .int .i64 (k : Int) ∧ gv ≠ gw ∧ wo.heap.size ≤ gv ∧ Hid (E'.length = n) ∧ Hid (E' = (nameOf c.nm, valOf c.ln c.fi) :: delV (st.V.take k) (nameOf c.nm)) ∧ Hid (OV wo wr (.slice (some ⟨gv, 0, none⟩) n cv) E') ∧ Hid (VS wr (some ⟨gw, 0, none⟩) Lw st.V)) (fun _ z _ => Lw - (intOf z).toNat)
        case atStart => exact ⟨0, G, 1, 1, [(nameOf c.nm, valOf c.ln c.fi)], by omega, by omega, rfl, rfl, hgG, hGr, rfl, HE0, HO3, HVS⟩
        case round =>
          clear HE0 HO3 HVS hgG hGr
          obtain ⟨k, gv, cv, n, E', hk, hn, rfl, rfl, hgG, hGr, HEl, HE', HO, HVS⟩ := hrel
          have hne' : E' ≠ [] := by rw [HE'.out]; simp
          obtain ⟨g', cap', hv', hvs', _⟩ := HO.out.vs hne'
          injection hv' with hv1 hv2 hv3
          injection hv1 with hv1
          injection hv1 with hv1
          subst hv1 hv3
          clear hv2
          have cn := hvs'.2.2 hne'
          obtain ⟨g2, hg2, _, cn⟩ := cn
          injection hg2 with hg2
          injection hg2 with hg2
          subst hg2
          have cn0 := (cn 0 (by rw [HE'.out]; simp)).1
          rw [show (E'.getD 0 ([], [])).1 = nameOf c.nm by rw [HE'.out]; rfl, show str (nameOf c.nm) = .string ne by rw [← HNE.out.1]] at cn0
          have hncap : E'.length ≤ cv := hvs'.1
          have hncm := hvs'.2.1
          unfold maxLen at hncm
          rw [HEl.out] at hncap
          have hpos : 0 < n := by rw [← HEl.out, HE'.out]; simp
          by_cases hkl : k < Lw
          · have y1 : (k : Int) < Lw := by omega
            have hkV : k < st.V.length := by rw [HLW.out]; exact hkl
            obtain ⟨g3, hg3, _, cw⟩ := HVS.out.2.2 (by intro e; rw [e] at hkV; cases hkV)
            injection hg3 with hg3
            injection hg3 with hg3
            subst hg3
            have cw0 := (cw k hkV).1
            have cw1 := (cw k hkV).2
            have hdt := delV_take (nameOf c.nm) hkV
            obtain ⟨pk, hpk⟩ : ∃ p, st.V.getD k ([], []) = p := ⟨_, rfl⟩
            rw [hpk] at cw0 cw1 hdt
            obtain ⟨ke, hke⟩ : ∃ s : ByteArray, s = ⟨pk.1.toArray⟩ := ⟨_, rfl⟩
            obtain ⟨kv, hkv⟩ : ∃ s : ByteArray, s = ⟨pk.2.toArray⟩ := ⟨_, rfl⟩
            have HKE : Hid (pk = (ke.data.toList, kv.data.toList)) := by rw [hke, hkv]; rfl
            rw [show str pk.1 = .string ke by rw [hke]] at cw0
            rw [show str pk.2 = .string kv by rw [hkv]] at cw1
            have hkcap : Lw ≤ Lw := Nat.le_refl _
            have S4 : Hid (wr.drew.cell? ⟨gw, k * 2, none⟩ = some (.string ke) ∧ wr.drew.cell? ⟨gv, 0, none⟩ = some (.string ne)) := ⟨cw0, by simpa using cn0⟩
            have HO5 := Lib.hid (HO.out.below (Below.refl _ wr).drew)
            have HVS5 := Lib.hid (HVS.out.below (Below.refl _ wr).drew)
            have cw0' : wr.drew.cell? ⟨gw, k * 2, none⟩ = some (.string ke) := cw0
            have cw1' : wr.drew.cell? ⟨gw, k * 2 + 1, none⟩ = some (.string kv) := cw1
            clear hvs' cn cn0 cw cw0 cw1 hke hkv HO HVS
            by_cases heq : pk.1 = nameOf c.nm
            · have hd : (ke.toList == ne.toList) = true := by rw [ByteArray.toList_eq, ByteArray.toList_eq, HNE.out.1, ← heq, HKE.out]; simp
              rw [if_pos heq] at hdt
              rw [← hdt] at HE'
              clear hdt hpk heq
              go_wp2_with fail
              refine wp_region_pl (fun Y => Y.cell? ⟨gw, k * 2, none⟩ = some (.string ke) ∧ Y.cell? ⟨gv, 0, none⟩ = some (.string ne)) ((0, 0) :: (1, 0) :: (2, 0) :: (3, 0) :: (4, 0) :: (5, 0) :: (6, 0) :: (7, 0) :: (8, 0) :: (9, 0) :: []) (by kernel_rfl) (by kernel_rfl) ?_
              iterate 10 (apply wpP_go; (focus rfl); (focus rfl); (focus exact S4.out); (focus (rintro Z ⟨s0, s1⟩; go_simp; exact rfl)); intro K hK; go_simp; refine hK _ ?_; clear hK K)
              refine wpP_done ?_
              clear S4 cw0' cw1'
              generalize wr.drew = w5 at *
              go_wp2_with fail
              go_roundw
              case rel => exact ⟨k + 1, gv, cv, n, E', by omega, by omega, rfl, by go_num, hgG, hGr, HEl, HE', HO5, HVS5⟩
              case measure => simp [intOf]; omega
            · have hd : (ke.toList == ne.toList) = false := by rw [ByteArray.toList_eq, ByteArray.toList_eq, HNE.out.1]; rw [HKE.out] at heq; simpa using heq
              rw [if_neg heq] at hdt
              have HE2 : Hid (E' ++ [pk] = (nameOf c.nm, valOf c.ln c.fi) :: delV (st.V.take (k + 1)) (nameOf c.nm)) := by show _ = _; rw [HE'.out, hdt]; rfl
              clear hdt hpk heq
              go_wp2_with fail
              refine wp_region_pl (fun Y => Y.cell? ⟨gw, k * 2, none⟩ = some (.string ke) ∧ Y.cell? ⟨gv, 0, none⟩ = some (.string ne)) ((0, 0) :: (1, 0) :: (2, 0) :: (3, 0) :: (4, 0) :: (5, 0) :: (6, 0) :: (7, 0) :: (8, 0) :: (9, 0) :: []) (by kernel_rfl) (by kernel_rfl) ?_
              iterate 10 (apply wpP_go; (focus rfl); (focus rfl); (focus exact S4.out); (focus (rintro Z ⟨s0, s1⟩; go_simp; exact rfl)); intro K hK; go_simp; refine hK _ ?_; clear hK K)
              refine wpP_done ?_
              clear S4
              have hgwl : gw < wr.drew.heap.size := by obtain ⟨g, e, h, _⟩ := HVS5.out.2.2 (by intro e; rw [e] at hkV; cases hkV); cases e; exact h
              generalize wr.drew = w5 at *
              have HP := Lib.hid (HO5.out.push ke kv)
              rw [HEl.out] at HP
              go_wp2_with (at_builtin; refine wpList_append_lies _ rfl _ _ 43 rfl 0 51 i0 _ 2 32 Try.underlying43 hi0 hx0 hx1 hx2 rfl (by omega) (.slice (some ⟨gv, 0, none⟩) n cv) n (E'.flatMap vcf) rfl (by exact HP.out.2) ⟨w5.heap.size, 0, none⟩ 1 1 (vcf (ke.data.toList, kv.data.toList)) rfl rfl (by exact HP.out.1) (vcf_one _) (by omega) (by simp only [maxLen]; omega) (by omega) (Nat.zero_le _) (w5.heap.size + 1) (by simp) ?_)
              intro g cap2 w6 ho hg hat hbel
              rw [← HEl.out] at ho
              have O2 := HO5.out.take ho hg hat
              rw [← HKE.out, HEl.out] at O2
              have HO6 := Lib.hid O2
              have hgg : g ≠ gw ∧ wo.heap.size ≤ g := by
                refine ⟨?_, O2.new g rfl⟩
                rcases hat with h1 | h1
                · have : gv = g := by simpa [Value.ownBlock] using h1
                  omega
                · omega
              have HVS6 : Hid (VS w6 (some ⟨gw, 0, none⟩) Lw st.V) := HVS5.out.ch (OV.ch hg) (fun g e h => by injection e with e; injection e with e; omega)
              have HEl6 : Hid ((E' ++ [pk]).length = n + 1) := by show _ = _; rw [List.length_append, HEl.out]; rfl
              clear ho hg hat hbel O2 HP
              go_wp2_with fail
              go_roundw
              case rel => exact ⟨k + 1, g, cap2, n + 1, E' ++ [pk], by omega, by omega, rfl, by go_num, hgg.1, hgg.2, HEl6, HE2, HO6, HVS6⟩
              case measure => simp [intOf]; omega
          · have y1 : ¬ (k : Int) < Lw := by omega
            have hE9 : E' = (nameOf c.nm, valOf c.ln c.fi) :: delV st.V (nameOf c.nm) := by rw [HE'.out, List.take_of_length_le (by rw [HLW.out]; omega)]
            have hlens : ∀ p ∈ E', p.1.length ≤ 24 ∧ p.2.length ≤ 128 := by
              rw [hE9]
              intro p hp
              rcases List.mem_cons.1 hp with e | hp
              · rw [e]; exact ⟨(nameOf_len c.nm).2, by rw [valOf_len]; exact valLen_le c.ln⟩
              · exact HV.out.2.2 p (mem_delV hp)
            have hnd := HCP.out
            rw [← hE9] at hnd
            have HND : Hid (∀ wx, VS wx (some ⟨gv, 0, none⟩) cv E' → Calls Try.prog 21 #[.slice (some ⟨gv, 0, none⟩) n cv] wx fun e w' => e = .returned (.int .i64 (needV E' : Nat)) ∧ Ch (fun _ => False) wx w') := fun wx hx => need_any hx HEl.out (by omega) hlens
            have HVA2 := Lib.hid hvs'
            have p0 := cell_later HO.out.bel HQ.out.1
            have p1 := cell_later HO.out.bel HQ.out.2.1
            have p2 := cell_later HO.out.bel HQ.out.2.2.1
            have p3 := cell_later HO.out.bel HQ.out.2.2.2
            have hxr := cell_later HO.out.bel HX.out
            have HDO2 := Lib.hid (HDO.out _ HO.out.bel)
            have HBr : Hid (Below w.heap.size w wr) := HB.out.trans (HO.out.bel.mono HB.out.size)
            have HXr := Lib.hid hxr
            obtain ⟨nd, hndn⟩ : ∃ nd, needV E' = nd := ⟨_, rfl⟩
            rw [hndn] at hnd HND
            have HNDD := Lib.hid hnd
            have hndl : nd ≤ 1000 := by
              have h1 : ∀ l : Vars, (∀ p ∈ l, p.1.length ≤ 24 ∧ p.2.length ≤ 128) → needV l ≤ 3 * l.length := by
                intro l
                induction l with
                | nil => intro _; exact Nat.zero_le _
                | cons q r ih =>
                  intro hq
                  have h2 := hq q (by simp)
                  have h3 := ih (fun p hp => hq p (List.mem_cons_of_mem _ hp))
                  have h4 : needV (q :: r) = pgs (5 + q.1.length + q.2.length) + needV r := by simp [needV]
                  have h5 : pgs (5 + q.1.length + q.2.length) ≤ 3 := by unfold pgs; omega
                  rw [h4, List.length_cons]
                  omega
              have h2 := h1 E' hlens
              have h3 := HEl.out
              rw [hndn] at h2
              omega
            clear hE9 hlens hnd hndn cn cn0 hvs' hxr HE'
            go_wp2_with fail
            refine HDO2.out.mono ?_
            rintro e w7 ⟨rfl, ha, c7⟩
            have HA7 := Lib.hid ha
            have HVS7 : Hid (VS w7 (some ⟨gv, 0, none⟩) cv E') := HVA2.out.ch c7 (fun g e h => by injection e with e; injection e with e; omega)
            have HX7 : Hid (w7.cell? ⟨T, 1, none⟩ = some (.int .i64 P)) := (c7.cell ⟨T, 1, none⟩ (by have := HA.out.N_le; have := HO.out.bel.size; show T < _; omega) (fun h => by have := h.1; have h9 : T + 1 ≤ T := this; omega)).trans HXr.out
            have HB7 : Hid (Below w.heap.size w w7) := HBr.out.trans (c7.below HBr.out.size (fun i hi => by omega))
            clear ha c7 HDO2 HVA2 HBr HXr p0 p1 p2 p3
            by_cases hdel : k8 = 5 ∨ k8 = 6
            · have he := HNDD.out.1 (HK8.out.2 hdel)
              have he8 : ((e1 : Int) == 8) = false := by rcases he with e | e <;> rw [e] <;> rfl
              have he8' : ¬ e1 = 8 := by rcases he with e | e <;> omega
              clear he
              rcases hdel with hd5 | hd5
              all_goals
                subst hd5
                go_wp2_with fail
                go_roundw
                case rel => exact ⟨i + 1, f1, s1, by omega, by go_num, HA7, HI2, HX7, HB7⟩
                case measure => simp [intOf]; omega
            · have d5 : ((k8 : Int) == 5) = false := by rw [beq_eq_false_iff_ne]; omega
              have d6 : ((k8 : Int) == 6) = false := by rw [beq_eq_false_iff_ne]; omega
              have i5 : ¬ (k8 : Int) = 5 := by omega
              have i6 : ¬ (k8 : Int) = 6 := by omega
              have hnd := HNDD.out.2 (fun h => hdel (HK8.out.1 h))
              have S7 : Hid (w7.drew.cell? ⟨T, 1, none⟩ = some (.int .i64 P)) := HX7.out
              have HND7 := Lib.hid (HND.out w7.drew (HVS7.out.below (Below.refl _ w7).drew))
              have wP : IntKind.i64.wrap ((P : Int) - 1) = (P : Int) - 1 := IntWalk.i64_in _ ⟨by omega, by omega⟩
              clear hdel
              go_wp2_with fail
              refine wp_region_pl (fun Y => Y.cell? ⟨T, 1, none⟩ = some (.int .i64 P)) ((0, 0) :: (1, 0) :: (2, 0) :: (4, 0) :: (5, 0) :: (6, 0) :: (3, 1) :: (7, 0) :: (8, 0) :: (9, 0) :: (10, 0) :: (11, 0) :: (12, 0) :: (13, 0) :: (14, 0) :: (15, 0) :: (16, 0) :: []) (by kernel_rfl) (by kernel_rfl) ?_
              iterate 6 (apply wpP_go; (focus rfl); (focus rfl); (focus exact S7.out); (focus (intro Z s0; go_simp; exact rfl)); intro K hK; go_simp; refine hK _ ?_; clear hK K)
              apply wpP_one
              focus rfl
              intro K hK
              go_simp
              refine HND7.out.mono ?_
              rintro e V9 ⟨rfl, c9⟩
              have S8 : Hid (V9.cell? ⟨T, 1, none⟩ = some (.int .i64 P)) := (c9.cell ⟨T, 1, none⟩ (by have := HA7.out.N_le; show T < _; simpa using (by omega : T < w7.heap.size)) id).trans S7.out
              have HA9 : Hid (AT V9 (T + 1) S X y D (32 + i + 1) f1 s1) := (HA7.out.below (Below.refl _ w7).drew).below (c9.below (Nat.le_refl _) (fun _ h => h.elim))
              have HB9 : Hid (Below w.heap.size w V9) := (HB7.out.drew).trans ((c9.below (B := w7.drew.heap.size) (Nat.le_refl _) (fun _ h => h.elim)).mono (HB7.out.drew).size)
              refine hK _ _ S8.out ?_
              have HX9 := S8
              clear hK K c9 S7 HND7
              rcases hnd with ⟨he, hn1⟩ | ⟨he, hn1⟩
              · subst he
                have hgt : ¬ ((nd : Int) > (P : Int) - 1) := by omega
                iterate 6 (apply wpP_go; (focus rfl); (focus rfl); (focus exact S8.out); (focus (intro Z s0; go_simp; exact rfl)); intro K hK; go_simp; refine hK _ ?_; clear hK K)
                iterate 2 (apply wpP_not; (focus rfl); (focus rfl); (focus exact S8.out); intro K hK; go_simp; refine hK _ ?_; clear hK K)
                iterate 2 (apply wpP_go; (focus rfl); (focus rfl); (focus exact S8.out); (focus (intro Z s0; go_simp; exact rfl)); intro K hK; go_simp; refine hK _ ?_; clear hK K)
                refine wpP_done ?_
                clear S8
                go_wp2_with fail
                go_roundw
                case rel => exact ⟨i + 1, f1, s1, by omega, by go_num, HA9, HI2, HX9, HB9⟩
                case measure => simp [intOf]; omega
              · subst he
                have hgt : (nd : Int) > (P : Int) - 1 := by omega
                iterate 6 (apply wpP_go; (focus rfl); (focus rfl); (focus exact S8.out); (focus (intro Z s0; go_simp; exact rfl)); intro K hK; go_simp; refine hK _ ?_; clear hK K)
                iterate 2 (apply wpP_go; (focus rfl); (focus rfl); (focus exact S8.out); (focus (intro Z s0; go_simp; exact rfl)); intro K hK; go_simp; refine hK _ ?_; clear hK K)
                iterate 2 (apply wpP_go; (focus rfl); (focus rfl); (focus exact S8.out); (focus (intro Z s0; go_simp; exact rfl)); intro K hK; go_simp; refine hK _ ?_; clear hK K)
                refine wpP_done ?_
                clear S8
                go_wp2_with fail
                go_roundw
                case rel => exact ⟨i + 1, f1, s1, by omega, by go_num, HA9, HI2, HX9, HB9⟩
                case measure => simp [intOf]; omega
      · have y0 : ¬ (i : Int) < len := by omega
        have HAW := Lib.hid (awake_any wo)
        go_wp2_with fail
        refine HAW.out.mono ?_
        rintro e w4 ⟨rfl, b4⟩
        have HB4 : Hid (Below w.heap.size w w4) := HB.out.trans (b4.mono HB.out.size)
        clear b4 HAW
        go_wp2_with fail
        go_ret
        exact ⟨rfl, HB4.out⟩
end Go.Proofs.Ytfglopkglnpokaa
