/- VarstoreActsLikeMap walked. No condition. -/
import Derived.Test.YtfglopkglnpokaaLF
namespace Go.Proofs.Ytfglopkglnpokaa
open Go.RowKit
set_option maxRecDepth 100000 in
set_option maxHeartbeats 2000000 in
theorem acts_any (rB rP rE : Int) (a : Option Addr) (len cap : Nat) (l : List CV) (w : World) (hl : CallS w a len cap l) :
    Calls Try.prog 4 #[fsV rB rP rE, .slice a len cap] w fun e w' => e = .returned (.bool true) ∧ Below w.heap.size w w' := by
  have HL := Lib.hid hl
  have hcap : len ≤ cap := hl.2.1
  have hcapM := hl.2.2.1
  unfold maxLen at hcapM
  clear hl
  by_cases hbig : 30 < len
  · have hbI : (len : Int) > 30 := by omega
    have HAW := Lib.hid (awake_any (w.alloc (.cells #[.int .i64 rB, .int .i64 rP, .int .i64 rE] 23)))
    have HB0 : Hid (Below w.heap.size w (w.alloc (.cells #[.int .i64 rB, .int .i64 rP, .int .i64 rE] 23))) := (Below.refl _ _).alloc (Nat.le_refl _) _
    go_enter Try.func4, Try.ntmps4
    go_wp2_with fail
    refine HAW.out.mono ?_
    rintro e w1 ⟨rfl, b1⟩
    have HB1 : Hid (Below w.heap.size w w1) := HB0.out.trans (b1.mono HB0.out.size)
    clear b1 HAW HB0
    go_wp2_with fail
    go_ret
    exact ⟨rfl, HB1.out⟩
  · have hbI : ¬ (len : Int) > 30 := by omega
    have HB0 : Hid (Below w.heap.size w (w.alloc (.cells #[.int .i64 rB, .int .i64 rP, .int .i64 rE] 23))) := (Below.refl _ _).alloc (Nat.le_refl _) _
    have r0 := Row.ofList w 23 #[.int .i64 rB, .int .i64 rP, .int .i64 rE] (fsc rB rP rE) 3 rfl
    have z0 : (w.alloc (.cells #[.int .i64 rB, .int .i64 rP, .int .i64 rE] 23)).cell? ⟨w.heap.size, 0, none⟩ = some (.int .i64 rB) := r0.cell (i := 0) (by omega)
    have z1 : (w.alloc (.cells #[.int .i64 rB, .int .i64 rP, .int .i64 rE] 23)).cell? ⟨w.heap.size, 1, none⟩ = some (.int .i64 rP) := r0.cell (i := 1) (by omega)
    have z2 : (w.alloc (.cells #[.int .i64 rB, .int .i64 rP, .int .i64 rE] 23)).cell? ⟨w.heap.size, 2, none⟩ = some (.int .i64 rE) := r0.cell (i := 2) (by omega)
    have HSH := Lib.hid (shape_law rB rP rE (w.alloc (.cells #[.int .i64 rB, .int .i64 rP, .int .i64 rE] 23)))
    have hB := shB_le rB
    have hP := shP_le rP
    have hE := shE_le rE
    generalize shB rB = B at *
    generalize shP rP = P at *
    generalize shE rE = E at *
    clear r0
    go_enter Try.func4, Try.ntmps4
    go_wp2_with fail
    refine HSH.out.mono ?_
    rintro e w1 ⟨rfl, b1⟩
    have HB1 : Hid (Below w.heap.size w w1) := HB0.out.trans (b1.mono HB0.out.size)
    clear b1 HSH HB0 z0 z1 z2
    go_wp2_with fail
    refine (open_law w1 B P E ⟨by omega, by omega⟩ ⟨by omega, by omega⟩ (by omega)).mono ?_
    rintro e w3 ⟨S, X, y, D, f1, rfl, ha, hI, hS, her, hc, hbl, b3⟩
    have HI : Hid (Inv f1 st0 ∧ f1.cut = false ∧ st0.gen ≤ 1 + 0) := ⟨hI, hc, Nat.le_refl _⟩
    have HA : Hid (AT w3 w1.heap.size S X y D (32 + 0) f1 st0) := ha
    have HB3 : Hid (Below w.heap.size w w3) := HB1.out.trans (b3.mono HB1.out.size)
    clear ha hI hS her hc hbl b3
    go_wp2_with fail
    obtain ⟨H, hH⟩ : ∃ H, w3.heap.size = H := ⟨_, rfl⟩
    have hwH : w.heap.size ≤ H := by rw [← hH]; exact HB3.out.size
    have hs1 : (w3.alloc (.cells #[.bool false, .bool false, .bool false, .bool false, .bool false, .bool false] 39)).heap.size = H + 1 := by simp [hH]
    have RA : Rg ((w3.alloc (.cells #[.bool false, .bool false, .bool false, .bool false, .bool false, .bool false] 39)).alloc (.cells #[.string ⟨#[]⟩, .string ⟨#[]⟩, .string ⟨#[]⟩, .string ⟨#[]⟩, .string ⟨#[]⟩, .string ⟨#[]⟩] 40)) H 39 6 (fun _ => .bool false) := by
      have h1 : Rg (w3.alloc (.cells #[.bool false, .bool false, .bool false, .bool false, .bool false, .bool false] 39)) w3.heap.size 39 6 (fun _ => .bool false) := ⟨_, heap_alloc_new w3 _, fun j hj => by rcases (by omega : j = 0 ∨ j = 1 ∨ j = 2 ∨ j = 3 ∨ j = 4 ∨ j = 5) with e | e | e | e | e | e <;> subst e <;> rfl⟩
      rw [hH] at h1
      exact h1.ch (Ch.alloc (Ch.refl (fun _ => False) _) _) id
    have RB : Rg ((w3.alloc (.cells #[.bool false, .bool false, .bool false, .bool false, .bool false, .bool false] 39)).alloc (.cells #[.string ⟨#[]⟩, .string ⟨#[]⟩, .string ⟨#[]⟩, .string ⟨#[]⟩, .string ⟨#[]⟩, .string ⟨#[]⟩] 40)) (H + 1) 40 6 (fun _ => str []) := by
      rw [← hs1]
      exact ⟨_, heap_alloc_new _ _, fun j hj => by rcases (by omega : j = 0 ∨ j = 1 ∨ j = 2 ∨ j = 3 ∨ j = 4 ∨ j = 5) with e | e | e | e | e | e <;> subst e <;> rfl⟩
    have b4 : Below w3.heap.size w3 ((w3.alloc (.cells #[.bool false, .bool false, .bool false, .bool false, .bool false, .bool false] 39)).alloc (.cells #[.string ⟨#[]⟩, .string ⟨#[]⟩, .string ⟨#[]⟩, .string ⟨#[]⟩, .string ⟨#[]⟩, .string ⟨#[]⟩] 40)) := ((Below.refl _ _).alloc (Nat.le_refl _) _).alloc (by simp) _
    have HA4 : Hid (AX _ w1.heap.size (fun k => k = H ∨ k = H + 1) S X y D (32 + 0) f1 st0) := HA.out.ax b4 (fun k hk => by simp [hH]; omega)
    have HB4 : Hid (Below w.heap.size w _) := HB3.out.trans (b4.mono HB3.out.size)
    have HRA := Lib.hid RA
    have HRB := Lib.hid RB
    have HM0 : Hid (MapIs st0.V (fun _ => false) (fun _ => [])) := MapIs.empty
    rw [hH]
    clear RA RB b4 HA HB3 hs1 hH
    generalize (w3.alloc (.cells #[.bool false, .bool false, .bool false, .bool false, .bool false, .bool false] 39)).alloc (.cells #[.string ⟨#[]⟩, .string ⟨#[]⟩, .string ⟨#[]⟩, .string ⟨#[]⟩, .string ⟨#[]⟩, .string ⟨#[]⟩] 40) = w4 at *
    have hNw : w.heap.size ≤ w1.heap.size := HB1.out.size
    have hN9 := HA4.out.at.N_le
    obtain ⟨N, hN⟩ : ∃ N, w1.heap.size = N := ⟨_, rfl⟩
    rw [hN] at HA4 hNw
    clear hN hN9 HB1
    go_loopw [10] (fun z wr => ∃ (i : Nat) (fl : FL) (st : ST) (has : Nat → Bool) (val : Nat → Str), i ≤ len ∧ z = .int .i64 (i : Int) ∧ Hid (AX wr N (fun k => k = H ∨ k = H + 1) S X y D (32 + i) fl st) ∧ Hid (Inv fl st ∧ fl.cut = false ∧ st.gen ≤ 1 + i) ∧ Hid (MapIs st.V has val) ∧ Hid (Rg wr H 39 6 (fun j => .bool (has j))) ∧ Hid (Rg wr (H + 1) 40 6 (fun j => str (val j))) ∧ Hid (Below w.heap.size w wr)) (fun z _ => len - (intOf z).toNat)
    case atStart => exact ⟨0, f1, st0, _, _, by omega, rfl, HA4, HI, HM0, HRA, HRB, HB4⟩
    case round =>
      clear HA4 HI HM0 HRA HRB HB4
      obtain ⟨i, fl, st, has, val, hi, rfl, HA, HI, HM, HRA, HRB, HB⟩ := hrel
      obtain ⟨wo, hwo⟩ : ∃ wo : World, wo = wr := ⟨_, rfl⟩
      subst hwo
      by_cases hlt : i < len
      · have y0 : (i : Int) < len := by omega
        obtain ⟨bb, o, c0, rfl, hbb0, _, _, _, _, _⟩ := HL.out.at hlt
        obtain ⟨bb', o', c, he0, _, _, q0, q1, q2, q3⟩ := (HL.out.below HB.out (Nat.le_refl _)).at hlt
        injection he0 with he0
        injection he0 with he0 he1
        subst he0 he1
        have hbb : bb < wo.heap.size := Nat.lt_of_lt_of_le hbb0 HB.out.size
        have hcs := doF_cases HI.out.1 (by have := HI.out.2.2; omega) c.kd c.nm c.ln c.fi
        have hcalm := hcs.calm HI.out.1 HI.out.2.1
        have hact := hcs.acts HI.out.2.1 HM.out
        have hdoC : doF fl st c.kd c.nm c.ln c.fi = doC fl st c := rfl
        rw [hdoC] at hcalm hact
        obtain ⟨e1, f1, s1, hr1⟩ : ∃ e f s, doC fl st c = (e, f, s) := ⟨_, _, _, rfl⟩
        rw [hr1] at hcalm hact
        simp only at hcalm hact
        have HI2 : Hid (Inv f1 s1 ∧ f1.cut = false ∧ s1.gen ≤ 1 + (i + 1)) := ⟨hcalm.1, hcalm.2.1, by have := hcalm.2.2.2.1; have := HI.out.2.2; omega⟩
        have HDO : Hid (Calls Try.prog 13 #[fptr S, .agg #[.int .i64 c.kd, .int .i64 c.nm, .int .i64 c.ln, .int .u8 (c.fi.toNat : Int)]] wo fun e w' => e = .returned (.int .i64 e1) ∧ AX w' N (fun k => k = H ∨ k = H + 1) S X y D (32 + i + 1) f1 s1 ∧ Ch (fun k => N ≤ k ∧ ¬ (k = H ∨ k = H + 1)) wo w') := by
          have := HA.out.do HI.out.1.blk (by omega) c
          rw [hr1] at this
          exact this
        obtain ⟨k8, hk8⟩ : ∃ k, mo c.kd 8 = k := ⟨_, rfl⟩
        have hk8l : k8 < 8 := by rw [← hk8]; exact mo_lt _ _ (by omega)
        have HM8 : Hid (Calls Try.prog 15 #[.int .i64 c.kd, .int .i64 8] wo fun e w' => e = .returned (.int .i64 ((mo c.kd 8 : Nat) : Int)) ∧ wo = w') := mod_any c.kd 8 wo (by omega) (by omega)
        rw [hk8] at HM8
        have hdel8 : isDel c.kd ↔ k8 = 5 ∨ k8 = 6 := by unfold isDel; rw [hk8]
        obtain ⟨k6, hk6⟩ : ∃ k, mo c.nm 6 = k := ⟨_, rfl⟩
        have hk6l : k6 < 6 := by rw [← hk6]; exact mo_lt _ _ (by omega)
        have HM6 : Hid (Calls Try.prog 15 #[.int .i64 c.nm, .int .i64 6] wo fun e w' => e = .returned (.int .i64 ((mo c.nm 6 : Nat) : Int)) ∧ wo = w') := mod_any c.nm 6 wo (by omega) (by omega)
        rw [hk6] at HM6 hact
        obtain ⟨ve, hve⟩ : ∃ s : ByteArray, s = ⟨(valOf c.ln c.fi).toArray⟩ := ⟨_, rfl⟩
        have HVE : Hid (str (valOf c.ln c.fi) = .string ve) := by show _ = _; rw [hve]
        have HVA : Hid (∀ w, Calls Try.prog 16 #[.agg #[.int .i64 c.kd, .int .i64 c.nm, .int .i64 c.ln, .int .u8 (c.fi.toNat : Int)]] w fun e w' => e = .returned (.string ve) ∧ Below w.heap.size w w') := fun w => by rw [hve]; exact value_any c.kd c.nm c.ln c.fi w
        obtain ⟨rm, hrm⟩ : ∃ b, decide (isDel c.kd) = b := ⟨_, rfl⟩
        rw [hrm] at hact
        have HACT := Lib.hid hact
        have hrmT : Hid (rm = true ↔ k8 = 5 ∨ k8 = 6) := by show _ ↔ _; rw [← hrm, decide_eq_true_eq]; exact hdel8
        have HRM : Hid (isDel c.kd ↔ rm = true) := by show _ ↔ _; rw [← hrm, decide_eq_true_eq]
        clear hcs hcalm hact hdoC hr1 hk8 hk6 hve hrm hdel8
        go_wp2_with fail
        refine HM6.out.mono ?_
        rintro e w' ⟨rfl, rfl⟩
        go_wp2_with fail
        refine HM8.out.mono ?_
        rintro e w' ⟨rfl, rfl⟩
        go_upto_region 13 with fail
        go_cut [13] (fun x13 wx => x13 = .bool rm ∧ Hid (wx = wo))
        case first =>
          by_cases h5 : k8 = 5
          · have hr : rm = true := hrmT.out.2 (.inl h5)
            subst h5 hr
            go_wp2_with fail
            go_meet
            exact ⟨rfl, rfl⟩
          · have d5 : ((k8 : Int) == 5) = false := by rw [beq_eq_false_iff_ne]; omega
            have i5 : ¬ (k8 : Int) = 5 := by omega
            by_cases h6 : k8 = 6
            · have hr : rm = true := hrmT.out.2 (.inr h6)
              subst h6 hr
              go_wp2_with fail
              go_meet
              exact ⟨rfl, rfl⟩
            · have hr : rm = false := by
                cases hc : rm
                · rfl
                · rcases hrmT.out.1 hc with e | e
                  · exact absurd e h5
                  · exact absurd e h6
              have d6 : ((k8 : Int) == 6) = false := by rw [beq_eq_false_iff_ne]; omega
              have i6 : ¬ (k8 : Int) = 6 := by omega
              subst hr
              go_wp2_with fail
              go_meet
              exact ⟨by simp, rfl⟩
        case rest =>
          obtain ⟨rfl, hwc⟩ := hcut
          have hwc' : wc = wo := hwc.out
          subst hwc'
          clear hwc
          go_wp2_with fail
          refine HDO.out.mono ?_
          rintro e w5 ⟨rfl, ha, c5⟩
          have HA5 := Lib.hid ha
          have HRA5 := Lib.hid (HRA.out.ch c5 (fun h => h.2 (.inl rfl)))
          have HRB5 := Lib.hid (HRB.out.ch c5 (fun h => h.2 (.inr rfl)))
          have HB5 : Hid (Below w.heap.size w w5) := HB.out.trans (c5.below HB.out.size (fun k hk => by have := hk.1; omega))
          have HQ5 : Hid (w5.cell? ⟨bb, o + i * 4, none⟩ = some (.int .i64 c.kd) ∧ w5.cell? ⟨bb, o + i * 4 + 1, none⟩ = some (.int .i64 c.nm) ∧ w5.cell? ⟨bb, o + i * 4 + 2, none⟩ = some (.int .i64 c.ln) ∧ w5.cell? ⟨bb, o + i * 4 + 3, none⟩ = some (.int .u8 (c.fi.toNat : Int))) := by
            have hbN : bb < N ∨ bb < w.heap.size := .inr hbb0
            have hlt5 : ∀ j, w5.cell? ⟨bb, j, none⟩ = wc.cell? ⟨bb, j, none⟩ := fun j => c5.cell ⟨bb, j, none⟩ hbb (fun h => by have h9 : N ≤ bb := h.1; omega)
            exact ⟨(hlt5 _).trans q0, (hlt5 _).trans q1, (hlt5 _).trans q2, (hlt5 _).trans q3⟩
          have ck := HRA5.out.cell hk6l
          clear ha c5 HA HRA HRB HB HDO q0 q1 q2 q3
          go_upto_region 15 with fail
          go_cut [90] (fun x90 wx => x90 = .bool false ∧ Hid (wx = w5))
          case first =>
            rcases HACT.out with ⟨he, hh, _⟩ | ⟨he, hh, _⟩ | ⟨he, hd, hh, _⟩
            · subst he
              cases rm
              · go_wp2_with fail
                go_meet
                exact ⟨rfl, rfl⟩
              · have hh' := hh (HRM.out.2 rfl)
                rw [hh'] at ck
                go_wp2_with fail
                go_meet
                exact ⟨rfl, rfl⟩
            · subst he
              cases rm
              · go_wp2_with fail
                go_meet
                exact ⟨rfl, rfl⟩
              · have hh' := hh (HRM.out.2 rfl)
                rw [hh'] at ck
                go_wp2_with fail
                go_meet
                exact ⟨rfl, rfl⟩
            · have hrm := HRM.out.1 hd
              subst he hrm
              rw [hh] at ck
              go_wp2_with fail
              go_meet
              exact ⟨rfl, rfl⟩
          case rest =>
            obtain ⟨rfl, hwc⟩ := hcut
            have hwc' := hwc.out.symm
            subst hwc'
            clear hwc
            have fk := HRA5.out.frozen k6
            have HBB : Hid (bb ≠ H ∧ bb < w.heap.size) := ⟨by omega, hbb0⟩
            go_upto_if 92 with fail
            go_cut [] (fun wx => ∃ (has' : Nat → Bool) (val' : Nat → Str), Hid (MapIs s1.V has' val') ∧ Hid (AX wx N (fun k => k = H ∨ k = H + 1) S X y D (32 + i + 1) f1 s1) ∧ Hid (Rg wx H 39 6 (fun j => .bool (has' j))) ∧ Hid (Rg wx (H + 1) 40 6 (fun j => str (val' j))) ∧ Hid (Below w.heap.size w wx))
            case first =>
              by_cases he : e1 = 0
              · have HM2 : Hid (MapIs s1.V (upd has k6 (!rm)) (upd val k6 (valOf c.ln c.fi))) := by
                  rcases HACT.out with ⟨_, _, h⟩ | ⟨h, _⟩ | ⟨h, _⟩
                  · exact h
                  · omega
                  · omega
                have R6 : Rg (w5.setCell ⟨H, k6, none⟩ (.bool (!rm))) H 39 6 (fun j => .bool (upd has k6 (!rm) j)) := (HRA5.out.set hk6l _).congr fun j hj => by
                  by_cases e : j = k6
                  · subst e; rw [upd_hit, upd_hit]
                  · rw [upd_miss _ _ e, upd_miss _ _ e]
                have c6 : Ch (fun k => k = H ∨ k = H + 1) w5 (w5.setCell ⟨H, k6, none⟩ (.bool (!rm))) := (Ch.refl (fun k => k = H ∨ k = H + 1) w5).setCell (p := ⟨H, k6, none⟩) (fun _ => .inl rfl) _
                have HRA6 := Lib.hid R6
                have HRB6 : Hid (Rg (w5.setCell ⟨H, k6, none⟩ (.bool (!rm))) (H + 1) 40 6 (fun j => str (val j))) := HRB5.out.far (p := ⟨H, k6, none⟩) (by show H ≠ H + 1; omega) _
                have HA6 := Lib.hid (HA5.out.own c6)
                have HB6 : Hid (Below w.heap.size w (w5.setCell ⟨H, k6, none⟩ (.bool (!rm)))) := HB5.out.setCell (p := ⟨H, k6, none⟩) hwH _
                have hq : ∀ j, (w5.setCell ⟨H, k6, none⟩ (.bool (!rm))).cell? ⟨bb, j, none⟩ = w5.cell? ⟨bb, j, none⟩ := fun j => ((Ch.refl (fun k => k = H) w5).setCell (p := ⟨H, k6, none⟩) (fun _ => rfl) _).cell ⟨bb, j, none⟩ (Nat.lt_of_lt_of_le HBB.out.2 HB5.out.size) HBB.out.1
                have p0 := (hq _).trans HQ5.out.1
                have p1 := (hq _).trans HQ5.out.2.1
                have p2 := (hq _).trans HQ5.out.2.2.1
                have p3 := (hq _).trans HQ5.out.2.2.2
                have HV6 := Lib.hid (HVA.out (w5.setCell ⟨H, k6, none⟩ (.bool (!rm))))
                subst he
                clear R6 c6 hq HA5 HRA5 HRB5 HB5 HQ5
                go_wp2_with fail
                refine HV6.out.mono ?_
                rintro e w7 ⟨rfl, b7⟩
                have HRA7 := Lib.hid (HRA6.out.ch (Ch.of_below b7 (fun _ => False)) id)
                have r7 := HRB6.out.ch (Ch.of_below b7 (fun _ => False)) id
                have ck7 := r7.cell hk6l
                have fk7 := r7.frozen k6
                have HRB8 : Hid (Rg (w7.setCell ⟨H + 1, k6, none⟩ (.string ve)) (H + 1) 40 6 (fun j => str (upd val k6 (valOf c.ln c.fi) j))) := (r7.set hk6l _).congr fun j hj => by
                  by_cases e : j = k6
                  · subst e; rw [upd_hit, upd_hit]; exact HVE.out.symm
                  · rw [upd_miss _ _ e, upd_miss _ _ e]
                have HRA8 : Hid (Rg (w7.setCell ⟨H + 1, k6, none⟩ (.string ve)) H 39 6 (fun j => .bool (upd has k6 (!rm) j))) := HRA7.out.far (p := ⟨H + 1, k6, none⟩) (by show H + 1 ≠ H; omega) _
                have HA8 : Hid (AX (w7.setCell ⟨H + 1, k6, none⟩ (.string ve)) N (fun k => k = H ∨ k = H + 1) S X y D (32 + i + 1) f1 s1) := (HA6.out.below b7).own ((Ch.refl (fun k => k = H ∨ k = H + 1) w7).setCell (p := ⟨H + 1, k6, none⟩) (fun _ => .inr rfl) _)
                have HB8 : Hid (Below w.heap.size w (w7.setCell ⟨H + 1, k6, none⟩ (.string ve))) := (HB6.out.trans (b7.mono HB6.out.size)).setCell (p := ⟨H + 1, k6, none⟩) (by show w.heap.size ≤ H + 1; omega) _
                clear b7 r7 HRA6 HRB6 HA6 HB6 HRA7 HV6 p0 p1 p2 p3
                go_wp2_with fail
                go_meet
                exact ⟨_, _, HM2, HA8, HRA8, HRB8, HB8⟩
              · have HM2 : Hid (MapIs s1.V has val) := by
                  rcases HACT.out with ⟨h, _⟩ | ⟨_, _, h⟩ | ⟨_, _, _, h⟩
                  · exact absurd h he
                  · exact h
                  · exact h
                have hed : ((e1 : Int) == 0) = false := by rw [beq_eq_false_iff_ne]; exact he
                go_wp2_with fail
                go_meet
                exact ⟨has, val, HM2, HA5, HRA5, HRB5, HB5⟩
            case rest =>
              clear HA5 HRA5 HRB5 HB5 HQ5 ck fk HACT HVA HVE
              obtain ⟨has', val', HM2, HA2, HRA2, HRB2, HB2⟩ := hcut
              have HLS := Lib.hid (HA2.out.at.list (by omega))
              have hsrt : Srt s1.V := HI2.out.1.srt
              have hlen := HM2.out.len hsrt
              obtain ⟨Lw, hLw⟩ : ∃ L, s1.V.length = L := ⟨_, rfl⟩
              have hLl : Lw ≤ 64 := by
                obtain ⟨DS, m, h1, h2, h3⟩ := HA2.out.s
                have := h1.map.len h1.srt
                omega
              rw [hLw] at HLS hlen
              have HLW := Lib.hid hLw
              have HSRT := Lib.hid hsrt
              have HLEN := Lib.hid hlen
              clear hLw hsrt hlen
              go_wp2_with fail
              refine HLS.out.mono ?_
              rintro e w8 ⟨gw, rfl, hgw, hvs, b8⟩
              have HVS := Lib.hid hvs
              have HRA8 := Lib.hid (HRA2.out.ch (Ch.of_below b8 (fun _ => False)) id)
              have HRB8 := Lib.hid (HRB2.out.ch (Ch.of_below b8 (fun _ => False)) id)
              have HA8 := Lib.hid (HA2.out.below b8)
              have HB8 : Hid (Below w.heap.size w w8) := HB2.out.trans (b8.mono HB2.out.size)
              have HL2 := Lib.hid HLEN.out
              clear hvs b8 hgw HLS HRA2 HRB2 HA2 HB2
              go_wp2_with fail
              go_loop [16, 17] (fun x16 z => ∃ j : Nat, j ≤ 6 ∧ x16 = .int .i64 (cnt has' j : Nat) ∧ z = .int .i64 (j : Int)) (fun _ z => 6 - (intOf z).toNat)
              case atStart => exact ⟨0, by omega, rfl, rfl⟩
              case round =>
                obtain ⟨j, hj, rfl, rfl⟩ := hrel
                by_cases hj6 : j < 6
                · have y1 : (j : Int) < 6 := by omega
                  obtain ⟨ne, hne⟩ : ∃ s : ByteArray, s = ⟨(nmJ j).toArray⟩ := ⟨_, rfl⟩
                  have hnl : ne.data.toList = nmJ j := by rw [hne]
                  have hnz : ne.size ≤ 24 := by
                    have h9 := (nameOf_len (j : Int)).2
                    rw [nameOf_nat j hj6] at h9
                    rw [bsz, hnl]; exact h9
                  have HNM : Hid (Calls Try.prog 19 #[.int .i64 (j : Int)] w8 fun e w' => e = .returned (.string ne) ∧ w8 = w') := by
                    have := name_any (j : Int) w8
                    rw [nameOf_nat j hj6] at this
                    rw [hne]; exact this
                  have HFD := Lib.hid (find_any HVS.out HLW.out ne)
                  have HGT := Lib.hid (HA8.out.at.get (k := ne) (by omega))
                  have hg := HM2.out.1 j hj6
                  rw [hnl] at HFD HGT
                  unfold getS at HGT
                  have hcn := cnt_succ has' j
                  have hcl : cnt has' j ≤ 6 := by
                    unfold cnt
                    have := List.length_filter_le has' (List.range j)
                    rw [List.length_range] at this
                    omega
                  have ca := HRA8.out.cell hj6
                  have cb := HRB8.out.cell hj6
                  clear hne hnl
                  generalize cnt has' j = cj at *
                  cases hh : has' j
                  · rw [hh, if_neg (by simp)] at hg hcn
                    rw [hg] at HFD HGT
                    simp only [findV, Option.getD_none, Option.isSome_none] at HFD HGT
                    rw [hh] at ca
                    clear hg hh
                    go_wp2_with fail
                    refine HNM.out.mono ?_
                    rintro e w' ⟨rfl, rfl⟩
                    go_wp2_with fail
                    refine HFD.out.mono ?_
                    rintro e w' ⟨rfl, rfl⟩
                    go_wp2_with fail
                    refine HNM.out.mono ?_
                    rintro e w' ⟨rfl, rfl⟩
                    go_wp2_with fail
                    refine HGT.out.mono ?_
                    rintro e w' ⟨rfl, rfl⟩
                    go_wp2_with fail
                    go_round
                    case rel => exact ⟨j + 1, by omega, by rw [hcn]; rfl, by go_num⟩
                    case measure => simp [intOf]; omega
                  · rw [hh, if_pos rfl] at hg hcn
                    rw [hg] at HFD HGT
                    simp only [findV, Option.getD_some, Option.isSome_some] at HFD HGT
                    obtain ⟨vb, hvb⟩ : ∃ s : ByteArray, s = ⟨(val' j).toArray⟩ := ⟨_, rfl⟩
                    rw [show str (val' j) = .string vb by rw [hvb]] at HFD HGT cb
                    rw [hh] at ca
                    clear hg hh hvb
                    go_wp2_with fail
                    refine HNM.out.mono ?_
                    rintro e w' ⟨rfl, rfl⟩
                    go_wp2_with fail
                    refine HFD.out.mono ?_
                    rintro e w' ⟨rfl, rfl⟩
                    go_wp2_with fail
                    refine HNM.out.mono ?_
                    rintro e w' ⟨rfl, rfl⟩
                    go_wp2_with fail
                    refine HGT.out.mono ?_
                    rintro e w' ⟨rfl, rfl⟩
                    go_wp2_with fail
                    go_round
                    case rel => exact ⟨j + 1, by omega, by rw [hcn]; go_num, by go_num⟩
                    case measure => simp [intOf]; omega
                · have ej : j = 6 := by omega
                  subst ej
                  rw [← HLEN.out]
                  have HB0 : Hid (Below w8.heap.size w8 w8) := Below.refl _ _
                  go_wp2_with fail
                  go_loopw [22] (fun z wr => ∃ jj : Nat, (jj = 0 ∨ jj < Lw) ∧ jj ≤ 64 ∧ z = .int .i64 ((jj : Int) + 1) ∧ Hid (Below w8.heap.size w8 wr)) (fun z _ => Lw + 1 - (intOf z).toNat)
                  case atStart => exact ⟨0, .inl rfl, by omega, rfl, HB0⟩
                  case round =>
                    clear HB0
                    obtain ⟨jj, hjj, hj64, rfl, HBj⟩ := hrel
                    by_cases hjl : jj + 1 < Lw
                    · have y2 : (jj : Int) + 1 < Lw := by omega
                      have y3 : (jj : Int) < Lw := by omega
                      have hwj : IntKind.i64.wrap (jj : Int) = (jj : Int) := IntWalk.i64_in _ ⟨by omega, by omega⟩
                      have hV1 : jj + 1 < s1.V.length := by rw [HLW.out]; exact hjl
                      have hVj := HVS.out.below HBj.out
                      obtain ⟨g3, hg3, _, cw⟩ := hVj.2.2 (by intro e; rw [e] at hV1; cases hV1)
                      injection hg3 with hg3
                      injection hg3 with hg3
                      subst hg3
                      have ca := (cw jj (by omega)).1
                      have cb := (cw (jj + 1) hV1).1
                      have e1 : s1.V.getD jj ([], []) = s1.V[jj] := by rw [List.getD_eq_getElem?_getD, List.getElem?_eq_getElem (by omega)]; rfl
                      have e2 : s1.V.getD (jj + 1) ([], []) = s1.V[jj + 1] := by rw [List.getD_eq_getElem?_getD, List.getElem?_eq_getElem hV1]; rfl
                      have hlt2 : (s1.V.getD jj ([], [])).1 < (s1.V.getD (jj + 1) ([], [])).1 := by
                        rw [e1, e2]
                        exact List.pairwise_iff_getElem.1 HSRT.out jj (jj + 1) (by omega) hV1 (Nat.lt_succ_self _)
                      obtain ⟨ka, hka⟩ : ∃ s : ByteArray, s = ⟨(s1.V.getD jj ([], [])).1.toArray⟩ := ⟨_, rfl⟩
                      obtain ⟨kb, hkb⟩ : ∃ s : ByteArray, s = ⟨(s1.V.getD (jj + 1) ([], [])).1.toArray⟩ := ⟨_, rfl⟩
                      have hlt3 : ka.data.toList < kb.data.toList := by rw [hka, hkb]; exact hlt2
                      have hbl : Op.bytesLess ka.toList kb.toList = true := by rw [Go.Proofs.bytesLess_eq, ByteArray.toList_eq, ByteArray.toList_eq]; simpa using hlt3
                      rw [show str (s1.V.getD jj ([], [])).1 = .string ka by rw [hka]] at ca
                      rw [show str (s1.V.getD (jj + 1) ([], [])).1 = .string kb by rw [hkb]] at cb
                      have S9 : Hid (wr.drew.cell? ⟨gw, jj * 2, none⟩ = some (.string ka) ∧ wr.drew.cell? ⟨gw, (jj + 1) * 2, none⟩ = some (.string kb)) := ⟨ca, cb⟩
                      have HB9 : Hid (Below w8.heap.size w8 wr.drew) := HBj.out.drew
                      clear cw ca cb e1 e2 hlt2 hka hkb hVj HBj
                      go_wp2_with fail
                      refine wp_region_pl (fun Y => Y.cell? ⟨gw, jj * 2, none⟩ = some (.string ka) ∧ Y.cell? ⟨gw, (jj + 1) * 2, none⟩ = some (.string kb)) ((0, 0) :: (1, 0) :: (2, 0) :: (3, 0) :: (4, 0) :: (5, 0) :: (6, 0) :: (7, 0) :: (8, 0) :: (9, 0) :: (10, 0) :: (11, 0) :: []) (by kernel_rfl) (by kernel_rfl) ?_
                      iterate 11 (apply wpP_go; (focus rfl); (focus rfl); (focus exact S9.out); (focus (rintro Z ⟨s0, s1⟩; go_simp; exact rfl)); intro K hK; go_simp; refine hK _ ?_; clear hK K)
                      iterate 1 (apply wpP_go; (focus rfl); (focus rfl); (focus exact S9.out); (focus (rintro Z ⟨s0, s1⟩; go_simp; exact rfl)); intro K hK; go_simp; refine hK _ ?_; clear hK K)
                      refine wpP_done ?_
                      clear S9
                      generalize wr.drew = w9 at *
                      go_wp2_with fail
                      exact ⟨⟨jj + 1, .inr hjl, by omega, by go_num, HB9⟩, by simp [intOf]; omega⟩
                    · have y2 : ¬ (jj : Int) + 1 < Lw := by omega
                      have HAj := Lib.hid (HA8.out.below HBj.out)
                      have HRAj := Lib.hid (HRA8.out.ch (Ch.of_below HBj.out (fun _ => False)) id)
                      have HRBj := Lib.hid (HRB8.out.ch (Ch.of_below HBj.out (fun _ => False)) id)
                      have HBw : Hid (Below w.heap.size w wr) := HB8.out.trans (HBj.out.mono HB8.out.size)
                      go_wp2_with fail
                      go_roundw
                      case rel => exact ⟨i + 1, f1, s1, has', val', by omega, by go_num, HAj, HI2, HM2, HRAj, HRBj, HBw⟩
                      case measure => simp [intOf]; omega
      · have y0 : ¬ (i : Int) < len := by omega
        have HAW := Lib.hid (awake_any wo)
        go_wp2_with fail
        refine HAW.out.mono ?_
        rintro e w4 ⟨rfl, b4⟩
        have HB4 : Hid (Below w.heap.size w w4) := HB.out.trans (b4.mono HB.out.size)
        clear b4 HAW
        go_wp2_with fail
        go_ret
        exact ⟨rfl, HB4.out⟩
end Go.Proofs.Ytfglopkglnpokaa
