/- VarstorePowerLossIsAtomic walked. No condition. -/
import Derived.Test.YtfglopkglnpokaaLI
namespace Go.Proofs.Ytfglopkglnpokaa
open Go.RowKit
/-- The boxed call can be read. -/
def BX (w : World) (T : Nat) (c : CV) : Prop := w.cell? ⟨T, 0, none⟩ = some (.int .i64 c.kd) ∧ w.cell? ⟨T, 1, none⟩ = some (.int .i64 c.nm) ∧ w.cell? ⟨T, 2, none⟩ = some (.int .i64 c.ln) ∧ w.cell? ⟨T, 3, none⟩ = some (.int .u8 (c.fi.toNat : Int))
theorem BX.below {w w' : World} {T B0 : Nat} {c : CV} (h : BX w T c) (b : Below B0 w w') (hT : T < B0) : BX w' T c :=
  ⟨(b.cell (p := ⟨T, 0, none⟩) hT).trans h.1, (b.cell (p := ⟨T, 1, none⟩) hT).trans h.2.1, (b.cell (p := ⟨T, 2, none⟩) hT).trans h.2.2.1, (b.cell (p := ⟨T, 3, none⟩) hT).trans h.2.2.2⟩
theorem BX.made (w : World) (c : CV) : BX (w.alloc (.cells #[.int .i64 c.kd, .int .i64 c.nm, .int .i64 c.ln, .int .u8 (c.fi.toNat : Int)] 36)) w.heap.size c :=
  have h := Row.ofList w 36 #[.int .i64 c.kd, .int .i64 c.nm, .int .i64 c.ln, .int .u8 (c.fi.toNat : Int)] (fun i => (cvc c).getD i (.bool false)) 4 rfl
  ⟨h.cell (i := 0) (by omega), h.cell (i := 1) (by omega), h.cell (i := 2) (by omega), h.cell (i := 3) (by omega)⟩
/-- The block of this list. -/
def ExV (V : Vars) (g k : Nat) : Prop := V ≠ [] ∧ k = g
theorem VS.keep {w w' : World} {N g cap : Nat} {V : Vars} (h : VS w (some ⟨g, 0, none⟩) cap V) (c : Ch (fun k => N ≤ k ∧ ¬ ExV V g k) w w') : VS w' (some ⟨g, 0, none⟩) cap V := by
  by_cases hV : V = []
  · exact ⟨h.1, h.2.1, fun hne => absurd hV hne⟩
  · refine h.ch c fun g' e h9 => ?_
    injection e with e
    injection e with e
    subst e
    exact h9.2 ⟨hV, rfl⟩
theorem AT.exv {w w' : World} {N S X n g cap : Nat} {y : FLay} {D : Nat → Prop} {fl : FL} {st : ST} {V : Vars} (h : AT w N S X y D n fl st) (b : Below w.heap.size w w') (hg : w.heap.size ≤ g) (hv : VS w' (some ⟨g, 0, none⟩) cap V) : AX w' N (ExV V g) S X y D n fl st := by
  refine h.ax b fun k hk => ?_
  obtain ⟨h1, rfl⟩ := hk
  obtain ⟨g', e, hl, _⟩ := hv.2.2 h1
  injection e with e
  injection e with e
  subst e
  exact ⟨hg, hl⟩
set_option maxRecDepth 100000 in
set_option maxHeartbeats 2000000 in
theorem power_any (rB rP rE : Int) (a : Option Addr) (len cap : Nat) (l : List CV) (c : CV) (cut torn : Int) (w : World) (hl : CallS w a len cap l) (_ : -9223372036854775808 ≤ cut ∧ cut ≤ 9223372036854775807) (htorn : 0 ≤ torn ∧ torn ≤ 18446744073709551615) :
    Calls Try.prog 6 #[fsV rB rP rE, .slice a len cap, cva c, .int .i64 cut, .int .u64 torn] w fun e w' => e = .returned (.bool true) ∧ Below w.heap.size w w' := by
  unfold cva
  obtain ⟨tn, rfl⟩ : ∃ t : Nat, torn = (t : Int) := ⟨torn.toNat, by omega⟩
  have HL := Lib.hid hl
  have hcap : len ≤ cap := hl.2.1
  have hcapM := hl.2.2.1
  unfold maxLen at hcapM
  clear hl
  obtain ⟨T, hT⟩ : ∃ T, w.heap.size + 1 = T := ⟨_, rfl⟩
  have hsz : (w.alloc (.cells #[.int .i64 rB, .int .i64 rP, .int .i64 rE] 23)).heap.size = T := by simp [hT]
  have hB1 : Below w.heap.size w (w.alloc (.cells #[.int .i64 rB, .int .i64 rP, .int .i64 rE] 23)) := (Below.refl _ _).alloc (Nat.le_refl _) _
  have r0 := Row.ofList w 23 #[.int .i64 rB, .int .i64 rP, .int .i64 rE] (fsc rB rP rE) 3 rfl
  have q0 := r0.cell (i := 0) (by omega)
  have q1 := r0.cell (i := 1) (by omega)
  have q2 := r0.cell (i := 2) (by omega)
  have HBX := Lib.hid (BX.made (w.alloc (.cells #[.int .i64 rB, .int .i64 rP, .int .i64 rE] 23)) c)
  have hbb : Below (w.alloc (.cells #[.int .i64 rB, .int .i64 rP, .int .i64 rE] 23)).heap.size (w.alloc (.cells #[.int .i64 rB, .int .i64 rP, .int .i64 rE] 23)) ((w.alloc (.cells #[.int .i64 rB, .int .i64 rP, .int .i64 rE] 23)).alloc (.cells #[.int .i64 c.kd, .int .i64 c.nm, .int .i64 c.ln, .int .u8 (c.fi.toNat : Int)] 36)) := (Below.refl _ _).alloc (Nat.le_refl _) _
  have z0 : ((w.alloc (.cells #[.int .i64 rB, .int .i64 rP, .int .i64 rE] 23)).alloc (.cells #[.int .i64 c.kd, .int .i64 c.nm, .int .i64 c.ln, .int .u8 (c.fi.toNat : Int)] 36)).cell? ⟨w.heap.size, 0, none⟩ = some (.int .i64 rB) := (hbb.cell (p := ⟨w.heap.size, 0, none⟩) (by show w.heap.size < _; omega)).trans q0
  have z1 : ((w.alloc (.cells #[.int .i64 rB, .int .i64 rP, .int .i64 rE] 23)).alloc (.cells #[.int .i64 c.kd, .int .i64 c.nm, .int .i64 c.ln, .int .u8 (c.fi.toNat : Int)] 36)).cell? ⟨w.heap.size, 1, none⟩ = some (.int .i64 rP) := (hbb.cell (p := ⟨w.heap.size, 1, none⟩) (by show w.heap.size < _; omega)).trans q1
  have z2 : ((w.alloc (.cells #[.int .i64 rB, .int .i64 rP, .int .i64 rE] 23)).alloc (.cells #[.int .i64 c.kd, .int .i64 c.nm, .int .i64 c.ln, .int .u8 (c.fi.toNat : Int)] 36)).cell? ⟨w.heap.size, 2, none⟩ = some (.int .i64 rE) := (hbb.cell (p := ⟨w.heap.size, 2, none⟩) (by show w.heap.size < _; omega)).trans q2
  have HB0 : Hid (Below w.heap.size w ((w.alloc (.cells #[.int .i64 rB, .int .i64 rP, .int .i64 rE] 23)).alloc (.cells #[.int .i64 c.kd, .int .i64 c.nm, .int .i64 c.ln, .int .u8 (c.fi.toNat : Int)] 36))) := hB1.alloc hB1.size _
  have hsz2 : ((w.alloc (.cells #[.int .i64 rB, .int .i64 rP, .int .i64 rE] 23)).alloc (.cells #[.int .i64 c.kd, .int .i64 c.nm, .int .i64 c.ln, .int .u8 (c.fi.toNat : Int)] 36)).heap.size = T + 1 := by simp [hT]
  rw [hsz] at HBX
  clear r0 q0 q1 q2 hbb hB1
  go_enter Try.func6, Try.ntmps6
  go_upto_region 1 with fail
  generalize (w.alloc (.cells #[.int .i64 rB, .int .i64 rP, .int .i64 rE] 23)).alloc (.cells #[.int .i64 c.kd, .int .i64 c.nm, .int .i64 c.ln, .int .u8 (c.fi.toNat : Int)] 36) = w0 at *
  by_cases hbig : 20 < len
  · have hbI : (len : Int) > 20 := by omega
    have HAW := Lib.hid (awake_any w0)
    go_wp2_with fail
    refine HAW.out.mono ?_
    rintro e w1 ⟨rfl, b1⟩
    have HB1 : Hid (Below w.heap.size w w1) := HB0.out.trans (b1.mono HB0.out.size)
    clear b1 HAW HB0
    go_wp2_with fail
    go_ret
    exact ⟨rfl, HB1.out⟩
  have hbI : ¬ (len : Int) > 20 := by omega
  have HSH := Lib.hid (shape_law rB rP rE w0)
  have hB := shB_le rB
  have hP := shP_le rP
  have hE := shE_le rE
  generalize shB rB = B at *
  generalize shP rP = P at *
  generalize shE rE = E at *
  go_wp2_with fail
  refine HSH.out.mono ?_
  rintro e w1 ⟨rfl, b1⟩
  have HB1 : Hid (Below w.heap.size w w1) := HB0.out.trans (b1.mono HB0.out.size)
  have HX1 : Hid (BX w1 T c) := HBX.out.below b1 (by omega)
  have hTN : T < w1.heap.size := by have := b1.size; omega
  clear b1 HSH HB0 HBX z0 z1 z2 hsz hsz2
  go_wp2_with fail
  refine (open_law w1 B P E ⟨by omega, by omega⟩ ⟨by omega, by omega⟩ (by omega)).mono ?_
  rintro e w3 ⟨S, X, y, D, f1, rfl, ha, hI, hS, her, hc, hbl, b3⟩
  have HI : Hid (Inv f1 st0 ∧ f1.cut = false ∧ st0.gen ≤ 1 + 0) := ⟨hI, hc, Nat.le_refl _⟩
  have HK : Hid (KeysIn st0.V) := fun p hp => (by cases hp)
  have HA : Hid (AT w3 w1.heap.size S X y D (32 + 0) f1 st0) := ha
  have HX3 : Hid (BX w3 T c) := HX1.out.below b3 hTN
  have HB3 : Hid (Below w.heap.size w w3) := HB1.out.trans (b3.mono HB1.out.size)
  have hNw : w.heap.size ≤ w1.heap.size := HB1.out.size
  obtain ⟨N, hN⟩ : ∃ N, w1.heap.size = N := ⟨_, rfl⟩
  rw [hN] at HA hNw hTN
  clear ha hI hS her hc hbl b3 hN HB1 HX1 hT hB hP hE
  go_wp2_with fail
  go_loopw [14] (fun z wr => ∃ (i : Nat) (fl : FL) (st : ST), i ≤ len ∧ z = .int .i64 (i : Int) ∧ Hid (AT wr N S X y D (32 + i) fl st) ∧ Hid (Inv fl st ∧ fl.cut = false ∧ st.gen ≤ 1 + i) ∧ Hid (KeysIn st.V) ∧ Hid (BX wr T c) ∧ Hid (Below w.heap.size w wr)) (fun z _ => len - (intOf z).toNat)
  case atStart => exact ⟨0, f1, st0, by omega, rfl, HA, HI, HK, HX3, HB3⟩
  case round =>
    clear HA HI HK HX3 HB3
    obtain ⟨i, fl, st, hi, rfl, HA, HI, HK, HX, HB⟩ := hrel
    by_cases hlt : i < len
    · have y0 : (i : Int) < len := by omega
      obtain ⟨bb, o, ci, rfl, _, _, q0, q1, q2, q3⟩ := (HL.out.below HB.out (Nat.le_refl _)).at hlt
      have hcs := doF_cases HI.out.1 (by have := HI.out.2.2; omega) ci.kd ci.nm ci.ln ci.fi
      have hkey := hcs.keys HI.out.2.1 HK.out
      have hcalm := hcs.calm HI.out.1 HI.out.2.1
      have hdoC : doF fl st ci.kd ci.nm ci.ln ci.fi = doC fl st ci := rfl
      rw [hdoC] at hcalm hkey
      obtain ⟨e1, f1, s1, hr1⟩ : ∃ e f s, doC fl st ci = (e, f, s) := ⟨_, _, _, rfl⟩
      rw [hr1] at hcalm hkey
      simp only at hcalm hkey
      have HI2 : Hid (Inv f1 s1 ∧ f1.cut = false ∧ s1.gen ≤ 1 + (i + 1)) := ⟨hcalm.1, hcalm.2.1, by have := hcalm.2.2.2.1; have := HI.out.2.2; omega⟩
      have HK2 := Lib.hid hkey
      have HDO : Hid (Calls Try.prog 13 #[fptr S, .agg #[.int .i64 ci.kd, .int .i64 ci.nm, .int .i64 ci.ln, .int .u8 (ci.fi.toNat : Int)]] wr fun e w' => e = .returned (.int .i64 e1) ∧ AT w' N S X y D (32 + i + 1) f1 s1 ∧ Below N wr w') := by
        have := HA.out.do HI.out.1.blk (by omega) ci
        rw [hr1] at this
        exact this
      clear hcs hcalm hkey hdoC hr1
      go_wp2_with fail
      refine HDO.out.mono ?_
      rintro e w4 ⟨rfl, ha, b4⟩
      have HA4 := Lib.hid ha
      have HX4 : Hid (BX w4 T c) := HX.out.below b4 hTN
      have HB4 : Hid (Below w.heap.size w w4) := HB.out.trans (b4.mono hNw)
      clear ha b4 HDO HA HB HX HK
      go_wp2_with fail
      go_roundw
      case rel => exact ⟨i + 1, f1, s1, by omega, by go_num, HA4, HI2, HK2, HX4, HB4⟩
      case measure => simp [intOf]; omega
    · have y0 : ¬ (i : Int) < len := by omega
      have hi20 : i ≤ 20 := by omega
      have HLS := Lib.hid (HA.out.list (by omega))
      obtain ⟨Lw, hLw⟩ : ∃ L, st.V.length = L := ⟨_, rfl⟩
      have HLW := Lib.hid hLw
      rw [hLw] at HLS
      clear hLw
      have HMC : Hid (∀ w, Calls Try.prog 15 #[.int .i64 cut, .int .i64 8] w fun e w' => e = .returned (.int .i64 ((mo cut 8 : Nat) : Int)) ∧ w = w') := fun w => mod_any cut 8 w (by omega) (by omega)
      have hk8 : mo cut 8 < 8 := mo_lt cut 8 (by omega)
      generalize mo cut 8 = kc at *
      go_wp2_with fail
      refine HLS.out.mono ?_
      rintro e w6 ⟨gw, rfl, hg, hv, b6⟩
      have HA6 := Lib.hid (HA.out.exv b6 hg hv)
      have HV6 := Lib.hid hv
      have HX6 : Hid (BX w6 T c) := HX.out.below b6 (Nat.lt_of_lt_of_le hTN HA.out.N_le)
      have HB6 : Hid (Below w.heap.size w w6) := HB.out.trans (b6.mono HB.out.size)
      clear hg hv b6 HLS HA HX HB
      have HM6 := Lib.hid (HMC.out w6)
      go_wp2_with fail
      refine HM6.out.mono ?_
      rintro e w' ⟨rfl, rfl⟩
      have HCA := Lib.hid (HA6.out.cut (kc : Int) tn (by omega) (by omega))
      clear HM6 HMC
      go_wp2_with fail
      refine HCA.out.mono ?_
      rintro e w7 ⟨rfl, ha, c7⟩
      have b7 : Below N w6 w7 := c7.below HA6.out.at.N_le (fun k hk => hk.1)
      have HA7 := Lib.hid ha
      have HV7 := Lib.hid (HV6.out.keep c7)
      have HX7 : Hid (BX w7 T c) := HX6.out.below b7 hTN
      have HB7 : Hid (Below w.heap.size w w7) := HB6.out.trans (b7.mono hNw)
      have HI7 : Hid (Inv (cutF fl kc tn) st) := HI.out.1.cutF kc tn
      have HG7 := Lib.hid HI.out.2.2
      clear ha c7 b7 HCA HA6 HV6 HX6 HB6 HI
      generalize cutF fl kc tn = fl at *
      have hp := DoR.power HI7.out (doF_cases HI7.out (by have := HG7.out; omega) c.kd c.nm c.ln c.fi)
      obtain ⟨e2, f2, s2, hr2⟩ : ∃ e f s, doC fl st c = (e, f, s) := ⟨_, _, _, rfl⟩
      have hdoC : doF fl st c.kd c.nm c.ln c.fi = doC fl st c := rfl
      rw [hdoC, hr2] at hp
      have HP := Lib.hid hp
      have HDO : Hid (Calls Try.prog 13 #[fptr S, .agg #[.int .i64 c.kd, .int .i64 c.nm, .int .i64 c.ln, .int .u8 (c.fi.toNat : Int)]] w7 fun e w' => e = .returned (.int .i64 e2) ∧ AX w' N (ExV st.V gw) S X y D (32 + i + 1) f2 s2 ∧ Ch (fun k => N ≤ k ∧ ¬ ExV st.V gw k) w7 w') := by
        have := HA7.out.do HI7.out.blk (by omega) c
        rw [hr2] at this
        exact this
      have q0 := HX7.out.1
      have q1 := HX7.out.2.1
      have q2 := HX7.out.2.2.1
      have q3 := HX7.out.2.2.2
      clear hp hr2 hdoC
      go_wp2_with fail
      refine HDO.out.mono ?_
      rintro e w8 ⟨rfl, ha, c8⟩
      have b8 : Below N w7 w8 := c8.below HA7.out.at.N_le (fun k hk => hk.1)
      have HA8 := Lib.hid ha
      have HV8 := Lib.hid (HV7.out.keep c8)
      have HX8 : Hid (BX w8 T c) := HX7.out.below b8 hTN
      have HB8 : Hid (Below w.heap.size w w8) := HB7.out.trans (b8.mono hNw)
      clear ha c8 b8 HDO HA7 HV7 HX7 HB7 q0 q1 q2 q3
      rcases HP.out with ⟨e', g', s', h1, h2, h3, h4⟩ | ⟨hc, g', s', h1, h2⟩
      · injection h1 with h1 h5
        injection h5 with h5 h6
        subst h1 h5 h6
        have HI2 := Lib.hid h3
        clear h3 h4 HP HI7 HG7 HK
        rcases h2 with rfl | ⟨h2, hst, _⟩
        · skip
          have HN1 := Lib.hid (HA8.out.list (by omega))
          obtain ⟨L2, hL2⟩ : ∃ L, s2.V.length = L := ⟨_, rfl⟩
          have HLW2 := Lib.hid hL2
          rw [hL2] at HN1
          clear hL2
          go_wp2_with fail
          refine HN1.out.mono ?_
          rintro e w9 ⟨g1, rfl, ha, hv1, b9⟩
          have HA9 := Lib.hid ha
          have HN := Lib.hid hv1
          have HV9 := Lib.hid (HV8.out.below b9)
          have HB9 : Hid (Below w.heap.size w w9) := HB8.out.trans (b9.mono HB8.out.size)
          have HOP := Lib.hid (HA9.out.open HI2.out)
          clear ha hv1 b9 HA8 HV8 HB8 HN1
          go_wp2_with fail
          refine HOP.out.mono ?_
          rintro e w10 ⟨S', rfl, ha, b10⟩
          have HN10 := Lib.hid (HN.out.below b10)
          have HV10 := Lib.hid (HV9.out.below b10)
          have HB10 : Hid (Below w.heap.size w w10) := HB9.out.trans (b10.mono HB9.out.size)
          have HN2 := Lib.hid (ha.list (by omega))
          rw [HLW2.out] at HN2
          clear ha b10 HA9 HV9 HB9 HN HOP
          go_wp2_with fail
          refine HN2.out.mono ?_
          rintro e w11 ⟨g2, rfl, _, hv2, b11⟩
          have HEQ := Lib.hid (equalV_any hv2 (HN10.out.below b11) HLW2.out HLW2.out)
          rw [show decide (s2.V = s2.V) = true by simp] at HEQ
          have HN11 := Lib.hid (HN10.out.below b11)
          have HV11 := Lib.hid (HV10.out.below b11)
          have HB11 : Hid (Below w.heap.size w w11) := HB10.out.trans (b11.mono HB10.out.size)
          clear hv2 b11 HN10 HV10 HB10 HN2
          go_wp2_with fail
          refine HEQ.out.mono ?_
          rintro e w12 ⟨rfl, c12⟩
          have HN12 := Lib.hid (HN11.out.ch c12 (fun _ _ h => h))
          have HV12 := Lib.hid (HV11.out.ch c12 (fun _ _ h => h))
          have HB12 : Hid (Below w.heap.size w w12) := HB11.out.trans ((c12.below (B := w11.heap.size) (Nat.le_refl _) (fun _ h => h.elim)).mono HB11.out.size)
          clear c12 HN11 HV11 HB11 HEQ
          have HB13 := HB12
          have HAW := Lib.hid (awake_any w12)
          go_wp2_with fail
          refine HAW.out.mono ?_
          rintro e w14 ⟨rfl, b14⟩
          have HB14 : Hid (Below w.heap.size w w14) := HB13.out.trans (b14.mono HB13.out.size)
          clear b14 HAW
          go_wp2_with fail
          go_ret
          exact ⟨rfl, HB14.out⟩
        · rcases h2 with rfl | rfl
          all_goals
            have HN1 := Lib.hid (HA8.out.list (by omega))
            obtain ⟨L2, hL2⟩ : ∃ L, s2.V.length = L := ⟨_, rfl⟩
            have HLW2 := Lib.hid hL2
            rw [hL2] at HN1
            clear hL2
            go_wp2_with fail
            refine HN1.out.mono ?_
            rintro e w9 ⟨g1, rfl, ha, hv1, b9⟩
            have HA9 := Lib.hid ha
            have HN := Lib.hid hv1
            have HV9 := Lib.hid (HV8.out.below b9)
            have HB9 : Hid (Below w.heap.size w w9) := HB8.out.trans (b9.mono HB8.out.size)
            have HOP := Lib.hid (HA9.out.open HI2.out)
            clear ha hv1 b9 HA8 HV8 HB8 HN1
            go_wp2_with fail
            refine HOP.out.mono ?_
            rintro e w10 ⟨S', rfl, ha, b10⟩
            have HN10 := Lib.hid (HN.out.below b10)
            have HV10 := Lib.hid (HV9.out.below b10)
            have HB10 : Hid (Below w.heap.size w w10) := HB9.out.trans (b10.mono HB9.out.size)
            have HN2 := Lib.hid (ha.list (by omega))
            rw [HLW2.out] at HN2
            clear ha b10 HA9 HV9 HB9 HN HOP
            go_wp2_with fail
            refine HN2.out.mono ?_
            rintro e w11 ⟨g2, rfl, _, hv2, b11⟩
            have HEQ := Lib.hid (equalV_any hv2 (HN10.out.below b11) HLW2.out HLW2.out)
            rw [show decide (s2.V = s2.V) = true by simp] at HEQ
            have HN11 := Lib.hid (HN10.out.below b11)
            have HV11 := Lib.hid (HV10.out.below b11)
            have HB11 : Hid (Below w.heap.size w w11) := HB10.out.trans (b11.mono HB10.out.size)
            clear hv2 b11 HN10 HV10 HB10 HN2
            go_wp2_with fail
            refine HEQ.out.mono ?_
            rintro e w12 ⟨rfl, c12⟩
            have HN12 := Lib.hid (HN11.out.ch c12 (fun _ _ h => h))
            have HV12 := Lib.hid (HV11.out.ch c12 (fun _ _ h => h))
            have HB12 : Hid (Below w.heap.size w w12) := HB11.out.trans ((c12.below (B := w11.heap.size) (Nat.le_refl _) (fun _ h => h.elim)).mono HB11.out.size)
            clear c12 HN11 HV11 HB11 HEQ
            have HEQ2 := Lib.hid (equalV_any HN12.out HV12.out HLW2.out HLW.out)
            rw [show decide (s2.V = st.V) = true by rw [hst]; simp] at HEQ2
            go_wp2_with fail
            refine HEQ2.out.mono ?_
            rintro e w13 ⟨rfl, c13⟩
            have HB13 : Hid (Below w.heap.size w w13) := HB12.out.trans ((c13.below (B := w12.heap.size) (Nat.le_refl _) (fun _ h => h.elim)).mono HB12.out.size)
            have HAW := Lib.hid (awake_any w13)
            go_wp2_with fail
            refine HAW.out.mono ?_
            rintro e w14 ⟨rfl, b14⟩
            have HB14 : Hid (Below w.heap.size w w14) := HB13.out.trans (b14.mono HB13.out.size)
            clear b14 HAW
            go_wp2_with fail
            go_ret
            exact ⟨rfl, HB14.out⟩
      · injection h1 with h1 h5
        injection h5 with h5 h6
        subst h1 h5
        have h6' := h6.symm
        subst h6'
        obtain ⟨hoff, hIn, hVd, _⟩ := h2
        have HI2 := Lib.hid hIn
        have HVD := Lib.hid hVd
        have HON := Lib.hid HA8.out.on
        have hon : onF f2 = (0, f2.on) := by unfold onF; rw [if_pos hoff]; rfl
        rw [hon] at HON
        clear hoff hIn hVd hc HP HI7 HG7 hon
        go_wp2_with fail
        refine HON.out.mono ?_
        rintro e w9 ⟨rfl, ha, c9⟩
        have b9 : Below N w8 w9 := c9.below HA8.out.at.N_le (fun k hk => hk.1)
        have HA9 : Hid (AX w9 N (ExV st.V gw) S X y D (32 + i + 1) f2.on st) := ha
        have HV9 := Lib.hid (HV8.out.keep c9)
        have HX9 : Hid (BX w9 T c) := HX8.out.below b9 hTN
        have HB9 : Hid (Below w.heap.size w w9) := HB8.out.trans (b9.mono hNw)
        have HOP := Lib.hid (HA9.out.open HI2.out)
        clear ha c9 b9 HA8 HV8 HX8 HB8 HON
        go_wp2_with fail
        refine HOP.out.mono ?_
        rintro e w10 ⟨S', rfl, ha, b10⟩
        have HA10 := Lib.hid ha
        have HV10 := Lib.hid (HV9.out.below b10)
        have HX10 : Hid (BX w10 T c) := HX9.out.below b10 (Nat.lt_of_lt_of_le hTN HA9.out.at.N_le)
        have HB10 : Hid (Below w.heap.size w w10) := HB9.out.trans (b10.mono HB9.out.size)
        have HN2 := Lib.hid (HA10.out.list (by omega))
        obtain ⟨L2, hL2⟩ : ∃ L, s'.V.length = L := ⟨_, rfl⟩
        have HLW2 := Lib.hid hL2
        rw [hL2] at HN2
        clear ha b10 HA9 HV9 HX9 HB9 HOP hL2
        go_wp2_with fail
        refine HN2.out.mono ?_
        rintro e w11 ⟨g2, rfl, ha, hv2, b11⟩
        have HA11 := Lib.hid ha
        have HV11 := Lib.hid (HV10.out.below b11)
        have HX11 : Hid (BX w11 T c) := HX10.out.below b11 (Nat.lt_of_lt_of_le hTN HA10.out.at.N_le)
        have HB11 : Hid (Below w.heap.size w w11) := HB10.out.trans (b11.mono HB10.out.size)
        have HEQ := Lib.hid (equalV_any hv2 HV11.out HLW2.out HLW.out)
        clear ha hv2 b11 HA10 HV10 HX10 HB10 HN2
        by_cases hsame : s'.V = st.V
        · rw [show decide (s'.V = st.V) = true by simpa using hsame] at HEQ
          go_wp2_with fail
          refine HEQ.out.mono ?_
          rintro e w12 ⟨rfl, c12⟩
          have HB12 : Hid (Below w.heap.size w w12) := HB11.out.trans ((c12.below (B := w11.heap.size) (Nat.le_refl _) (fun _ h => h.elim)).mono HB11.out.size)
          have HAW := Lib.hid (awake_any w12)
          clear c12 HEQ HB11
          go_wp2_with fail
          refine HAW.out.mono ?_
          rintro e w14 ⟨rfl, b14⟩
          have HB14 : Hid (Below w.heap.size w w14) := HB12.out.trans (b14.mono HB12.out.size)
          clear b14 HAW
          go_wp2_with fail
          go_ret
          exact ⟨rfl, HB14.out⟩
        · have hnew : s'.V = doV st.V c.kd c.nm c.ln c.fi := by
            rcases HVD.out with h | h
            · exact absurd h hsame
            · exact h
          have HNEW := Lib.hid hnew
          rw [show decide (s'.V = st.V) = false by simpa using hsame] at HEQ
          clear hsame hnew HVD
          go_wp2_with fail
          refine HEQ.out.mono ?_
          rintro e w12 ⟨rfl, c12⟩
          have b12 : Below w11.heap.size w11 w12 := c12.below (Nat.le_refl _) (fun _ h => h.elim)
          have HA12 := Lib.hid (HA11.out.below b12)
          have HV12 := Lib.hid (HV11.out.below b12)
          have HX12 : Hid (BX w12 T c) := HX11.out.below b12 (Nat.lt_of_lt_of_le hTN HA11.out.at.N_le)
          have HB12 : Hid (Below w.heap.size w w12) := HB11.out.trans (b12.mono HB11.out.size)
          have q0 := HX12.out.1
          obtain ⟨k8, hk8e⟩ : ∃ k, mo c.kd 8 = k := ⟨_, rfl⟩
          have hk8l : k8 < 8 := by rw [← hk8e]; exact mo_lt _ _ (by omega)
          have HM8 : Hid (Calls Try.prog 15 #[.int .i64 c.kd, .int .i64 8] w12 fun e w' => e = .returned (.int .i64 ((mo c.kd 8 : Nat) : Int)) ∧ w12 = w') := mod_any c.kd 8 w12 (by omega) (by omega)
          rw [hk8e] at HM8
          have HDEL : Hid (isDel c.kd ↔ k8 = 5 ∨ k8 = 6) := by show _ ↔ _; unfold isDel; rw [hk8e]
          clear c12 b12 HEQ HA11 HV11 HX11 HB11 hk8e
          go_wp2_with fail
          refine HM8.out.mono ?_
          rintro e w' ⟨rfl, rfl⟩
          clear HM8 q0
          go_wp2_with fail
          obtain ⟨k6, hk6e⟩ : ∃ k, mo c.nm 6 = k := ⟨_, rfl⟩
          have hk6l : k6 < 6 := by rw [← hk6e]; exact mo_lt _ _ (by omega)
          have HK2 : Hid (KeysIn s'.V) := by show KeysIn _; rw [HNEW.out]; exact HK.out.doV _ _ _ _
          have HOTH : Hid (∀ j, j < 6 → j ≠ k6 → getV s'.V (nmJ j) = getV st.V (nmJ j)) := fun j hj hne => by rw [HNEW.out]; exact doV_other hj (by rw [hk6e]; exact hne)
          have HTHIS : Hid (getV s'.V (nmJ k6) = if isDel c.kd then none else some (valOf c.ln c.fi)) := by show _ = _; rw [HNEW.out, ← hk6e]; exact doV_this
          have HMN : Hid (∀ w, Calls Try.prog 15 #[.int .i64 c.nm, .int .i64 6] w fun e w' => e = .returned (.int .i64 ((k6 : Nat) : Int)) ∧ w = w') := fun w => by rw [← hk6e]; exact mod_any c.nm 6 w (by omega) (by omega)
          obtain ⟨ve, hve⟩ : ∃ s : ByteArray, s = ⟨(valOf c.ln c.fi).toArray⟩ := ⟨_, rfl⟩
          have HVE : Hid (str (valOf c.ln c.fi) = .string ve) := by show _ = _; rw [hve]
          have HVA : Hid (∀ w, Calls Try.prog 16 #[.agg #[.int .i64 c.kd, .int .i64 c.nm, .int .i64 c.ln, .int .u8 (c.fi.toNat : Int)]] w fun e w' => e = .returned (.string ve) ∧ Below w.heap.size w w') := fun w => by rw [hve]; exact value_any c.kd c.nm c.ln c.fi w
          clear hve hk6e HNEW HK
          go_loopw [23, 24] (fun x23 z wr => ∃ j : Nat, j ≤ 6 ∧ x23 = .int .i64 (cnt (hasN s'.V) j : Nat) ∧ z = .int .i64 (j : Int) ∧ Hid (AX wr N (ExV st.V gw) S' X y D 32 f2.on s') ∧ Hid (VS wr (some ⟨gw, 0, none⟩) Lw st.V) ∧ Hid (BX wr T c) ∧ Hid (Below w.heap.size w wr)) (fun _ z _ => 6 - (intOf z).toNat)
          case atStart => exact ⟨0, by omega, rfl, rfl, HA12, HV12, HX12, HB12⟩
          case round =>
            clear HA12 HV12 HX12 HB12
            obtain ⟨j, hj, rfl, rfl, HA, HV, HX, HB⟩ := hrel
            have HLS := Lib.hid (HA.out.list (by omega))
            rw [HLW2.out] at HLS
            have hcl : cnt (hasN s'.V) j ≤ 6 := by
              unfold cnt
              have := List.length_filter_le (hasN s'.V) (List.range j)
              rw [List.length_range] at this
              omega
            by_cases hj6 : j < 6
            · have y1 : (j : Int) < 6 := by omega
              obtain ⟨ne, hne⟩ : ∃ s : ByteArray, s = ⟨(nmJ j).toArray⟩ := ⟨_, rfl⟩
              have hnl : ne.data.toList = nmJ j := by rw [hne]
              have HNM : Hid (∀ w, Calls Try.prog 19 #[.int .i64 (j : Int)] w fun e w' => e = .returned (.string ne) ∧ w = w') := fun w => by
                have := name_any (j : Int) w
                rw [nameOf_nat j hj6] at this
                rw [hne]; exact this
              have hcn := cnt_succ (hasN s'.V) j
              have hhas : hasN s'.V j = (getV s'.V (nmJ j)).isSome := rfl
              rw [hhas] at hcn
              go_wp2_with fail
              refine HLS.out.mono ?_
              rintro e w5 ⟨g3, rfl, ha, hv3, b5⟩
              have HAn := Lib.hid ha
              have HVn := Lib.hid (HV.out.below b5)
              have HXn : Hid (BX w5 T c) := HX.out.below b5 (Nat.lt_of_lt_of_le hTN HA.out.at.N_le)
              have HBn : Hid (Below w.heap.size w w5) := HB.out.trans (b5.mono HB.out.size)
              have HF1 := Lib.hid (find_any hv3 HLW2.out ne)
              have HF2 := Lib.hid (find_any HVn.out HLW.out ne)
              have HNn := Lib.hid (HNM.out w5)
              have HMn := Lib.hid (HMN.out w5)
              rw [hnl] at HF1 HF2
              have q1 := HXn.out.2.1
              clear ha hv3 b5 HA HV HX HB HLS HNM hne hnl hhas
              by_cases hjk : j = k6
              · subst hjk
                rw [HTHIS.out] at HF1 hcn
                obtain ⟨ow, how⟩ : ∃ o, getV st.V (nmJ j) = o := ⟨_, rfl⟩
                rw [how] at HF2
                by_cases hd : isDel c.kd
                · skip
                  rw [if_pos hd] at HF1 hcn
                  simp only [findV, Option.getD_none, Option.isSome_none] at HF1
                  simp only [findV] at HF2
                  simp only [Option.isSome_none, Bool.false_eq_true, if_false, Nat.add_zero] at hcn
                  generalize cnt (hasN s'.V) j = cj at *
                  rcases HDEL.out.1 hd with h8 | h8
                  · have d5 : ((k8 : Int) == 5) = true := by rw [beq_iff_eq]; omega
                    clear h8
                    go_wp2_with fail
                    refine HNn.out.mono ?_
                    rintro e w' ⟨rfl, rfl⟩
                    go_wp2_with fail
                    refine HF1.out.mono ?_
                    rintro e w' ⟨rfl, rfl⟩
                    go_wp2_with fail
                    refine HNn.out.mono ?_
                    rintro e w' ⟨rfl, rfl⟩
                    go_wp2_with fail
                    refine HF2.out.mono ?_
                    rintro e w' ⟨rfl, rfl⟩
                    go_wp2_with fail
                    refine HMn.out.mono ?_
                    rintro e w' ⟨rfl, rfl⟩
                    go_wp2_with fail
                    go_roundw
                    case rel => exact ⟨j + 1, by omega, by (first | (rw [hcn]; done) | (rw [hcn]; go_num)), by go_num, HAn, HVn, HXn, HBn⟩
                    case measure => simp [intOf]; omega
                  · have d5 : ((k8 : Int) == 5) = false := by rw [beq_eq_false_iff_ne]; omega
                    have d6 : ((k8 : Int) == 6) = true := by rw [beq_iff_eq]; omega
                    clear h8
                    go_wp2_with fail
                    refine HNn.out.mono ?_
                    rintro e w' ⟨rfl, rfl⟩
                    go_wp2_with fail
                    refine HF1.out.mono ?_
                    rintro e w' ⟨rfl, rfl⟩
                    go_wp2_with fail
                    refine HNn.out.mono ?_
                    rintro e w' ⟨rfl, rfl⟩
                    go_wp2_with fail
                    refine HF2.out.mono ?_
                    rintro e w' ⟨rfl, rfl⟩
                    go_wp2_with fail
                    refine HMn.out.mono ?_
                    rintro e w' ⟨rfl, rfl⟩
                    go_wp2_with fail
                    go_roundw
                    case rel => exact ⟨j + 1, by omega, by (first | (rw [hcn]; done) | (rw [hcn]; go_num)), by go_num, HAn, HVn, HXn, HBn⟩
                    case measure => simp [intOf]; omega
                · skip
                  rw [if_neg hd] at HF1 hcn
                  simp only [findV, Option.getD_some, Option.isSome_some] at HF1
                  rw [HVE.out] at HF1
                  simp only [findV] at HF2
                  simp only [Option.isSome_some, if_true] at hcn
                  generalize cnt (hasN s'.V) j = cj at *
                  have n5 : ¬ k8 = 5 := fun e => hd (HDEL.out.2 (.inl e))
                  have n6 : ¬ k8 = 6 := fun e => hd (HDEL.out.2 (.inr e))
                  have d5 : ((k8 : Int) == 5) = false := by rw [beq_eq_false_iff_ne]; omega
                  have i5 : ¬ (k8 : Int) = 5 := by omega
                  have d6 : ((k8 : Int) == 6) = false := by rw [beq_eq_false_iff_ne]; omega
                  have i6 : ¬ (k8 : Int) = 6 := by omega
                  have HVn1 := Lib.hid (HVA.out w5)
                  have q0 := HXn.out.1
                  have q2 := HXn.out.2.2.1
                  have q3 := HXn.out.2.2.2
                  go_wp2_with fail
                  refine HNn.out.mono ?_
                  rintro e w' ⟨rfl, rfl⟩
                  go_wp2_with fail
                  refine HF1.out.mono ?_
                  rintro e w' ⟨rfl, rfl⟩
                  go_wp2_with fail
                  refine HNn.out.mono ?_
                  rintro e w' ⟨rfl, rfl⟩
                  go_wp2_with fail
                  refine HF2.out.mono ?_
                  rintro e w' ⟨rfl, rfl⟩
                  go_wp2_with fail
                  refine HMn.out.mono ?_
                  rintro e w' ⟨rfl, rfl⟩
                  go_wp2_with fail
                  refine HVn1.out.mono ?_
                  rintro e w6 ⟨rfl, b6⟩
                  have HAm := Lib.hid (HAn.out.below b6)
                  have HVm := Lib.hid (HVn.out.below b6)
                  have HXm : Hid (BX w6 T c) := HXn.out.below b6 (Nat.lt_of_lt_of_le hTN HAn.out.at.N_le)
                  have HBm : Hid (Below w.heap.size w w6) := HBn.out.trans (b6.mono HBn.out.size)
                  clear b6 HAn HVn HXn HBn q0 q1 q2 q3 HVn1
                  go_wp2_with fail
                  go_roundw
                  case rel => exact ⟨j + 1, by omega, by (first | (rw [hcn]; done) | (rw [hcn]; go_num)), by go_num, HAm, HVm, HXm, HBm⟩
                  case measure => simp [intOf]; omega
              · have ho := HOTH.out j hj6 hjk
                have bjk : ((j : Int) == (k6 : Int)) = false := by rw [beq_eq_false_iff_ne]; omega
                have ijk : ¬ (j : Int) = (k6 : Int) := by omega
                rw [ho] at HF1 hcn
                generalize cnt (hasN s'.V) j = cj at *
                cases hov : getV st.V (nmJ j) with
                | none =>
                  rw [hov] at HF1 HF2 hcn
                  simp only [findV, Option.getD_none, Option.isSome_none] at HF1 HF2
                  simp only [Option.isSome_none, Bool.false_eq_true, if_false, Nat.add_zero] at hcn
                  go_wp2_with fail
                  refine HNn.out.mono ?_
                  rintro e w' ⟨rfl, rfl⟩
                  go_wp2_with fail
                  refine HF1.out.mono ?_
                  rintro e w' ⟨rfl, rfl⟩
                  go_wp2_with fail
                  refine HNn.out.mono ?_
                  rintro e w' ⟨rfl, rfl⟩
                  go_wp2_with fail
                  refine HF2.out.mono ?_
                  rintro e w' ⟨rfl, rfl⟩
                  go_wp2_with fail
                  refine HMn.out.mono ?_
                  rintro e w' ⟨rfl, rfl⟩
                  go_wp2_with fail
                  go_roundw
                  case rel => exact ⟨j + 1, by omega, by (first | (rw [hcn]; done) | (rw [hcn]; go_num)), by go_num, HAn, HVn, HXn, HBn⟩
                  case measure => simp [intOf]; omega
                | some v =>
                  rw [hov] at HF1 HF2 hcn
                  simp only [findV, Option.getD_some, Option.isSome_some] at HF1 HF2
                  obtain ⟨vo, hvo⟩ : ∃ s : ByteArray, str v = .string s := ⟨_, rfl⟩
                  rw [hvo] at HF1 HF2
                  simp only [Option.isSome_some, if_true] at hcn
                  clear hvo
                  go_wp2_with fail
                  refine HNn.out.mono ?_
                  rintro e w' ⟨rfl, rfl⟩
                  go_wp2_with fail
                  refine HF1.out.mono ?_
                  rintro e w' ⟨rfl, rfl⟩
                  go_wp2_with fail
                  refine HNn.out.mono ?_
                  rintro e w' ⟨rfl, rfl⟩
                  go_wp2_with fail
                  refine HF2.out.mono ?_
                  rintro e w' ⟨rfl, rfl⟩
                  go_wp2_with fail
                  refine HMn.out.mono ?_
                  rintro e w' ⟨rfl, rfl⟩
                  go_wp2_with fail
                  go_roundw
                  case rel => exact ⟨j + 1, by omega, by (first | (rw [hcn]; done) | (rw [hcn]; go_num)), by go_num, HAn, HVn, HXn, HBn⟩
                  case measure => simp [intOf]; omega
            · skip
              have y1 : ¬ (j : Int) < 6 := by omega
              have hj6' : j = 6 := by omega
              subst hj6'
              have hlen := HK2.out.len HI2.out.srt
              rw [HLW2.out] at hlen
              rw [← hlen] at hcl
              rw [← hlen]
              clear hlen
              go_wp2_with fail
              refine HLS.out.mono ?_
              rintro e w5 ⟨g3, rfl, ha, hv3, b5⟩
              have HBn : Hid (Below w.heap.size w w5) := HB.out.trans (b5.mono HB.out.size)
              have HAW := Lib.hid (awake_any w5)
              clear ha hv3 b5 HA HV HX HB HLS
              go_wp2_with fail
              refine HAW.out.mono ?_
              rintro e w14 ⟨rfl, b14⟩
              have HB14 : Hid (Below w.heap.size w w14) := HBn.out.trans (b14.mono HBn.out.size)
              clear b14 HAW
              go_wp2_with fail
              go_ret
              exact ⟨rfl, HB14.out⟩
end Go.Proofs.Ytfglopkglnpokaa
