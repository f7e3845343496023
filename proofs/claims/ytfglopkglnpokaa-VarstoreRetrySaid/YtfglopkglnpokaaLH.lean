/- Two stores in memory; VarstoreReopens walked. No condition. -/
import Derived.Test.YtfglopkglnpokaaCP
import Derived.Test.YtfglopkglnpokaaEQ
namespace Go.Proofs.Ytfglopkglnpokaa
open Go.RowKit
/-- Two stores, each on its flash, apart in memory, from N on. -/
structure A2 (w : World) (N S X : Nat) (y : FLay) (D : Nat → Prop) (fl : FL) (st : ST) (S' X' : Nat) (y' : FLay) (D' : Nat → Prop) (fl' : FL) (st' : ST) (n : Nat) : Prop where
  f : FW w D X y fl
  f' : FW w D' X' y' fl'
  dN : ∀ k, D k → N ≤ k ∧ ¬ D' k
  dN' : ∀ k, D' k → N ≤ k
  s : ∃ DS m DS' m', SW w DS S X m n st ∧ SW w DS' S' X' m' n st' ∧ (∀ k, DS k → N ≤ k ∧ ¬ D k ∧ ¬ D' k ∧ ¬ DS' k) ∧ ∀ k, DS' k → N ≤ k ∧ ¬ D k ∧ ¬ D' k
section
variable {w w' : World} {N S X S' X' n : Nat} {y y' : FLay} {D D' : Nat → Prop} {fl fl' : FL} {st st' : ST}
theorem A2.swap (h : A2 w N S X y D fl st S' X' y' D' fl' st' n) : A2 w N S' X' y' D' fl' st' S X y D fl st n := by
  obtain ⟨DS, m, DS', m', h1, h2, h3, h4⟩ := h.s
  exact ⟨h.f', h.f, fun k hk => ⟨h.dN' k hk, fun e => (h.dN k e).2 hk⟩, fun k hk => (h.dN k hk).1, DS', m', DS, m, h2, h1, fun k hk => ⟨(h4 k hk).1, (h4 k hk).2.2, (h4 k hk).2.1, fun e => (h3 k e).2.2.2 hk⟩, fun k hk => ⟨(h3 k hk).1, (h3 k hk).2.2.1, (h3 k hk).2.1⟩⟩
theorem A2.at1 (h : A2 w N S X y D fl st S' X' y' D' fl' st' n) : AT w N S X y D n fl st := by
  obtain ⟨DS, m, DS', m', h1, h2, h3, h4⟩ := h.s
  exact ⟨h.f, fun k hk => (h.dN k hk).1, DS, m, h1, fun k hk e => (h3 k e).2.1 hk, fun k hk => (h3 k hk).1⟩
theorem A2.below (h : A2 w N S X y D fl st S' X' y' D' fl' st' n) (b : Below w.heap.size w w') : A2 w' N S X y D fl st S' X' y' D' fl' st' n := by
  obtain ⟨DS, m, DS', m', h1, h2, h3, h4⟩ := h.s
  exact ⟨h.f.below b, h.f'.below b, h.dN, h.dN', DS, m, DS', m', h1.below b, h2.below b, h3, h4⟩
theorem A2.drewA (h : A2 w N S X y D fl st S' X' y' D' fl' st' n) : A2 w.drew N S X y D fl st S' X' y' D' fl' st' n := h.below ((Below.refl _ w).drew)
theorem A2.mono (h : A2 w N S X y D fl st S' X' y' D' fl' st' n) {n' : Nat} (hn : n ≤ n') : A2 w N S X y D fl st S' X' y' D' fl' st' n' := by
  obtain ⟨DS, m, DS', m', h1, h2, h3, h4⟩ := h.s
  exact ⟨h.f, h.f', h.dN, h.dN', DS, m, DS', m', h1.mono hn, h2.mono hn, h3, h4⟩
theorem A2.of {w4 : World} (h : AT w4 N S X y D n fl st) (b : Below w4.heap.size w4 w) (h' : AT w w4.heap.size S' X' y' D' n fl' st') : A2 w N S X y D fl st S' X' y' D' fl' st' n := by
  obtain ⟨DS, m, h1, h2, h3⟩ := h.s
  obtain ⟨DS', m', k1, k2, k3⟩ := h'.s
  have hN := h.N_le
  refine ⟨h.f.below b, h'.f, fun k hk => ⟨h.dN k hk, fun e => ?_⟩, fun k hk => Nat.le_trans hN (h'.dN k hk), DS, m, DS', m', h1.below b, k1, fun k hk => ⟨h3 k hk, fun e => h2 k e hk, fun e => ?_, fun e => ?_⟩, fun k hk => ⟨Nat.le_trans hN (k3 k hk), fun e => ?_, fun e => k2 k e hk⟩⟩
  · have := h.f.fin k hk; have := h'.dN k e; omega
  · have := h1.fin k hk; have := h'.dN k e; omega
  · have := h1.fin k hk; have := k3 k e; omega
  · have := h.f.fin k e; have := k3 k hk; omega
/-- A call on the first of two stores. -/
theorem A2.do (h : A2 w N S X y D fl st S' X' y' D' fl' st' n) (hb : st.blk < fl.B) (hn : n < 1000) (c : CV) :
    Calls Try.prog 13 #[fptr S, cva c] w fun e w' => e = .returned (.int .i64 (doC fl st c).1) ∧ A2 w' N S X y D (doC fl st c).2.1 (doC fl st c).2.2 S' X' y' D' fl' st' (n + 1) ∧ Below N w w' := by
  obtain ⟨DS, m, DS', m', h1, h2, h3, h4⟩ := h.s
  refine (do_any h1 h.f (fun k hk e => (h3 k e).2.1 hk) hb hn c.kd c.nm c.ln c.fi).mono ?_
  rintro e w' ⟨he, k1, k2, D1, m1, k3, k4⟩
  have hN := h.at1.N_le
  refine ⟨he, ⟨k1, h.f'.ch k2 fun k hk e => e.elim (fun e => (h.dN k e).2 hk) (fun e => (h3 k e).2.2.1 hk), h.dN, h.dN', D1, m1, DS', m', k4, (h2.ch k2 fun k hk e => e.elim (fun e => (h4 k hk).2.1 e) (fun e => (h3 k e).2.2.2 hk)).mono (Nat.le_succ n), fun i hi => ?_, h4⟩, k2.below hN (fun i hi => hi.elim (fun e => (h.dN i e).1) (fun e => (h3 i e).1))⟩
  rcases k3 i hi with e | e
  · exact h3 i e
  · exact ⟨Nat.le_trans hN e, fun x => by have := h.f.fin i x; omega, fun x => by have := h.f'.fin i x; omega, fun x => by have := h2.fin i x; omega⟩
end
set_option maxRecDepth 100000 in
set_option maxHeartbeats 2000000 in
theorem reopens_any (rB rP rE : Int) (a : Option Addr) (len cap : Nat) (l : List CV) (a2 : Option Addr) (len2 cap2 : Nat) (l2 : List CV) (w : World) (hl : CallS w a len cap l) (hl2 : CallS w a2 len2 cap2 l2) :
    Calls Try.prog 7 #[fsV rB rP rE, .slice a len cap, .slice a2 len2 cap2] w fun e w' => e = .returned (.bool true) ∧ Below w.heap.size w w' := by
  have HL := Lib.hid hl
  have HL2 := Lib.hid hl2
  have hcap : len ≤ cap := hl.2.1
  have hcapM := hl.2.2.1
  have hcap2 : len2 ≤ cap2 := hl2.2.1
  have hcapM2 := hl2.2.2.1
  unfold maxLen at hcapM hcapM2
  clear hl hl2
  have HAW0 : Hid (Calls Try.prog 9 #[] (w.alloc (.cells #[.int .i64 rB, .int .i64 rP, .int .i64 rE] 23)) fun e w' => e = .returned (.bool true) ∧ Below (w.alloc (.cells #[.int .i64 rB, .int .i64 rP, .int .i64 rE] 23)).heap.size (w.alloc (.cells #[.int .i64 rB, .int .i64 rP, .int .i64 rE] 23)) w') := awake_any _
  have HB0 : Hid (Below w.heap.size w (w.alloc (.cells #[.int .i64 rB, .int .i64 rP, .int .i64 rE] 23))) := (Below.refl _ _).alloc (Nat.le_refl _) _
  by_cases hbig : 20 < len
  · have hbI : (len : Int) > 20 := by omega
    go_enter Try.func7, Try.ntmps7
    go_wp2_with fail
    refine HAW0.out.mono ?_
    rintro e w1 ⟨rfl, b1⟩
    have HB1 : Hid (Below w.heap.size w w1) := HB0.out.trans (b1.mono HB0.out.size)
    clear b1 HAW0 HB0
    go_wp2_with fail
    go_ret
    exact ⟨rfl, HB1.out⟩
  by_cases hbig2 : 20 < len2
  · have hbI : ¬ (len : Int) > 20 := by omega
    have hbI2 : (len2 : Int) > 20 := by omega
    go_enter Try.func7, Try.ntmps7
    go_wp2_with fail
    refine HAW0.out.mono ?_
    rintro e w1 ⟨rfl, b1⟩
    have HB1 : Hid (Below w.heap.size w w1) := HB0.out.trans (b1.mono HB0.out.size)
    clear b1 HAW0 HB0
    go_wp2_with fail
    go_ret
    exact ⟨rfl, HB1.out⟩
  · have hbI : ¬ (len : Int) > 20 := by omega
    have hbI2 : ¬ (len2 : Int) > 20 := by omega
    have r0 := Row.ofList w 23 #[.int .i64 rB, .int .i64 rP, .int .i64 rE] (fsc rB rP rE) 3 rfl
    have z0 : (w.alloc (.cells #[.int .i64 rB, .int .i64 rP, .int .i64 rE] 23)).cell? ⟨w.heap.size, 0, none⟩ = some (.int .i64 rB) := r0.cell (i := 0) (by omega)
    have z1 : (w.alloc (.cells #[.int .i64 rB, .int .i64 rP, .int .i64 rE] 23)).cell? ⟨w.heap.size, 1, none⟩ = some (.int .i64 rP) := r0.cell (i := 1) (by omega)
    have z2 : (w.alloc (.cells #[.int .i64 rB, .int .i64 rP, .int .i64 rE] 23)).cell? ⟨w.heap.size, 2, none⟩ = some (.int .i64 rE) := r0.cell (i := 2) (by omega)
    have HSH := Lib.hid (shape_law rB rP rE (w.alloc (.cells #[.int .i64 rB, .int .i64 rP, .int .i64 rE] 23)))
    have hB := shB_le rB
    have hP := shP_le rP
    have hE := shE_le rE
    generalize shB rB = B at *
    generalize shP rP = P at *
    generalize shE rE = E at *
    clear r0 HAW0
    go_enter Try.func7, Try.ntmps7
    go_wp2_with fail
    refine HSH.out.mono ?_
    rintro e w1 ⟨rfl, b1⟩
    have HB1 : Hid (Below w.heap.size w w1) := HB0.out.trans (b1.mono HB0.out.size)
    clear b1 HSH HB0 z0 z1 z2
    go_wp2_with fail
    refine (open_law w1 B P E ⟨by omega, by omega⟩ ⟨by omega, by omega⟩ (by omega)).mono ?_
    rintro e w3 ⟨S, X, y, D, f1, rfl, ha, hI, hS, her, hc, hbl, b3⟩
    have HI : Hid (Inv f1 st0 ∧ f1.cut = false ∧ st0.gen ≤ 1 + 0) := ⟨hI, hc, Nat.le_refl _⟩
    have HA : Hid (AT w3 w1.heap.size S X y D (32 + 0) f1 st0) := ha
    have HB3 : Hid (Below w.heap.size w w3) := HB1.out.trans (b3.mono HB1.out.size)
    have hNw : w.heap.size ≤ w1.heap.size := HB1.out.size
    obtain ⟨N, hN⟩ : ∃ N, w1.heap.size = N := ⟨_, rfl⟩
    rw [hN] at HA hNw
    clear ha hI hS her hc hbl b3 hN HB1
    go_wp2_with fail
    go_loopw [10] (fun z wr => ∃ (i : Nat) (fl : FL) (st : ST), i ≤ len ∧ z = .int .i64 (i : Int) ∧ Hid (AT wr N S X y D (32 + i) fl st) ∧ Hid (Inv fl st ∧ fl.cut = false ∧ st.gen ≤ 1 + i) ∧ Hid (Below w.heap.size w wr)) (fun z _ => len - (intOf z).toNat)
    case atStart => exact ⟨0, f1, st0, by omega, rfl, HA, HI, HB3⟩
    case round =>
      clear HA HI HB3
      obtain ⟨i, fl, st, hi, rfl, HA, HI, HB⟩ := hrel
      by_cases hlt : i < len
      · have y0 : (i : Int) < len := by omega
        obtain ⟨bb, o, c, rfl, _, _, q0, q1, q2, q3⟩ := (HL.out.below HB.out (Nat.le_refl _)).at hlt
        have hcalm := (doF_cases HI.out.1 (by have := HI.out.2.2; omega) c.kd c.nm c.ln c.fi).calm HI.out.1 HI.out.2.1
        have hdoC : doF fl st c.kd c.nm c.ln c.fi = doC fl st c := rfl
        rw [hdoC] at hcalm
        obtain ⟨e1, f1, s1, hr1⟩ : ∃ e f s, doC fl st c = (e, f, s) := ⟨_, _, _, rfl⟩
        rw [hr1] at hcalm
        simp only at hcalm
        have HI2 : Hid (Inv f1 s1 ∧ f1.cut = false ∧ s1.gen ≤ 1 + (i + 1)) := ⟨hcalm.1, hcalm.2.1, by have := hcalm.2.2.2.1; have := HI.out.2.2; omega⟩
        have HDO : Hid (Calls Try.prog 13 #[fptr S, .agg #[.int .i64 c.kd, .int .i64 c.nm, .int .i64 c.ln, .int .u8 (c.fi.toNat : Int)]] wr fun e w' => e = .returned (.int .i64 e1) ∧ AT w' N S X y D (32 + i + 1) f1 s1 ∧ Below N wr w') := by
          have := HA.out.do HI.out.1.blk (by omega) c
          rw [hr1] at this
          exact this
        clear hcalm hdoC hr1
        go_wp2_with fail
        refine HDO.out.mono ?_
        rintro e w4 ⟨rfl, ha, b4⟩
        have HA4 := Lib.hid ha
        have HB4 : Hid (Below w.heap.size w w4) := HB.out.trans (b4.mono hNw)
        clear ha b4 HDO HA HB
        go_wp2_with fail
        go_roundw
        case rel => exact ⟨i + 1, f1, s1, by omega, by go_num, HA4, HI2, HB4⟩
        case measure => simp [intOf]; omega
      · have y0 : ¬ (i : Int) < len := by omega
        have HCP := Lib.hid (copy_any HA.out.f)
        go_wp2_with fail
        refine HCP.out.mono ?_
        rintro e w4 ⟨X', y', rfl, hf', b4⟩
        have HOP := Lib.hid (at_open (N := wr.heap.size) hf' (fun k hk => hk.1) HI.out.1)
        have HB4 := Lib.hid b4
        clear hf' b4 HCP
        go_wp2_with fail
        refine HOP.out.mono ?_
        rintro e w5 ⟨S', rfl, ha', b5⟩
        have HA2 : Hid (A2 w5 N S X y D fl st S' X' y' (fun k => wr.heap.size ≤ k ∧ k < w4.heap.size) fl st (32 + i)) := A2.of HA.out (HB4.out.trans (b5.mono HB4.out.size)) (ha'.mono (by omega))
        have HB5 : Hid (Below w.heap.size w w5) := HB.out.trans ((HB4.out.trans (b5.mono HB4.out.size)).mono HB.out.size)
        have hi20 : i ≤ 20 := by omega
        generalize (fun k => wr.heap.size ≤ k ∧ k < w4.heap.size) = D' at *
        clear ha' b5 HOP HB4 HA HB
        obtain ⟨Lw, hLw⟩ : ∃ L, st.V.length = L := ⟨_, rfl⟩
        have HLW := Lib.hid hLw
        have HL1 := Lib.hid (HA2.out.at1.list (by omega))
        rw [hLw] at HL1
        clear hLw
        go_wp2_with fail
        refine HL1.out.mono ?_
        rintro e w6 ⟨g1, rfl, hg1, hv1, b6⟩
        have HV1 := Lib.hid hv1
        have HA6 := Lib.hid (HA2.out.below b6)
        have HB6 : Hid (Below w.heap.size w w6) := HB5.out.trans (b6.mono HB5.out.size)
        have HL2' := Lib.hid (HA6.out.swap.at1.list (by omega))
        rw [HLW.out] at HL2'
        clear hg1 hv1 b6 HL1 HA2 HB5
        go_wp2_with fail
        refine HL2'.out.mono ?_
        rintro e w7 ⟨g2, rfl, hg2, hv2, b7⟩
        have HEQ := Lib.hid (equalV_any (HV1.out.below b7) hv2 HLW.out HLW.out)
        have HA7 := Lib.hid (HA6.out.below b7)
        have HB7 : Hid (Below w.heap.size w w7) := HB6.out.trans (b7.mono HB6.out.size)
        rw [show decide (st.V = st.V) = true by simp] at HEQ
        clear hg2 hv2 b7 HL2' HA6 HB6 HV1
        go_wp2_with fail
        refine HEQ.out.mono ?_
        rintro e w8 ⟨rfl, c8⟩
        have HA8 := Lib.hid (HA7.out.below (c8.below (Nat.le_refl _) (fun _ h => h.elim)))
        have HB8 : Hid (Below w.heap.size w w8) := HB7.out.trans ((c8.below (B := w7.heap.size) (Nat.le_refl _) (fun _ h => h.elim)).mono HB7.out.size)
        have HG1 := Lib.hid HA8.out.at1.gen
        have HG2 := Lib.hid HA8.out.swap.at1.gen
        clear c8 HEQ HA7 HB7
        obtain ⟨gn, hgn⟩ : ∃ g, st.gen = g := ⟨_, rfl⟩
        rw [hgn] at HG1 HG2
        go_wp2_with fail
        refine HG1.out.mono ?_
        rintro e w' ⟨rfl, rfl⟩
        go_wp2_with fail
        refine HG2.out.mono ?_
        rintro e w' ⟨rfl, rfl⟩
        have HI0 : Hid (Inv fl st ∧ fl.cut = false ∧ st.gen ≤ 21 + 0) := ⟨HI.out.1, HI.out.2.1, by have := HI.out.2.2; omega⟩
        have HA0 : Hid (A2 w8 N S X y D fl st S' X' y' D' fl st (52 + 2 * 0)) := HA8.out.mono (by omega)
        clear HG1 HG2 hgn HA8 HI
        go_wp2_with fail
        go_loopw [14] (fun z wr => ∃ (i2 : Nat) (fl : FL) (st : ST), i2 ≤ len2 ∧ z = .int .i64 (i2 : Int) ∧ Hid (A2 wr N S X y D fl st S' X' y' D' fl st (52 + 2 * i2)) ∧ Hid (Inv fl st ∧ fl.cut = false ∧ st.gen ≤ 21 + i2) ∧ Hid (Below w.heap.size w wr)) (fun z _ => len2 - (intOf z).toNat)
        case atStart => exact ⟨0, fl, st, by omega, rfl, HA0, HI0, HB8⟩
        case round =>
          clear HA0 HI0 HB8 HLW
          obtain ⟨i2, fl, st, hi2, rfl, HA, HI, HB⟩ := hrel
          by_cases hlt2 : i2 < len2
          · have y1 : (i2 : Int) < len2 := by omega
            obtain ⟨bb, o, c, rfl, hbb, _, q0, q1, q2, q3⟩ := (HL2.out.below HB.out (Nat.le_refl _)).at hlt2
            obtain ⟨bb', o', c', he0, hbb0, _, _, _, _, _⟩ := HL2.out.at hlt2
            injection he0 with he0
            injection he0 with he0 he1
            subst he0 he1
            have hcalm := (doF_cases HI.out.1 (by have := HI.out.2.2; omega) c.kd c.nm c.ln c.fi).calm HI.out.1 HI.out.2.1
            have hdoC : doF fl st c.kd c.nm c.ln c.fi = doC fl st c := rfl
            rw [hdoC] at hcalm
            have HD1 := Lib.hid (HA.out.drewA.do HI.out.1.blk (by omega) c)
            have hD2 := fun wx (hx : A2 wx N S' X' y' D' fl st S X y D (doC fl st c).2.1 (doC fl st c).2.2 (52 + 2 * i2 + 1)) => hx.do HI.out.1.blk (by omega) c
            obtain ⟨e1, f1, s1, hr1⟩ : ∃ e f s, doC fl st c = (e, f, s) := ⟨_, _, _, rfl⟩
            rw [hr1] at hcalm HD1
            simp only [hr1] at hD2
            simp only at hcalm
            have HD2 := Lib.hid hD2
            have HI2 : Hid (Inv f1 s1 ∧ f1.cut = false ∧ s1.gen ≤ 21 + (i2 + 1)) := ⟨hcalm.1, hcalm.2.1, by have := hcalm.2.2.2.1; have := HI.out.2.2; omega⟩
            have HD1' : Hid (Calls Try.prog 13 #[fptr S, .agg #[.int .i64 c.kd, .int .i64 c.nm, .int .i64 c.ln, .int .u8 (c.fi.toNat : Int)]] wr.drew fun e w' => e = .returned (.int .i64 e1) ∧ A2 w' N S X y D f1 s1 S' X' y' D' fl st (52 + 2 * i2 + 1) ∧ Below N wr.drew w') := HD1
            have HD2' : Hid (∀ wx, A2 wx N S' X' y' D' fl st S X y D f1 s1 (52 + 2 * i2 + 1) → Calls Try.prog 13 #[fptr S', .agg #[.int .i64 c.kd, .int .i64 c.nm, .int .i64 c.ln, .int .u8 (c.fi.toNat : Int)]] wx fun e w' => e = .returned (.int .i64 e1) ∧ A2 w' N S' X' y' D' f1 s1 S X y D f1 s1 (52 + 2 * i2 + 1 + 1) ∧ Below N wx w') := HD2
            have S1 : Hid (wr.drew.cell? ⟨bb, o + i2 * 4, none⟩ = some (.int .i64 c.kd) ∧ wr.drew.cell? ⟨bb, o + i2 * 4 + 1, none⟩ = some (.int .i64 c.nm) ∧ wr.drew.cell? ⟨bb, o + i2 * 4 + 2, none⟩ = some (.int .i64 c.ln) ∧ wr.drew.cell? ⟨bb, o + i2 * 4 + 3, none⟩ = some (.int .u8 (c.fi.toNat : Int))) := ⟨q0, q1, q2, q3⟩
            have HBd : Hid (Below w.heap.size w wr.drew) := HB.out.drew
            clear hcalm hdoC hr1 HD1 HD2 hD2 q0 q1 q2 q3 HA HB
            go_wp2_with fail
            refine wp_region_pl (fun Y => Y.cell? ⟨bb, o + i2 * 4, none⟩ = some (.int .i64 c.kd) ∧ Y.cell? ⟨bb, o + i2 * 4 + 1, none⟩ = some (.int .i64 c.nm) ∧ Y.cell? ⟨bb, o + i2 * 4 + 2, none⟩ = some (.int .i64 c.ln) ∧ Y.cell? ⟨bb, o + i2 * 4 + 3, none⟩ = some (.int .u8 (c.fi.toNat : Int))) ((0, 0) :: (1, 0) :: (2, 0) :: (3, 0) :: (4, 0) :: (6, 0) :: (7, 0) :: (8, 0) :: (9, 0) :: (10, 0) :: (5, 1) :: (11, 1) :: (12, 0) :: []) (by kernel_rfl) (by kernel_rfl) ?_
            iterate 10 (apply wpP_go; (focus rfl); (focus rfl); (focus exact S1.out); (focus (rintro Q ⟨s0, s1, s2, s3⟩; go_simp; exact rfl)); intro K hK; go_simp; refine hK _ ?_; clear hK K)
            apply wpP_one
            focus rfl
            intro K hK
            go_simp
            refine HD1'.out.mono ?_
            rintro e V1 ⟨rfl, ha, b1⟩
            have hq1 : ∀ j, V1.cell? ⟨bb, j, none⟩ = wr.drew.cell? ⟨bb, j, none⟩ := fun j => b1.cell (p := ⟨bb, j, none⟩) (by show bb < N; omega)
            have S2 : Hid (V1.cell? ⟨bb, o + i2 * 4, none⟩ = some (.int .i64 c.kd) ∧ V1.cell? ⟨bb, o + i2 * 4 + 1, none⟩ = some (.int .i64 c.nm) ∧ V1.cell? ⟨bb, o + i2 * 4 + 2, none⟩ = some (.int .i64 c.ln) ∧ V1.cell? ⟨bb, o + i2 * 4 + 3, none⟩ = some (.int .u8 (c.fi.toNat : Int))) := ⟨(hq1 _).trans S1.out.1, (hq1 _).trans S1.out.2.1, (hq1 _).trans S1.out.2.2.1, (hq1 _).trans S1.out.2.2.2⟩
            have HD3 := Lib.hid (HD2'.out _ ha.swap)
            have HB1 : Hid (Below w.heap.size w V1) := HBd.out.trans (b1.mono hNw)
            refine hK _ _ S2.out ?_
            clear hK K ha b1 hq1 S1 HD1' HD2' HBd
            apply wpP_one
            focus rfl
            intro K hK
            go_simp
            refine HD3.out.mono ?_
            rintro e V2 ⟨rfl, ha, b2⟩
            have hq2 : ∀ j, V2.cell? ⟨bb, j, none⟩ = V1.cell? ⟨bb, j, none⟩ := fun j => b2.cell (p := ⟨bb, j, none⟩) (by show bb < N; omega)
            have S3 : Hid (V2.cell? ⟨bb, o + i2 * 4, none⟩ = some (.int .i64 c.kd) ∧ V2.cell? ⟨bb, o + i2 * 4 + 1, none⟩ = some (.int .i64 c.nm) ∧ V2.cell? ⟨bb, o + i2 * 4 + 2, none⟩ = some (.int .i64 c.ln) ∧ V2.cell? ⟨bb, o + i2 * 4 + 3, none⟩ = some (.int .u8 (c.fi.toNat : Int))) := ⟨(hq2 _).trans S2.out.1, (hq2 _).trans S2.out.2.1, (hq2 _).trans S2.out.2.2.1, (hq2 _).trans S2.out.2.2.2⟩
            have HA2 : Hid (A2 V2 N S X y D f1 s1 S' X' y' D' f1 s1 (52 + 2 * i2 + 1 + 1)) := ha.swap
            have HB2 : Hid (Below w.heap.size w V2) := HB1.out.trans (b2.mono hNw)
            refine hK _ _ S3.out ?_
            clear hK K ha b2 hq2 S2 HD3 HB1
            iterate 1 (apply wpP_go; (focus rfl); (focus rfl); (focus exact S3.out); (focus (rintro Q ⟨s0, s1, s2, s3⟩; go_simp; exact rfl)); intro K hK; go_simp; refine hK _ ?_; clear hK K)
            refine wpP_done ?_
            clear S3
            go_wp2_with fail
            have HA3 := Lib.hid (HA2.out.mono (n' := 52 + 2 * (i2 + 1)) (by omega))
            exact ⟨⟨i2 + 1, f1, s1, by omega, by go_num, HA3, HI2, HB2⟩, by simp [intOf]; omega⟩
          · have y1 : ¬ (i2 : Int) < len2 := by omega
            obtain ⟨Lw, hLw⟩ : ∃ L, st.V.length = L := ⟨_, rfl⟩
            have HLW := Lib.hid hLw
            have HL1 := Lib.hid (HA.out.at1.list (by omega))
            rw [hLw] at HL1
            clear hLw
            go_wp2_with fail
            refine HL1.out.mono ?_
            rintro e w6 ⟨g1, rfl, hg1, hv1, b6⟩
            have HV1 := Lib.hid hv1
            have HA6 := Lib.hid (HA.out.below b6)
            have HB6 : Hid (Below w.heap.size w w6) := HB.out.trans (b6.mono HB.out.size)
            have HL2' := Lib.hid (HA6.out.swap.at1.list (by omega))
            rw [HLW.out] at HL2'
            clear hg1 hv1 b6 HL1 HA HB
            go_wp2_with fail
            refine HL2'.out.mono ?_
            rintro e w7 ⟨g2, rfl, hg2, hv2, b7⟩
            have HEQ := Lib.hid (equalV_any (HV1.out.below b7) hv2 HLW.out HLW.out)
            have HA7 := Lib.hid (HA6.out.below b7)
            have HB7 : Hid (Below w.heap.size w w7) := HB6.out.trans (b7.mono HB6.out.size)
            rw [show decide (st.V = st.V) = true by simp] at HEQ
            clear hg2 hv2 b7 HL2' HA6 HB6 HV1
            go_wp2_with fail
            refine HEQ.out.mono ?_
            rintro e w8 ⟨rfl, c8⟩
            have HA8 := Lib.hid (HA7.out.below (c8.below (Nat.le_refl _) (fun _ h => h.elim)))
            have HB8 : Hid (Below w.heap.size w w8) := HB7.out.trans ((c8.below (B := w7.heap.size) (Nat.le_refl _) (fun _ h => h.elim)).mono HB7.out.size)
            have HG1 := Lib.hid HA8.out.at1.gen
            have HG2 := Lib.hid HA8.out.swap.at1.gen
            have HAW := Lib.hid (awake_any w8)
            clear c8 HEQ HA7 HB7
            obtain ⟨gn, hgn⟩ : ∃ g, st.gen = g := ⟨_, rfl⟩
            rw [hgn] at HG1 HG2
            go_wp2_with fail
            refine HG1.out.mono ?_
            rintro e w' ⟨rfl, rfl⟩
            go_wp2_with fail
            refine HG2.out.mono ?_
            rintro e w' ⟨rfl, rfl⟩
            go_wp2_with fail
            refine HAW.out.mono ?_
            rintro e w9 ⟨rfl, b9⟩
            have HB9 : Hid (Below w.heap.size w w9) := HB8.out.trans (b9.mono HB8.out.size)
            clear b9 HAW
            go_wp2_with fail
            go_ret
            exact ⟨rfl, HB9.out⟩
end Go.Proofs.Ytfglopkglnpokaa
