/- Two stores and a loss of power; VarstoreRetry walked. No condition. -/
import Derived.Test.YtfglopkglnpokaaLH
import Derived.Test.YtfglopkglnpokaaPN
import Derived.Test.YtfglopkglnpokaaPJ
namespace Go.Proofs.Ytfglopkglnpokaa
open Go.RowKit
/-- The boxed call can be read. -/
def BX (w : World) (T : Nat) (c : CV) : Prop := w.cell? ⟨T, 0, none⟩ = some (.int .i64 c.kd) ∧ w.cell? ⟨T, 1, none⟩ = some (.int .i64 c.nm) ∧ w.cell? ⟨T, 2, none⟩ = some (.int .i64 c.ln) ∧ w.cell? ⟨T, 3, none⟩ = some (.int .u8 (c.fi.toNat : Int))
theorem BX.below {w w' : World} {T B0 : Nat} {c : CV} (h : BX w T c) (b : Below B0 w w') (hT : T < B0) : BX w' T c :=
  ⟨(b.cell (p := ⟨T, 0, none⟩) hT).trans h.1, (b.cell (p := ⟨T, 1, none⟩) hT).trans h.2.1, (b.cell (p := ⟨T, 2, none⟩) hT).trans h.2.2.1, (b.cell (p := ⟨T, 3, none⟩) hT).trans h.2.2.2⟩
theorem BX.made (w : World) (c : CV) : BX (w.alloc (.cells #[.int .i64 c.kd, .int .i64 c.nm, .int .i64 c.ln, .int .u8 (c.fi.toNat : Int)] 36)) w.heap.size c :=
  have h := Row.ofList w 36 #[.int .i64 c.kd, .int .i64 c.nm, .int .i64 c.ln, .int .u8 (c.fi.toNat : Int)] (fun i => (cvc c).getD i (.bool false)) 4 rfl
  ⟨h.cell (i := 0) (by omega), h.cell (i := 1) (by omega), h.cell (i := 2) (by omega), h.cell (i := 3) (by omega)⟩
/-- What a call comes to where nothing is worn. -/
def vd (P : Nat) (V : Vars) (kd nm ln : Int) (fill : UInt8) : Int × Vars :=
  if isDel kd then (if getV V (nameOf nm) = none then (6, V) else (0, doV V kd nm ln fill))
  else if 1 + sumP (recs (doV V kd nm ln fill)) ≤ P then (0, doV V kd nm ln fill) else (8, V)
theorem DoR.vd {fl : FL} {st : ST} {kd nm ln : Int} {fill : UInt8} {r : Int × FL × ST} (h : Inv fl st) (hE : fl.E = 1000) (her : ∀ b, fl.er b < 1000) (k : DoR fl st kd nm ln fill r) (hn : r.1 ≠ 16) :
    r.1 = (Go.Proofs.Ytfglopkglnpokaa.vd fl.P st.V kd nm ln fill).1 ∧ r.2.2.V = (Go.Proofs.Ytfglopkglnpokaa.vd fl.P st.V kd nm ln fill).2 := by
  have hcap := h.cap
  have hnx := h.nx
  unfold Go.Proofs.Ytfglopkglnpokaa.vd
  cases k with
  | same h1 h2 _ =>
    rw [if_neg h1, if_pos (by rw [h2]; omega)]
    exact ⟨rfl, h2.symm⟩
  | none h1 h2 =>
    rw [if_pos h1, if_pos h2]
    exact ⟨rfl, rfl⟩
  | done h0 hd =>
    obtain ⟨g, st', rfl, h1, h2, h3, _⟩ := hd
    have a := h1.cap
    have b := h1.nx
    rw [h2] at a
    rw [h3.2.1] at b
    by_cases k : isDel kd
    · rw [if_pos k, if_neg (h0 k)]; exact ⟨rfl, h2⟩
    · rw [if_neg k, if_pos (by omega)]; exact ⟨rfl, h2⟩
  | full h0 hf =>
    have hf' : fl.P < 1 + sumP (recs (doV st.V kd nm ln fill)) := by
      rcases hf with h1 | h1
      · exact h1
      · have hB := h.B2
        have hbb := h.blk
        by_cases e : st.blk = 0
        · exact absurd (.inr (by rw [hE]; exact her 1)) (h1 1 (by omega) (by omega))
        · exact absurd (.inr (by rw [hE]; exact her 0)) (h1 0 (by omega) (fun k => e k.symm))
    by_cases k : isDel kd
    · have e : doV st.V kd nm ln fill = delV st.V (nameOf nm) := if_pos k
      have := sumP_delV st.V (nameOf nm)
      rw [e] at hf'
      omega
    · rw [if_neg k, if_neg (by omega)]; exact ⟨rfl, rfl⟩
  | lost _ hl =>
    obtain ⟨_, g, st', rfl, _⟩ := hl
    exact absurd rfl hn
/-- Repeating a call after a loss of power leads to the variables of the call without it. -/
theorem retry_law {fl fl' : FL} {st : ST} (h : Inv fl st) (h' : Inv fl' st) (hc : fl.cut = false) (hP : fl'.P = fl.P) (hE : fl.E = 1000) (hE' : fl'.E = 1000) (her : ∀ b, fl.er b < 999) (her' : ∀ b, fl'.er b < 999) (hg : st.gen + 2 < 18446744073709551616) (kd nm ln : Int) (fill : UInt8) :
    ((doF fl' st kd nm ln fill).1 ≠ 16 ∧ (doF fl' st kd nm ln fill).1 = (doF fl st kd nm ln fill).1 ∧ (doF fl' st kd nm ln fill).2.2.V = (doF fl st kd nm ln fill).2.2.V) ∨
    ∃ g st', doF fl' st kd nm ln fill = (16, g, st) ∧ g.off = true ∧ Inv g.on st' ∧ (doF g.on st' kd nm ln fill).2.2.V = (doF fl st kd nm ln fill).2.2.V ∧
      ((doF g.on st' kd nm ln fill).1 = (doF fl st kd nm ln fill).1 ∨ isDel kd ∧ (doF g.on st' kd nm ln fill).1 = 6) := by
  have n16 : ∀ {f : FL} {s : ST}, Inv f s → f.cut = false → s.gen + 1 < 18446744073709551616 → (doF f s kd nm ln fill).1 ≠ 16 := fun hi hcut hgen e => by
    rcases DoR.power hi (doF_cases hi hgen kd nm ln fill) with ⟨e', g, s', h1, h2, _⟩ | ⟨k, _⟩
    · rw [h1] at e
      have e : e' = 16 := e
      rcases h2 with h2 | ⟨h2 | h2, _⟩ <;> omega
    · rw [hcut] at k; cases k
  have hr := (doF_cases h (by omega) kd nm ln fill).vd h hE (fun b => by have := her b; omega) (n16 h hc (by omega))
  have hk := doF_cases h' (by omega) kd nm ln fill
  by_cases h16 : (doF fl' st kd nm ln fill).1 = 16
  · right
    rcases hk.power h' with ⟨e', g, s', h1, h2, _⟩ | ⟨hcut, g, s', h1, h2, h3, h4, h5, h6, h7, h8⟩
    · rw [h1] at h16
      have h16 : e' = 16 := h16
      rcases h2 with h2 | ⟨h2 | h2, _⟩ <;> omega
    · have hS : fl'.P = g.on.P := h6.2.1.symm
      have hEg : g.on.E = 1000 := h6.2.2.1.trans hE'
      have h2' := (doF_cases h3 (by omega) kd nm ln fill).vd h3 hEg (fun b => by have := h8 b; have := her' b; show g.er b < 1000; omega) (n16 h3 h5 (by omega))
      rw [← hS, hP] at h2'
      refine ⟨g, s', h1, h2, h3, ?_⟩
      rw [h2'.1, h2'.2, hr.1, hr.2]
      rcases h4 with h4 | h4
      · rw [h4]; exact ⟨rfl, .inl rfl⟩
      · have hlost : isDel kd → getV st.V (nameOf nm) ≠ none := by
          rw [h1] at hk
          intro hd hno
          generalize hrr : ((16, g, st) : Int × FL × ST) = rr at hk
          cases hk with
          | same k1 => exact k1 hd
          | none => injection hrr with e _; cases e
          | done k1 => exact k1 hd hno
          | full k1 => exact k1 hd hno
          | lost k1 => exact k1 hd hno
        have a := h3.cap
        have b := h3.nx
        rw [h4] at a
        have b : s'.nxt ≤ fl.P := by rw [← hP, hS]; exact b
        by_cases k : isDel kd
        · have hno : getV s'.V (nameOf nm) = none := by
            rw [h4, nameOf_mo, doV_this, if_pos k]
          unfold vd
          rw [if_pos k, if_pos hno, if_pos k, if_neg (hlost k)]
          exact ⟨h4, .inr ⟨k, rfl⟩⟩
        · have hsame : doV s'.V kd nm ln fill = s'.V := by
            have hgv : getV s'.V (nameOf nm) = some (valOf ln fill) := by rw [h4, nameOf_mo, doV_this, if_neg k]
            show (if isDel kd then _ else _) = _
            rw [if_neg k]
            exact setV_same h3.srt hgv
          unfold vd
          rw [if_neg k, hsame, h4, if_pos (by omega), if_neg k, if_pos (by omega)]
          exact ⟨rfl, .inl rfl⟩
  · left
    have h2 := hk.vd h' hE' (fun b => by have := her' b; omega) h16
    rw [hP] at h2
    exact ⟨h16, h2.1.trans hr.1.symm, h2.2.trans hr.2.symm⟩
section
variable {w w' : World} {N S X S' X' n : Nat} {y y' : FLay} {D D' : Nat → Prop} {fl fl' : FL} {st st' : ST}
/-- The first flash alone changes. -/
theorem A2.flash {f1 : FL} (h : A2 w N S X y D fl st S' X' y' D' fl' st' n) (hf : FW w' D X y f1) (c : Ch D w w') : A2 w' N S X y D f1 st S' X' y' D' fl' st' n := by
  obtain ⟨DS, m, DS', m', h1, h2, h3, h4⟩ := h.s
  exact ⟨hf, h.f'.ch c fun k hk e => (h.dN k e).2 hk, h.dN, h.dN', DS, m, DS', m', h1.ch c fun k hk e => (h3 k hk).2.1 e, h2.ch c fun k hk e => (h4 k hk).2.1 e, h3, h4⟩
theorem A2.cut (h : A2 w N S X y D fl st S' X' y' D' fl' st' n) (k : Int) (t : Nat) (hk : -9223372036854775808 ≤ k ∧ k ≤ 9223372036854775807) (ht : t ≤ 18446744073709551615) : Calls Try.prog 22 #[fptr X, .int .i64 k, .int .u64 t] w fun e w' => e = .returned (.tuple #[]) ∧ A2 w' N S X y D (cutF fl k t) st S' X' y' D' fl' st' n ∧ Below N w w' := by
  refine (cutAfter_any h.f k t hk ht).mono ?_
  rintro e w' ⟨he, hf, c⟩
  exact ⟨he, h.flash hf c, c.below h.at1.N_le fun i hi => (h.dN i hi).1⟩
theorem A2.on (h : A2 w N S X y D fl st S' X' y' D' fl' st' n) : Calls Try.prog 25 #[fptr X] w fun e w' => e = .returned (.int .i64 (onF fl).1) ∧ A2 w' N S X y D (onF fl).2 st S' X' y' D' fl' st' n ∧ Below N w w' := by
  refine (powerOn_any h.f).mono ?_
  rintro e w' ⟨he, hf, c⟩
  exact ⟨he, h.flash hf c, c.below h.at1.N_le fun i hi => (h.dN i hi).1⟩
theorem A2.open {s1 : ST} (h : A2 w N S X y D fl st S' X' y' D' fl' st' n) (hn : 32 ≤ n) (hI : Inv fl s1) : Calls Try.prog 23 #[fptr X] w fun e w' => ∃ S1, e = .returned (.tuple #[fptr S1, .int .i64 0]) ∧ A2 w' N S1 X y D fl s1 S' X' y' D' fl' st' n ∧ Below w.heap.size w w' := by
  refine (open_any h.f).mono ?_
  rintro e w' ⟨b, ⟨c, h1, _⟩ | ⟨st1, S1, m1, DS1, h1, h2, h3, h4, _⟩⟩
  · rw [hI.opens] at h1; cases h1
  · rw [hI.opens] at h1
    injection h1 with _ h1
    injection h1 with h1
    subst h1
    obtain ⟨DS, m, DS', m', k1, k2, k3, k4⟩ := h.s
    have hN := h.at1.N_le
    refine ⟨S1, h2, ⟨h.f.below b, h.f'.below b, h.dN, h.dN', DS1, m1, DS', m', h4.mono hn, k2.below b, fun k hk => ?_, fun k hk => ⟨(k4 k hk).1, (k4 k hk).2.1, (k4 k hk).2.2⟩⟩, b⟩
    have hk' := h3 k hk
    exact ⟨Nat.le_trans hN hk', fun e => by have := h.f.fin k e; omega, fun e => by have := h.f'.fin k e; omega, fun e => by have := k2.fin k e; omega⟩
end
set_option maxRecDepth 100000 in
set_option maxHeartbeats 2000000 in
theorem retry_any (rB rP rE : Int) (a : Option Addr) (len cap : Nat) (l : List CV) (c : CV) (cut torn : Int) (w : World) (hl : CallS w a len cap l) (_ : -9223372036854775808 ≤ cut ∧ cut ≤ 9223372036854775807) (htorn : 0 ≤ torn ∧ torn ≤ 18446744073709551615) :
    Calls Try.prog 8 #[fsV rB rP rE, .slice a len cap, cva c, .int .i64 cut, .int .u64 torn] w fun e w' => e = .returned (.bool true) ∧ Below w.heap.size w w' := by
  unfold cva
  obtain ⟨tn, rfl⟩ : ∃ t : Nat, torn = (t : Int) := ⟨torn.toNat, by omega⟩
  have HL := Lib.hid hl
  have hcap : len ≤ cap := hl.2.1
  have hcapM := hl.2.2.1
  unfold maxLen at hcapM
  clear hl
  obtain ⟨T, hT⟩ : ∃ T, w.heap.size + 1 = T := ⟨_, rfl⟩
  have hsz : (w.alloc (.cells #[.int .i64 rB, .int .i64 rP, .int .i64 rE] 23)).heap.size = T := by simp [hT]
  have hB1 : Below w.heap.size w (w.alloc (.cells #[.int .i64 rB, .int .i64 rP, .int .i64 rE] 23)) := (Below.refl _ _).alloc (Nat.le_refl _) _
  have r0 := Row.ofList w 23 #[.int .i64 rB, .int .i64 rP, .int .i64 rE] (fsc rB rP rE) 3 rfl
  have q0 := r0.cell (i := 0) (by omega)
  have q1 := r0.cell (i := 1) (by omega)
  have q2 := r0.cell (i := 2) (by omega)
  have HBX := Lib.hid (BX.made (w.alloc (.cells #[.int .i64 rB, .int .i64 rP, .int .i64 rE] 23)) c)
  have hbb : Below (w.alloc (.cells #[.int .i64 rB, .int .i64 rP, .int .i64 rE] 23)).heap.size (w.alloc (.cells #[.int .i64 rB, .int .i64 rP, .int .i64 rE] 23)) ((w.alloc (.cells #[.int .i64 rB, .int .i64 rP, .int .i64 rE] 23)).alloc (.cells #[.int .i64 c.kd, .int .i64 c.nm, .int .i64 c.ln, .int .u8 (c.fi.toNat : Int)] 36)) := (Below.refl _ _).alloc (Nat.le_refl _) _
  have z0 : ((w.alloc (.cells #[.int .i64 rB, .int .i64 rP, .int .i64 rE] 23)).alloc (.cells #[.int .i64 c.kd, .int .i64 c.nm, .int .i64 c.ln, .int .u8 (c.fi.toNat : Int)] 36)).cell? ⟨w.heap.size, 0, none⟩ = some (.int .i64 rB) := (hbb.cell (p := ⟨w.heap.size, 0, none⟩) (by show w.heap.size < _; omega)).trans q0
  have z1 : ((w.alloc (.cells #[.int .i64 rB, .int .i64 rP, .int .i64 rE] 23)).alloc (.cells #[.int .i64 c.kd, .int .i64 c.nm, .int .i64 c.ln, .int .u8 (c.fi.toNat : Int)] 36)).cell? ⟨w.heap.size, 1, none⟩ = some (.int .i64 rP) := (hbb.cell (p := ⟨w.heap.size, 1, none⟩) (by show w.heap.size < _; omega)).trans q1
  have z2 : ((w.alloc (.cells #[.int .i64 rB, .int .i64 rP, .int .i64 rE] 23)).alloc (.cells #[.int .i64 c.kd, .int .i64 c.nm, .int .i64 c.ln, .int .u8 (c.fi.toNat : Int)] 36)).cell? ⟨w.heap.size, 2, none⟩ = some (.int .i64 rE) := (hbb.cell (p := ⟨w.heap.size, 2, none⟩) (by show w.heap.size < _; omega)).trans q2
  have HB0 : Hid (Below w.heap.size w ((w.alloc (.cells #[.int .i64 rB, .int .i64 rP, .int .i64 rE] 23)).alloc (.cells #[.int .i64 c.kd, .int .i64 c.nm, .int .i64 c.ln, .int .u8 (c.fi.toNat : Int)] 36))) := hB1.alloc hB1.size _
  have hsz2 : ((w.alloc (.cells #[.int .i64 rB, .int .i64 rP, .int .i64 rE] 23)).alloc (.cells #[.int .i64 c.kd, .int .i64 c.nm, .int .i64 c.ln, .int .u8 (c.fi.toNat : Int)] 36)).heap.size = T + 1 := by simp [hT]
  rw [hsz] at HBX
  clear r0 q0 q1 q2 hbb hB1
  go_enter Try.func8, Try.ntmps8
  go_upto_region 1 with fail
  generalize ((w.alloc (.cells #[.int .i64 rB, .int .i64 rP, .int .i64 rE] 23)).alloc (.cells #[.int .i64 c.kd, .int .i64 c.nm, .int .i64 c.ln, .int .u8 (c.fi.toNat : Int)] 36)) = w0 at *
  by_cases hbig : 20 < len
  · have hbI : (len : Int) > 20 := by omega
    have HAW := Lib.hid (awake_any w0)
    go_wp2_with fail
    refine HAW.out.mono ?_
    rintro e w1 ⟨rfl, b1⟩
    have HB1 : Hid (Below w.heap.size w w1) := HB0.out.trans (b1.mono HB0.out.size)
    clear b1 HAW HB0
    go_wp2_with fail
    go_ret
    exact ⟨rfl, HB1.out⟩
  have hbI : ¬ (len : Int) > 20 := by omega
  have HSH := Lib.hid (shape_law rB rP rE w0)
  have hB := shB_le rB
  have hP := shP_le rP
  have hE := shE_le rE
  generalize shB rB = B at *
  generalize shP rP = P at *
  generalize shE rE = E at *
  go_wp2_with fail
  refine HSH.out.mono ?_
  rintro e w1 ⟨rfl, b1⟩
  have HB1 : Hid (Below w.heap.size w w1) := HB0.out.trans (b1.mono HB0.out.size)
  have HX1 : Hid (BX w1 T c) := HBX.out.below b1 (by omega)
  have hTN : T < w1.heap.size := by have := b1.size; omega
  clear b1 HSH HB0 HBX z0 z1 z2 hsz hsz2
  go_wp2_with fail
  have HB2 : Hid (Below w.heap.size w (w1.alloc (.cells #[.int .i64 B, .int .i64 P, .int .i64 1000] 23))) := HB1.out.alloc HB1.out.size _
  have HX2 : Hid (BX (w1.alloc (.cells #[.int .i64 B, .int .i64 P, .int .i64 1000] 23)) T c) := HX1.out.below ((Below.refl _ _).alloc (Nat.le_refl _) _ : Below w1.heap.size w1 (w1.alloc (.cells #[.int .i64 B, .int .i64 P, .int .i64 1000] 23))) hTN
  have hTN2 : T < (w1.alloc (.cells #[.int .i64 B, .int .i64 P, .int .i64 1000] 23)).heap.size := by simp; omega
  clear HB1 HX1 hTN
  generalize (w1.alloc (.cells #[.int .i64 B, .int .i64 P, .int .i64 1000] 23)) = w2 at *
  refine (open_law w2 B P 1000 ⟨by omega, by omega⟩ ⟨by omega, by omega⟩ (by omega)).mono ?_
  rintro e w3 ⟨S, X, y, D, f1, rfl, ha, hI, hS, her, hc, hbl, b3⟩
  have HI : Hid (Inv f1 st0 ∧ f1.cut = false ∧ f1.E = 1000 ∧ st0.gen ≤ 1 + 0 ∧ ∀ b, f1.er b ≤ 0) := ⟨hI, hc, hS.2.2.1, Nat.le_refl _, fun b => by rw [her b]; omega⟩
  have HA : Hid (AT w3 w2.heap.size S X y D (32 + 0) f1 st0) := ha
  have HX3 : Hid (BX w3 T c) := HX2.out.below b3 hTN2
  have HB3 : Hid (Below w.heap.size w w3) := HB2.out.trans (b3.mono HB2.out.size)
  have hNw : w.heap.size ≤ w2.heap.size := HB2.out.size
  obtain ⟨N, hN⟩ : ∃ N, w2.heap.size = N := ⟨_, rfl⟩
  have hTN := hTN2
  rw [hN] at HA hNw hTN
  clear ha hI hS her hc hbl b3 hN HB2 HX2 hTN2 hT hB hP hE
  go_wp2_with fail
  go_loopw [15] (fun z wr => ∃ (i : Nat) (fl : FL) (st : ST), i ≤ len ∧ z = .int .i64 (i : Int) ∧ Hid (AT wr N S X y D (32 + i) fl st) ∧ Hid (Inv fl st ∧ fl.cut = false ∧ fl.E = 1000 ∧ st.gen ≤ 1 + i ∧ ∀ b, fl.er b ≤ i) ∧ Hid (BX wr T c) ∧ Hid (Below w.heap.size w wr)) (fun z _ => len - (intOf z).toNat)
  case atStart => exact ⟨0, f1, st0, by omega, rfl, HA, HI, HX3, HB3⟩
  case round =>
    clear HA HI HX3 HB3
    obtain ⟨i, fl, st, hi, rfl, HA, HI, HX, HB⟩ := hrel
    by_cases hlt : i < len
    · have y0 : (i : Int) < len := by omega
      obtain ⟨bb, o, ci, rfl, _, _, q0, q1, q2, q3⟩ := (HL.out.below HB.out (Nat.le_refl _)).at hlt
      have hcs := doF_cases HI.out.1 (by have := HI.out.2.2.2.1; omega) ci.kd ci.nm ci.ln ci.fi
      have hcalm := hcs.calm HI.out.1 HI.out.2.1
      have hdoC : doF fl st ci.kd ci.nm ci.ln ci.fi = doC fl st ci := rfl
      rw [hdoC] at hcalm
      obtain ⟨e1, f1, s1, hr1⟩ : ∃ e f s, doC fl st ci = (e, f, s) := ⟨_, _, _, rfl⟩
      rw [hr1] at hcalm
      simp only at hcalm
      have HI2 : Hid (Inv f1 s1 ∧ f1.cut = false ∧ f1.E = 1000 ∧ s1.gen ≤ 1 + (i + 1) ∧ ∀ b, f1.er b ≤ i + 1) := ⟨hcalm.1, hcalm.2.1, hcalm.2.2.1.2.2.1.trans HI.out.2.2.1, by have := hcalm.2.2.2.1; have := HI.out.2.2.2.1; omega, fun b => by have := hcalm.2.2.2.2 b; have := HI.out.2.2.2.2 b; omega⟩
      have HDO : Hid (Calls Try.prog 13 #[fptr S, .agg #[.int .i64 ci.kd, .int .i64 ci.nm, .int .i64 ci.ln, .int .u8 (ci.fi.toNat : Int)]] wr fun e w' => e = .returned (.int .i64 e1) ∧ AT w' N S X y D (32 + i + 1) f1 s1 ∧ Below N wr w') := by
        have := HA.out.do HI.out.1.blk (by omega) ci
        rw [hr1] at this
        exact this
      clear hcs hcalm hdoC hr1
      go_wp2_with fail
      refine HDO.out.mono ?_
      rintro e w4 ⟨rfl, ha, b4⟩
      have HA4 := Lib.hid ha
      have HX4 : Hid (BX w4 T c) := HX.out.below b4 hTN
      have HB4 : Hid (Below w.heap.size w w4) := HB.out.trans (b4.mono hNw)
      clear ha b4 HDO HA HB HX
      go_wp2_with fail
      go_roundw
      case rel => exact ⟨i + 1, f1, s1, by omega, by go_num, HA4, HI2, HX4, HB4⟩
      case measure => simp [intOf]; omega
    · have y0 : ¬ (i : Int) < len := by omega
      have hi20 : i ≤ 20 := by omega
      have HCP := Lib.hid (copy_any HA.out.f)
      go_wp2_with fail
      refine HCP.out.mono ?_
      rintro e w4 ⟨X', y', rfl, hf', b4⟩
      have HOP := Lib.hid (at_open (N := wr.heap.size) hf' (fun k hk => hk.1) HI.out.1)
      have HB4 := Lib.hid b4
      clear hf' b4 HCP
      go_wp2_with fail
      refine HOP.out.mono ?_
      rintro e w5 ⟨S', rfl, ha', b5⟩
      have HA5 : Hid (A2 w5 N S X y D fl st S' X' y' (fun k => wr.heap.size ≤ k ∧ k < w4.heap.size) fl st (32 + i)) := A2.of HA.out (HB4.out.trans (b5.mono HB4.out.size)) (ha'.mono (by omega))
      have hbw : Below wr.heap.size wr w5 := HB4.out.trans (b5.mono HB4.out.size)
      have HB5 : Hid (Below w.heap.size w w5) := HB.out.trans (hbw.mono HB.out.size)
      have HX5 : Hid (BX w5 T c) := HX.out.below hbw (Nat.lt_of_lt_of_le hTN HA.out.N_le)
      generalize (fun k => wr.heap.size ≤ k ∧ k < w4.heap.size) = D' at *
      clear ha' b5 hbw HOP HB4 HA HB HX
      have HDT := Lib.hid (HA5.out.swap.do HI.out.1.blk (by omega) c)
      have HMC : Hid (∀ w, Calls Try.prog 15 #[.int .i64 cut, .int .i64 8] w fun e w' => e = .returned (.int .i64 ((mo cut 8 : Nat) : Int)) ∧ w = w') := fun w => mod_any cut 8 w (by omega) (by omega)
      have hk8 : mo cut 8 < 8 := mo_lt cut 8 (by omega)
      generalize mo cut 8 = kc at *
      have HI' : Hid (Inv (cutF fl kc tn) st) := HI.out.1.cutF kc tn
      have HRL := Lib.hid (retry_law HI.out.1 HI'.out HI.out.2.1 rfl HI.out.2.2.1 HI.out.2.2.1 (fun b => by have := HI.out.2.2.2.2 b; omega) (fun b => by have := HI.out.2.2.2.2 b; show fl.er b < 999; omega) (by have := HI.out.2.2.2.1; omega) c.kd c.nm c.ln c.fi)
      have HBL : Hid (st.blk < fl.B) := HI.out.1.blk
      obtain ⟨e1, f1, s1, hr1⟩ : ∃ e f s, doC fl st c = (e, f, s) := ⟨_, _, _, rfl⟩
      have hdoC : doF fl st c.kd c.nm c.ln c.fi = doC fl st c := rfl
      rw [hdoC, hr1] at HRL
      rw [hr1] at HDT
      have HDT' : Hid (Calls Try.prog 13 #[fptr S', .agg #[.int .i64 c.kd, .int .i64 c.nm, .int .i64 c.ln, .int .u8 (c.fi.toNat : Int)]] w5 fun e w' => e = .returned (.int .i64 e1) ∧ A2 w' N S' X' y' D' f1 s1 S X y D fl st (32 + i + 1) ∧ Below N w5 w') := HDT
      have q0 := HX5.out.1
      have q1 := HX5.out.2.1
      have q2 := HX5.out.2.2.1
      have q3 := HX5.out.2.2.2
      clear hr1 hdoC HDT HI HI'
      go_wp2_with fail
      refine HDT'.out.mono ?_
      rintro e w6 ⟨rfl, ha, b6⟩
      have HA6 := Lib.hid ha.swap
      have HX6 : Hid (BX w6 T c) := HX5.out.below b6 hTN
      have HB6 : Hid (Below w.heap.size w w6) := HB5.out.trans (b6.mono hNw)
      clear ha b6 HDT' HA5 HX5 HB5 q0 q1 q2 q3
      have HM6 := Lib.hid (HMC.out w6)
      go_wp2_with fail
      refine HM6.out.mono ?_
      rintro e w' ⟨rfl, rfl⟩
      have HCA := Lib.hid (HA6.out.cut (kc : Int) tn (by omega) (by omega))
      clear HM6 HMC
      go_wp2_with fail
      refine HCA.out.mono ?_
      rintro e w7 ⟨rfl, ha, b7⟩
      have HA7 := Lib.hid ha
      have HX7 : Hid (BX w7 T c) := HX6.out.below b7 hTN
      have HB7 : Hid (Below w.heap.size w w7) := HB6.out.trans (b7.mono hNw)
      clear ha b7 HCA HA6 HX6 HB6
      have HBL7 : Hid (st.blk < (cutF fl kc tn).B) := HBL.out
      generalize cutF fl kc tn = fl' at *
      clear HBL
      obtain ⟨e2, f2, s2, hr2⟩ : ∃ e f s, doC fl' st c = (e, f, s) := ⟨_, _, _, rfl⟩
      have hdoC : doF fl' st c.kd c.nm c.ln c.fi = doC fl' st c := rfl
      have hrl := HRL.out
      rw [hdoC, hr2] at hrl
      have HDO := Lib.hid (HA7.out.do HBL7.out (by omega) c)
      rw [hr2] at HDO
      have HDO' : Hid (Calls Try.prog 13 #[fptr S, .agg #[.int .i64 c.kd, .int .i64 c.nm, .int .i64 c.ln, .int .u8 (c.fi.toNat : Int)]] w7 fun e w' => e = .returned (.int .i64 e2) ∧ A2 w' N S X y D f2 s2 S' X' y' D' f1 s1 (32 + i + 1 + 1) ∧ Below N w7 w') := HDO
      have q0 := HX7.out.1
      have q1 := HX7.out.2.1
      have q2 := HX7.out.2.2.1
      have q3 := HX7.out.2.2.2
      clear hr2 hdoC HDO HRL
      go_wp2_with fail
      refine HDO'.out.mono ?_
      rintro e w8 ⟨rfl, ha, b8⟩
      have HA8 := Lib.hid ha
      have HX8 : Hid (BX w8 T c) := HX7.out.below b8 hTN
      have HB8 : Hid (Below w.heap.size w w8) := HB7.out.trans (b8.mono hNw)
      clear ha b8 HDO' HA7 HX7 HB7 HBL7 q0 q1 q2 q3
      rcases hrl with ⟨h16, h1, h2⟩ | ⟨g, s', h1, hoff, hIn, hV, hE⟩
      · have h1' : e2 = e1 := h1
        have h16' : ¬ e2 = 16 := h16
        have HVV : Hid (s2.V = s1.V) := h2
        have b16 : (e2 == 16) = false := by rw [beq_eq_false_iff_ne]; exact h16'
        clear h1 h16 h2 HX8
        subst h1'
        obtain ⟨Lw, hLw⟩ : ∃ L, s1.V.length = L := ⟨_, rfl⟩
        have HLW := Lib.hid hLw
        have HL1 := Lib.hid (HA8.out.at1.list (by omega))
        rw [HVV.out, hLw] at HL1
        clear hLw
        go_wp2_with fail
        refine HL1.out.mono ?_
        rintro e wa ⟨g1, rfl, _, hv1, ba⟩
        have HV1 := Lib.hid hv1
        have HAa := Lib.hid (HA8.out.below ba)
        have HBa : Hid (Below w.heap.size w wa) := HB8.out.trans (ba.mono HB8.out.size)
        have HL2' := Lib.hid (HAa.out.swap.at1.list (by omega))
        rw [HLW.out] at HL2'
        clear hv1 ba HL1 HA8 HB8
        go_wp2_with fail
        refine HL2'.out.mono ?_
        rintro e wb ⟨g2, rfl, _, hv2, bb⟩
        have HEQ := Lib.hid (equalV_any (HV1.out.below bb) hv2 HLW.out HLW.out)
        have HBb : Hid (Below w.heap.size w wb) := HBa.out.trans (bb.mono HBa.out.size)
        rw [show decide (s1.V = s1.V) = true by simp] at HEQ
        clear hv2 bb HL2' HAa HBa HV1
        go_wp2_with fail
        refine HEQ.out.mono ?_
        rintro e wc ⟨rfl, cc⟩
        have HBc : Hid (Below w.heap.size w wc) := HBb.out.trans ((cc.below (B := wb.heap.size) (Nat.le_refl _) (fun _ h => h.elim)).mono HBb.out.size)
        have HAW := Lib.hid (awake_any wc)
        clear cc HEQ HBb
        go_wp2_with fail
        refine HAW.out.mono ?_
        rintro e wd ⟨rfl, bd⟩
        have HBd : Hid (Below w.heap.size w wd) := HBc.out.trans (bd.mono HBc.out.size)
        clear bd HAW
        go_wp2_with fail
        go_ret
        exact ⟨rfl, HBd.out⟩
      · injection h1 with h1 h5
        injection h5 with h5 h6
        subst h1 h5
        have h6' := h6.symm
        subst h6'
        have HIn := Lib.hid hIn
        have HON := Lib.hid HA8.out.on
        have hon : onF f2 = (0, f2.on) := by unfold onF; rw [if_pos hoff]; rfl
        rw [hon] at HON
        obtain ⟨e3, f3, s3, hr3⟩ : ∃ e f s, doC f2.on s' c = (e, f, s) := ⟨_, _, _, rfl⟩
        have hdoC : doF f2.on s' c.kd c.nm c.ln c.fi = doC f2.on s' c := rfl
        rw [hdoC, hr3] at hV hE
        have HVV : Hid (s3.V = s1.V) := hV
        have HE : Hid (e3 = e1 ∨ isDel c.kd ∧ e3 = 6) := hE
        have HR3 := Lib.hid hr3
        clear hoff hIn hon hr3 hdoC hV hE
        go_wp2_with fail
        refine HON.out.mono ?_
        rintro e w9 ⟨rfl, ha, b9⟩
        have HA9 : Hid (A2 w9 N S X y D f2.on st S' X' y' D' f1 s1 (32 + i + 1 + 1)) := ha
        have HX9 : Hid (BX w9 T c) := HX8.out.below b9 hTN
        have HB9 : Hid (Below w.heap.size w w9) := HB8.out.trans (b9.mono hNw)
        have HOP := Lib.hid (HA9.out.open (by omega) HIn.out)
        clear ha b9 HA8 HX8 HB8 HON
        go_wp2_with fail
        refine HOP.out.mono ?_
        rintro e wA ⟨S1, rfl, ha, bA⟩
        have HAA := Lib.hid ha
        have HXA : Hid (BX wA T c) := HX9.out.below bA (Nat.lt_of_lt_of_le hTN HA9.out.at1.N_le)
        have HBA : Hid (Below w.heap.size w wA) := HB9.out.trans (bA.mono HB9.out.size)
        have HDO := Lib.hid (HAA.out.do HIn.out.blk (by omega) c)
        rw [HR3.out] at HDO
        have HDO' : Hid (Calls Try.prog 13 #[fptr S1, .agg #[.int .i64 c.kd, .int .i64 c.nm, .int .i64 c.ln, .int .u8 (c.fi.toNat : Int)]] wA fun e w' => e = .returned (.int .i64 e3) ∧ A2 w' N S1 X y D f3 s3 S' X' y' D' f1 s1 (32 + i + 1 + 1 + 1) ∧ Below N wA w') := HDO
        have q0 := HXA.out.1
        have q1 := HXA.out.2.1
        have q2 := HXA.out.2.2.1
        have q3 := HXA.out.2.2.2
        clear ha bA HA9 HX9 HB9 HOP HDO HR3 HIn
        go_wp2_with fail
        refine HDO'.out.mono ?_
        rintro e wB ⟨rfl, ha, bB⟩
        have HAB := Lib.hid ha
        have HXB : Hid (BX wB T c) := HXA.out.below bB hTN
        have HBB : Hid (Below w.heap.size w wB) := HBA.out.trans (bB.mono hNw)
        clear ha bB HAA HXA HBA HDO' q0 q1 q2 q3
        obtain ⟨k8, hk8e⟩ : ∃ k, mo c.kd 8 = k := ⟨_, rfl⟩
        have hk8l : k8 < 8 := by rw [← hk8e]; exact mo_lt _ _ (by omega)
        have HM8 : Hid (Calls Try.prog 15 #[.int .i64 c.kd, .int .i64 8] wB fun e w' => e = .returned (.int .i64 ((mo c.kd 8 : Nat) : Int)) ∧ wB = w') := mod_any c.kd 8 wB (by omega) (by omega)
        rw [hk8e] at HM8
        have HDEL : Hid (isDel c.kd ↔ k8 = 5 ∨ k8 = 6) := by show _ ↔ _; unfold isDel; rw [hk8e]
        have q0 := HXB.out.1
        clear hk8e
        go_wp2_with fail
        refine HM8.out.mono ?_
        rintro e w' ⟨rfl, rfl⟩
        clear HM8 q0 HXB
        by_cases hd : isDel c.kd
        · rcases HDEL.out.1 hd with h8 | h8
          · have d5 : ((k8 : Int) == 5) = true := by rw [beq_iff_eq]; omega
            clear h8
            by_cases he6 : e3 = 6
            · have b6 : (e3 == 6) = true := by rw [beq_iff_eq]; exact he6
              obtain ⟨Lw, hLw⟩ : ∃ L, s1.V.length = L := ⟨_, rfl⟩
              have HLW := Lib.hid hLw
              have HL1 := Lib.hid (HAB.out.at1.list (by omega))
              rw [HVV.out, hLw] at HL1
              clear hLw
              go_wp2_with fail
              refine HL1.out.mono ?_
              rintro e wa ⟨g1, rfl, _, hv1, ba⟩
              have HV1 := Lib.hid hv1
              have HAa := Lib.hid (HAB.out.below ba)
              have HBa : Hid (Below w.heap.size w wa) := HBB.out.trans (ba.mono HBB.out.size)
              have HL2' := Lib.hid (HAa.out.swap.at1.list (by omega))
              rw [HLW.out] at HL2'
              clear hv1 ba HL1 HAB HBB
              go_wp2_with fail
              refine HL2'.out.mono ?_
              rintro e wb ⟨g2, rfl, _, hv2, bb⟩
              have HEQ := Lib.hid (equalV_any (HV1.out.below bb) hv2 HLW.out HLW.out)
              have HBb : Hid (Below w.heap.size w wb) := HBa.out.trans (bb.mono HBa.out.size)
              rw [show decide (s1.V = s1.V) = true by simp] at HEQ
              clear hv2 bb HL2' HAa HBa HV1
              go_wp2_with fail
              refine HEQ.out.mono ?_
              rintro e wc ⟨rfl, cc⟩
              have HBc : Hid (Below w.heap.size w wc) := HBb.out.trans ((cc.below (B := wb.heap.size) (Nat.le_refl _) (fun _ h => h.elim)).mono HBb.out.size)
              have HAW := Lib.hid (awake_any wc)
              clear cc HEQ HBb
              go_wp2_with fail
              refine HAW.out.mono ?_
              rintro e wd ⟨rfl, bd⟩
              have HBd : Hid (Below w.heap.size w wd) := HBc.out.trans (bd.mono HBc.out.size)
              clear bd HAW
              go_wp2_with fail
              go_ret
              exact ⟨rfl, HBd.out⟩
            · have b6 : (e3 == 6) = false := by rw [beq_eq_false_iff_ne]; exact he6
              have he : e3 = e1 := HE.out.resolve_right fun k => he6 k.2
              subst he
              obtain ⟨Lw, hLw⟩ : ∃ L, s1.V.length = L := ⟨_, rfl⟩
              have HLW := Lib.hid hLw
              have HL1 := Lib.hid (HAB.out.at1.list (by omega))
              rw [HVV.out, hLw] at HL1
              clear hLw
              go_wp2_with fail
              refine HL1.out.mono ?_
              rintro e wa ⟨g1, rfl, _, hv1, ba⟩
              have HV1 := Lib.hid hv1
              have HAa := Lib.hid (HAB.out.below ba)
              have HBa : Hid (Below w.heap.size w wa) := HBB.out.trans (ba.mono HBB.out.size)
              have HL2' := Lib.hid (HAa.out.swap.at1.list (by omega))
              rw [HLW.out] at HL2'
              clear hv1 ba HL1 HAB HBB
              go_wp2_with fail
              refine HL2'.out.mono ?_
              rintro e wb ⟨g2, rfl, _, hv2, bb⟩
              have HEQ := Lib.hid (equalV_any (HV1.out.below bb) hv2 HLW.out HLW.out)
              have HBb : Hid (Below w.heap.size w wb) := HBa.out.trans (bb.mono HBa.out.size)
              rw [show decide (s1.V = s1.V) = true by simp] at HEQ
              clear hv2 bb HL2' HAa HBa HV1
              go_wp2_with fail
              refine HEQ.out.mono ?_
              rintro e wc ⟨rfl, cc⟩
              have HBc : Hid (Below w.heap.size w wc) := HBb.out.trans ((cc.below (B := wb.heap.size) (Nat.le_refl _) (fun _ h => h.elim)).mono HBb.out.size)
              have HAW := Lib.hid (awake_any wc)
              clear cc HEQ HBb
              go_wp2_with fail
              refine HAW.out.mono ?_
              rintro e wd ⟨rfl, bd⟩
              have HBd : Hid (Below w.heap.size w wd) := HBc.out.trans (bd.mono HBc.out.size)
              clear bd HAW
              go_wp2_with fail
              go_ret
              exact ⟨rfl, HBd.out⟩
          · have d5 : ((k8 : Int) == 5) = false := by rw [beq_eq_false_iff_ne]; omega
            have d6 : ((k8 : Int) == 6) = true := by rw [beq_iff_eq]; omega
            clear h8
            by_cases he6 : e3 = 6
            · have b6 : (e3 == 6) = true := by rw [beq_iff_eq]; exact he6
              obtain ⟨Lw, hLw⟩ : ∃ L, s1.V.length = L := ⟨_, rfl⟩
              have HLW := Lib.hid hLw
              have HL1 := Lib.hid (HAB.out.at1.list (by omega))
              rw [HVV.out, hLw] at HL1
              clear hLw
              go_wp2_with fail
              refine HL1.out.mono ?_
              rintro e wa ⟨g1, rfl, _, hv1, ba⟩
              have HV1 := Lib.hid hv1
              have HAa := Lib.hid (HAB.out.below ba)
              have HBa : Hid (Below w.heap.size w wa) := HBB.out.trans (ba.mono HBB.out.size)
              have HL2' := Lib.hid (HAa.out.swap.at1.list (by omega))
              rw [HLW.out] at HL2'
              clear hv1 ba HL1 HAB HBB
              go_wp2_with fail
              refine HL2'.out.mono ?_
              rintro e wb ⟨g2, rfl, _, hv2, bb⟩
              have HEQ := Lib.hid (equalV_any (HV1.out.below bb) hv2 HLW.out HLW.out)
              have HBb : Hid (Below w.heap.size w wb) := HBa.out.trans (bb.mono HBa.out.size)
              rw [show decide (s1.V = s1.V) = true by simp] at HEQ
              clear hv2 bb HL2' HAa HBa HV1
              go_wp2_with fail
              refine HEQ.out.mono ?_
              rintro e wc ⟨rfl, cc⟩
              have HBc : Hid (Below w.heap.size w wc) := HBb.out.trans ((cc.below (B := wb.heap.size) (Nat.le_refl _) (fun _ h => h.elim)).mono HBb.out.size)
              have HAW := Lib.hid (awake_any wc)
              clear cc HEQ HBb
              go_wp2_with fail
              refine HAW.out.mono ?_
              rintro e wd ⟨rfl, bd⟩
              have HBd : Hid (Below w.heap.size w wd) := HBc.out.trans (bd.mono HBc.out.size)
              clear bd HAW
              go_wp2_with fail
              go_ret
              exact ⟨rfl, HBd.out⟩
            · have b6 : (e3 == 6) = false := by rw [beq_eq_false_iff_ne]; exact he6
              have he : e3 = e1 := HE.out.resolve_right fun k => he6 k.2
              subst he
              obtain ⟨Lw, hLw⟩ : ∃ L, s1.V.length = L := ⟨_, rfl⟩
              have HLW := Lib.hid hLw
              have HL1 := Lib.hid (HAB.out.at1.list (by omega))
              rw [HVV.out, hLw] at HL1
              clear hLw
              go_wp2_with fail
              refine HL1.out.mono ?_
              rintro e wa ⟨g1, rfl, _, hv1, ba⟩
              have HV1 := Lib.hid hv1
              have HAa := Lib.hid (HAB.out.below ba)
              have HBa : Hid (Below w.heap.size w wa) := HBB.out.trans (ba.mono HBB.out.size)
              have HL2' := Lib.hid (HAa.out.swap.at1.list (by omega))
              rw [HLW.out] at HL2'
              clear hv1 ba HL1 HAB HBB
              go_wp2_with fail
              refine HL2'.out.mono ?_
              rintro e wb ⟨g2, rfl, _, hv2, bb⟩
              have HEQ := Lib.hid (equalV_any (HV1.out.below bb) hv2 HLW.out HLW.out)
              have HBb : Hid (Below w.heap.size w wb) := HBa.out.trans (bb.mono HBa.out.size)
              rw [show decide (s1.V = s1.V) = true by simp] at HEQ
              clear hv2 bb HL2' HAa HBa HV1
              go_wp2_with fail
              refine HEQ.out.mono ?_
              rintro e wc ⟨rfl, cc⟩
              have HBc : Hid (Below w.heap.size w wc) := HBb.out.trans ((cc.below (B := wb.heap.size) (Nat.le_refl _) (fun _ h => h.elim)).mono HBb.out.size)
              have HAW := Lib.hid (awake_any wc)
              clear cc HEQ HBb
              go_wp2_with fail
              refine HAW.out.mono ?_
              rintro e wd ⟨rfl, bd⟩
              have HBd : Hid (Below w.heap.size w wd) := HBc.out.trans (bd.mono HBc.out.size)
              clear bd HAW
              go_wp2_with fail
              go_ret
              exact ⟨rfl, HBd.out⟩
        · have d5 : ((k8 : Int) == 5) = false := by rw [beq_eq_false_iff_ne]; exact fun k => hd (HDEL.out.2 (.inl (by omega)))
          have d6 : ((k8 : Int) == 6) = false := by rw [beq_eq_false_iff_ne]; exact fun k => hd (HDEL.out.2 (.inr (by omega)))
          have he : e3 = e1 := HE.out.resolve_right fun k => hd k.1
          subst he
          obtain ⟨Lw, hLw⟩ : ∃ L, s1.V.length = L := ⟨_, rfl⟩
          have HLW := Lib.hid hLw
          have HL1 := Lib.hid (HAB.out.at1.list (by omega))
          rw [HVV.out, hLw] at HL1
          clear hLw
          go_wp2_with fail
          refine HL1.out.mono ?_
          rintro e wa ⟨g1, rfl, _, hv1, ba⟩
          have HV1 := Lib.hid hv1
          have HAa := Lib.hid (HAB.out.below ba)
          have HBa : Hid (Below w.heap.size w wa) := HBB.out.trans (ba.mono HBB.out.size)
          have HL2' := Lib.hid (HAa.out.swap.at1.list (by omega))
          rw [HLW.out] at HL2'
          clear hv1 ba HL1 HAB HBB
          go_wp2_with fail
          refine HL2'.out.mono ?_
          rintro e wb ⟨g2, rfl, _, hv2, bb⟩
          have HEQ := Lib.hid (equalV_any (HV1.out.below bb) hv2 HLW.out HLW.out)
          have HBb : Hid (Below w.heap.size w wb) := HBa.out.trans (bb.mono HBa.out.size)
          rw [show decide (s1.V = s1.V) = true by simp] at HEQ
          clear hv2 bb HL2' HAa HBa HV1
          go_wp2_with fail
          refine HEQ.out.mono ?_
          rintro e wc ⟨rfl, cc⟩
          have HBc : Hid (Below w.heap.size w wc) := HBb.out.trans ((cc.below (B := wb.heap.size) (Nat.le_refl _) (fun _ h => h.elim)).mono HBb.out.size)
          have HAW := Lib.hid (awake_any wc)
          clear cc HEQ HBb
          go_wp2_with fail
          refine HAW.out.mono ?_
          rintro e wd ⟨rfl, bd⟩
          have HBd : Hid (Below w.heap.size w wd) := HBc.out.trans (bd.mono HBc.out.size)
          clear bd HAW
          go_wp2_with fail
          go_ret
          exact ⟨rfl, HBd.out⟩
end Go.Proofs.Ytfglopkglnpokaa
