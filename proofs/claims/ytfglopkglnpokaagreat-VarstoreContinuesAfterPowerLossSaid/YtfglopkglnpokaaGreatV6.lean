/- A law of the varstore, walked. Conditions: those that each theorem names. -/
import Derived.Test.YtfglopkglnpokaaGreatM8
import Derived.Test.YtfglopkglnpokaaGreatM14
import Derived.Test.YtfglopkglnpokaaGreatV4
namespace Go.Proofs.YtfglopkglnpokaaGreat
open Go.RowKit
theorem Inv.cutF {fl : FL} {st : ST} (h : Inv fl st) (n : Int) (t : Nat) : Inv (Go.Proofs.YtfglopkglnpokaaGreat.cutF fl n t) st :=
  ⟨h.B2, h.P2, h.l64, h.off, h.blk, h.g64, h.hd, h.run, h.nx, h.stp, h.cls, h.cap, h.oth, h.srt, h.ok, h.er⟩
/-- All variables bear one of the six names. -/
def KeysIn (V : Vars) : Prop := ∀ p ∈ V, ∃ j, j < 6 ∧ p.1 = nmJ j
theorem KeysIn.doV {V : Vars} (h : KeysIn V) (kd nm ln : Int) (fill : UInt8) : KeysIn (Go.Proofs.YtfglopkglnpokaaGreat.doV V kd nm ln fill) := by
  unfold Go.Proofs.YtfglopkglnpokaaGreat.doV
  split
  · exact fun p hp => h p (mem_delV hp)
  · intro p hp
    rcases mem_setV hp with e | e
    · exact ⟨mo nm 6, mo_lt nm 6 (by omega), by rw [e, nameOf_mo]⟩
    · exact h p e
def hasN (V : Vars) (j : Nat) : Bool := (getV V (nmJ j)).isSome
theorem KeysIn.len {V : Vars} (h : KeysIn V) (hV : Srt V) : V.length = cnt (hasN V) 6 := by
  refine MapIs.len (val := fun j => (getV V (nmJ j)).getD []) ⟨fun j _ => ?_, h⟩ hV
  unfold hasN
  cases hg : getV V (nmJ j) <;> simp [hg]
theorem doV_other {V : Vars} {kd nm ln : Int} {fill : UInt8} {j : Nat} (hj : j < 6) (hne : j ≠ mo nm 6) : getV (doV V kd nm ln fill) (nmJ j) = getV V (nmJ j) := by
  have h6 := mo_lt nm 6 (by omega)
  unfold doV
  split
  · rw [getV_del, nameOf_mo, if_neg (fun e => hne (nmJ_inj' hj h6 e))]
  · rw [getV_set, nameOf_mo, if_neg (fun e => hne (nmJ_inj' hj h6 e))]
theorem doV_this {V : Vars} {kd nm ln : Int} {fill : UInt8} : getV (doV V kd nm ln fill) (nmJ (mo nm 6)) = if isDel kd then none else some (valOf ln fill) := by
  unfold doV
  rw [← nameOf_mo]
  split
  · rw [getV_del, if_pos rfl]
  · rw [getV_set, if_pos rfl]
theorem DoR.keys {fl : FL} {st : ST} {kd nm ln : Int} {fill : UInt8} {r : Int × FL × ST} (k : DoR fl st kd nm ln fill r) (hc : fl.cut = false) (hK : KeysIn st.V) : KeysIn r.2.2.V := by
  cases k with
  | same h1 h2 h3 => exact hK
  | none h1 h2 => exact hK
  | done h1 hd =>
    obtain ⟨g, st', rfl, h2, h3, _⟩ := hd
    show KeysIn st'.V
    rw [h3]
    exact hK.doV kd nm ln fill
  | full h1 h2 => exact hK
  | lost h1 hl =>
    obtain ⟨h, _⟩ := hl
    rw [hc] at h; cases h
/-- A call under a planned loss of power. -/
theorem DoR.power {fl : FL} {st : ST} {kd nm ln : Int} {fill : UInt8} {r : Int × FL × ST} (h : Inv fl st) (k : DoR fl st kd nm ln fill r) :
    (∃ e g st', r = (e, g, st') ∧ (e = 0 ∨ ((e = 6 ∨ e = 8) ∧ st' = st ∧ g = fl)) ∧ Inv g st' ∧ (e = 0 → st'.V = doV st.V kd nm ln fill)) ∨
    (fl.cut = true ∧ ∃ g st', r = (16, g, st) ∧ g.off = true ∧ Inv g.on st' ∧ (st'.V = st.V ∨ st'.V = doV st.V kd nm ln fill) ∧ g.cut = false ∧ Same fl g ∧ st'.gen ≤ st.gen + 1 ∧ ∀ c, g.er c ≤ fl.er c + 1) := by
  cases k with
  | same h1 h2 h3 => exact .inl ⟨0, fl, st, rfl, .inl rfl, h, fun _ => h2.symm⟩
  | none h1 h2 => exact .inl ⟨6, fl, st, rfl, .inr ⟨.inl rfl, rfl, rfl⟩, h, fun e => by cases e⟩
  | done h1 hd =>
    obtain ⟨g, st', rfl, h2, h3, _⟩ := hd
    exact .inl ⟨0, g, st', rfl, .inl rfl, h2, fun _ => h3⟩
  | full h1 h2 => exact .inl ⟨8, fl, st, rfl, .inr ⟨.inr rfl, rfl, rfl⟩, h, fun e => by cases e⟩
  | lost h1 hl =>
    obtain ⟨hc, g, st', rfl, h2, h3, h4, h5, h6, h7, h8⟩ := hl
    exact .inr ⟨hc, g, st', rfl, h2, h5, h6, h3, h4, h7, h8⟩
end Go.Proofs.YtfglopkglnpokaaGreat
namespace Go.Proofs.YtfglopkglnpokaaGreat
open Go.RowKit
/-- What is left of the state, the power lost or not. -/
def LossI (fl : FL) (st : ST) (g : Nat) : Prop := (Inv fl st ∧ st.gen ≤ g) ∨ (fl.off = true ∧ ∃ st', Inv fl.on st' ∧ st'.gen ≤ g)
theorem LossI.mono {fl : FL} {st : ST} {g g' : Nat} (h : LossI fl st g) (hg : g ≤ g') : LossI fl st g' := by
  rcases h with ⟨h1, h2⟩ | ⟨h1, st', h2, h3⟩
  · exact .inl ⟨h1, Nat.le_trans h2 hg⟩
  · exact .inr ⟨h1, st', h2, Nat.le_trans h3 hg⟩
theorem DoR.loss {fl : FL} {st : ST} {kd nm ln : Int} {fill : UInt8} {r : Int × FL × ST} (h : Inv fl st) (k : DoR fl st kd nm ln fill r) : LossI r.2.1 r.2.2 (st.gen + 1) := by
  cases k with
  | same _ _ _ => exact .inl ⟨h, Nat.le_succ _⟩
  | none _ _ => exact .inl ⟨h, Nat.le_succ _⟩
  | done _ hd =>
    obtain ⟨g, st', rfl, h2, _, _, _, _, hg⟩ := hd
    refine .inl ⟨h2, ?_⟩
    show st'.gen ≤ st.gen + 1
    rcases hg with ⟨_, e, _⟩ | ⟨_, _, e, _⟩ <;> omega
  | full _ _ => exact .inl ⟨h, Nat.le_succ _⟩
  | lost _ hl =>
    obtain ⟨_, g, st', rfl, h2, _, _, h5, _, h7, _⟩ := hl
    exact .inr ⟨h2, st', h5, h7⟩
theorem LossI.on {fl : FL} {st : ST} {g : Nat} (h : LossI fl st g) : ∃ e fl2 st2, onF fl = (e, fl2) ∧ (e = 0 ∨ e = 9) ∧ Inv fl2 st2 ∧ st2.gen ≤ g := by
  rcases h with ⟨h1, h2⟩ | ⟨h1, st', h2, h3⟩
  · exact ⟨9, fl, st, by unfold onF; rw [if_neg (by rw [h1.off]; exact Bool.noConfusion)], .inr rfl, h1, h2⟩
  · exact ⟨0, fl.on, st', by unfold onF; rw [if_pos h1]; rfl, .inl rfl, h2, h3⟩
set_option maxRecDepth 100000 in
set_option maxHeartbeats 8000000 in
theorem cont_any (rB rP rE : Int) (a : Option Addr) (len cap : Nat) (l : List CV) (a2 : Option Addr) (len2 cap2 : Nat) (l2 : List CV) (cut torn : Int) (w : World) (hl : CallS w a len cap l) (hl2 : CallS w a2 len2 cap2 l2) (_ : -9223372036854775808 ≤ cut ∧ cut ≤ 9223372036854775807) (htorn : 0 ≤ torn ∧ torn ≤ 18446744073709551615) :
    Calls Tryz.prog 6 #[fsV rB rP rE, .slice a len cap, .slice a2 len2 cap2, .int .i64 cut, .int .u64 torn] w fun e w' => e = .returned (.bool true) ∧ Below w.heap.size w w' := by
  obtain ⟨tn, rfl⟩ : ∃ t : Nat, torn = (t : Int) := ⟨torn.toNat, by omega⟩
  have HL := Lib.hid hl
  have HL2 := Lib.hid hl2
  have hcap : len ≤ cap := hl.2.1
  have hcapM := hl.2.2.1
  have hcap2 : len2 ≤ cap2 := hl2.2.1
  have hcapM2 := hl2.2.2.1
  unfold maxLen at hcapM hcapM2
  clear hl hl2
  have HAW0 : Hid (Calls Tryz.prog 7 #[] (w.alloc (.cells #[.int .i64 rB, .int .i64 rP, .int .i64 rE] 23)) fun e w' => e = .returned (.bool true) ∧ Below (w.alloc (.cells #[.int .i64 rB, .int .i64 rP, .int .i64 rE] 23)).heap.size (w.alloc (.cells #[.int .i64 rB, .int .i64 rP, .int .i64 rE] 23)) w') := awake_any _
  have HB0 : Hid (Below w.heap.size w (w.alloc (.cells #[.int .i64 rB, .int .i64 rP, .int .i64 rE] 23))) := (Below.refl _ _).alloc (Nat.le_refl _) _
  by_cases hbig : 15 < len
  · have hbI : (len : Int) > 15 := by omega
    go_enter Tryz.func6, Tryz.ntmps6
    go_wp2_with fail
    refine HAW0.out.mono ?_
    rintro e w1 ⟨rfl, b1⟩
    have HB1 : Hid (Below w.heap.size w w1) := HB0.out.trans (b1.mono HB0.out.size)
    clear b1 HAW0 HB0
    go_wp2_with fail
    go_ret
    exact ⟨rfl, HB1.out⟩
  by_cases hbig2 : 15 < len2
  · have hbI : ¬ (len : Int) > 15 := by omega
    have hbI2 : (len2 : Int) > 15 := by omega
    go_enter Tryz.func6, Tryz.ntmps6
    go_wp2_with fail
    refine HAW0.out.mono ?_
    rintro e w1 ⟨rfl, b1⟩
    have HB1 : Hid (Below w.heap.size w w1) := HB0.out.trans (b1.mono HB0.out.size)
    clear b1 HAW0 HB0
    go_wp2_with fail
    go_ret
    exact ⟨rfl, HB1.out⟩
  · have hbI : ¬ (len : Int) > 15 := by omega
    have hbI2 : ¬ (len2 : Int) > 15 := by omega
    have HM20 : Hid (∀ w, Calls Tryz.prog 11 #[.int .i64 cut, .int .i64 20] w fun e w' => e = .returned (.int .i64 ((mo cut 20 : Nat) : Int)) ∧ w = w') := fun w => mod_any cut 20 w (by omega) (by omega)
    have hl20 := mo_lt cut 20 (by omega)
    obtain ⟨m20, hm20⟩ : ∃ x, mo cut 20 = x := ⟨_, rfl⟩
    rw [hm20] at HM20 hl20
    clear hm20
    have r0 := Row.ofList w 23 #[.int .i64 rB, .int .i64 rP, .int .i64 rE] (fsc rB rP rE) 3 rfl
    have z0 : (w.alloc (.cells #[.int .i64 rB, .int .i64 rP, .int .i64 rE] 23)).cell? ⟨w.heap.size, 0, none⟩ = some (.int .i64 rB) := r0.cell (i := 0) (by omega)
    have z1 : (w.alloc (.cells #[.int .i64 rB, .int .i64 rP, .int .i64 rE] 23)).cell? ⟨w.heap.size, 1, none⟩ = some (.int .i64 rP) := r0.cell (i := 1) (by omega)
    have z2 : (w.alloc (.cells #[.int .i64 rB, .int .i64 rP, .int .i64 rE] 23)).cell? ⟨w.heap.size, 2, none⟩ = some (.int .i64 rE) := r0.cell (i := 2) (by omega)
    have HSH := Lib.hid (shape_law rB rP rE (w.alloc (.cells #[.int .i64 rB, .int .i64 rP, .int .i64 rE] 23)))
    have hB := shB_le rB
    have hP := shP_le rP
    have hE := shE_le rE
    generalize shB rB = B at *
    generalize shP rP = P at *
    generalize shE rE = E at *
    clear r0 HAW0
    go_enter Tryz.func6, Tryz.ntmps6
    go_wp2_with fail
    refine HSH.out.mono ?_
    rintro e w1 ⟨rfl, b1⟩
    have HB1 : Hid (Below w.heap.size w w1) := HB0.out.trans (b1.mono HB0.out.size)
    clear b1 HSH HB0 z0 z1 z2

    have hT0 : Row (w1.alloc (.cells #[.int .i64 0, .int .i64 0, .int .i64 0] 23)) w1.heap.size 23 3 (fsc 0 0 0) := Row.ofList w1 23 _ _ 3 rfl
    have b4 : Below w1.heap.size w1 (w1.alloc (.cells #[.int .i64 0, .int .i64 0, .int .i64 0] 23)) := (Below.refl _ _).alloc (Nat.le_refl _) _
    obtain ⟨T, hT⟩ : ∃ T, w1.heap.size = T := ⟨_, rfl⟩
    obtain ⟨V2, hV2⟩ : ∃ V2, w1.alloc (.cells #[.int .i64 0, .int .i64 0, .int .i64 0] 23) = V2 := ⟨_, rfl⟩
    have hTw : w.heap.size ≤ T := by rw [← hT]; exact HB1.out.size
    rw [hT, hV2] at hT0
    rw [hV2] at b4
    have hB2' := HB1.out.trans (b4.mono HB1.out.size)
    have r0 := hT0.cell (i := 0) (by omega)
    have r1 := hT0.cell (i := 1) (by omega)
    have r2 := hT0.cell (i := 2) (by omega)
    have f0 := hT0.frozen 0
    have f1' := hT0.frozen 1
    have f2' := hT0.frozen 2
    have hT6 := ((hT0.set (i := 0) (by omega) (.int .i64 (B : Int))).set (i := 1) (by omega) (.int .i64 (P : Int))).set (i := 2) (by omega) (.int .i64 (E : Int))
    have HTc : Hid ((((V2.setCell ⟨T, 0, none⟩ (.int .i64 (B : Int))).setCell ⟨T, 1, none⟩ (.int .i64 (P : Int))).setCell ⟨T, 2, none⟩ (.int .i64 (E : Int))).cell? ⟨T, 0, none⟩ = some (.int .i64 B) ∧ (((V2.setCell ⟨T, 0, none⟩ (.int .i64 (B : Int))).setCell ⟨T, 1, none⟩ (.int .i64 (P : Int))).setCell ⟨T, 2, none⟩ (.int .i64 (E : Int))).cell? ⟨T, 1, none⟩ = some (.int .i64 P) ∧ (((V2.setCell ⟨T, 0, none⟩ (.int .i64 (B : Int))).setCell ⟨T, 1, none⟩ (.int .i64 (P : Int))).setCell ⟨T, 2, none⟩ (.int .i64 (E : Int))).cell? ⟨T, 2, none⟩ = some (.int .i64 E)) := ⟨hT6.cell (i := 0) (by omega), hT6.cell (i := 1) (by omega), hT6.cell (i := 2) (by omega)⟩
    have HTl : Hid (T < (((V2.setCell ⟨T, 0, none⟩ (.int .i64 (B : Int))).setCell ⟨T, 1, none⟩ (.int .i64 (P : Int))).setCell ⟨T, 2, none⟩ (.int .i64 (E : Int))).heap.size) := hT6.lt
    have HB2 : Hid (Below w.heap.size w (((V2.setCell ⟨T, 0, none⟩ (.int .i64 (B : Int))).setCell ⟨T, 1, none⟩ (.int .i64 (P : Int))).setCell ⟨T, 2, none⟩ (.int .i64 (E : Int)))) := ((hB2'.setCell (p := ⟨T, 0, none⟩) hTw _).setCell (p := ⟨T, 1, none⟩) hTw _).setCell (p := ⟨T, 2, none⟩) hTw _
    clear hT0 b4 hB2' hT6 HB1
    go_wp2_with fail
    clear hT hV2 r0 r1 r2 f0 f1' f2'
    generalize ((V2.setCell ⟨T, 0, none⟩ (.int .i64 (B : Int))).setCell ⟨T, 1, none⟩ (.int .i64 (P : Int))).setCell ⟨T, 2, none⟩ (.int .i64 (E : Int)) = w2 at *
    have t0 := HTc.out.1
    have t1 := HTc.out.2.1
    have t2 := HTc.out.2.2
    refine (open_law2 w2 B P E ⟨by omega, by omega⟩ ⟨by omega, by omega⟩ (by omega)).mono ?_
    rintro e w3 ⟨S, X, y, D, f1, rfl, hfm, ha, hI, hSm, her, hc, hbl, b3⟩
    have HI : Hid (Inv f1 st0 ∧ f1.cut = false ∧ st0.gen ≤ 1 + 0) := ⟨hI, hc, Nat.le_refl _⟩
    have HAT : Hid (AT w3 w2.heap.size S X y D 32 f1 st0) := ha
    have HFM := Lib.hid hfm
    have HB3 : Hid (Below w.heap.size w w3) := HB2.out.trans (b3.mono HB2.out.size)
    have hNw : w.heap.size ≤ w2.heap.size := HB2.out.size
    have t0 := cell_later b3 HTc.out.1
    have t1 := cell_later b3 HTc.out.2.1
    have t2 := cell_later b3 HTc.out.2.2
    obtain ⟨N, hN⟩ : ∃ N, w2.heap.size = N := ⟨_, rfl⟩
    rw [hN] at HAT hNw
    clear hfm ha hI hSm her hc hbl b3 hN HB2 HTl HTc
    have HNW := Lib.hid (rnew_any w3 B P E ⟨by omega, by omega⟩ ⟨by omega, by omega⟩ (by omega))
    go_wp2_with fail
    refine HNW.out.mono ?_
    rintro e w4 ⟨X', y', rfl, hrw, b4⟩
    have HRW4 := Lib.hid hrw
    have HB34 := Lib.hid b4
    clear hrw b4 HNW t0 t1 t2
    have HFMC : Hid (Calls Tryz.prog 27 #[fptr X'] w4 fun e w' => e = .returned (.int .i64 0) ∧ RW w' (fun k => w3.heap.size ≤ k ∧ k < w4.heap.size) X' y' f1 ∧ Ch (fun k => w3.heap.size ≤ k ∧ k < w4.heap.size) w4 w') := by
      have := rformat_any HRW4.out rfl (fun b => pages_blank fun q _ => rfl) hB.1 hP.1
      rw [HFM.out] at this
      exact this
    go_wp2_with fail
    refine HFMC.out.mono ?_
    rintro e w5 ⟨rfl, h5, c5⟩
    have HRW5 := Lib.hid h5
    have HB35 : Hid (Below w3.heap.size w3 w5) := HB34.out.trans ((c5.below (B := w3.heap.size) HB34.out.size (fun i hi => hi.1)))
    have hs45 := c5.size
    clear h5 c5 HFMC HRW4
    have HROP := Lib.hid (ropen_any HRW5.out)
    go_wp2_with fail
    refine HROP.out.mono ?_
    rintro e w6 ⟨b6, hor⟩
    have hor2 : ∃ S' DS', e = .returned (.tuple #[fptr S', .int .i64 0]) ∧ (∀ k, DS' k → w5.heap.size ≤ k) ∧ RS w6 DS' S' X' st0 := by
      rcases hor with ⟨c, h1, _⟩ | ⟨st', S', DS', h1, h2, h3, h4, _⟩
      · rw [HI.out.1.opens] at h1; cases h1
      · rw [HI.out.1.opens] at h1
        injection h1 with _ h1
        injection h1 with h1
        subst h1
        exact ⟨S', DS', h2, h3, h4⟩
    obtain ⟨S', DS', rfl, hD5, hrs⟩ := hor2
    have HB36 : Hid (Below w3.heap.size w3 w6) := HB35.out.trans (b6.mono HB35.out.size)
    obtain ⟨D', hD'⟩ : ∃ D' : Nat → Prop, (fun k => w3.heap.size ≤ k ∧ k < w4.heap.size) = D' := ⟨_, rfl⟩
    have HA : Hid (AG w6 N S X (32 + 0) y D f1 st0 S' X' y' D' f1 st0) := by
      have h5 := HRW5.out.below b6
      rw [hD'] at h5
      exact AG.made HAT.out HB36.out h5 (fun k hk => by rw [← hD'] at hk; exact hk.1) hrs (fun k hk => ⟨by have := hD5 k hk; have := HB35.out.size; omega, fun e => by rw [← hD'] at e; have := e.2; have := hD5 k hk; omega⟩)
    have HB6 : Hid (Below w.heap.size w w6) := HB3.out.trans (HB36.out.mono HB3.out.size)
    clear hor hD5 hrs b6 HROP HRW5 HB35 HB34 HB36 HAT HB3 hD' hs45 HFM
    generalize w3.heap.size = z3 at *
    go_wp2_with fail
    have HI0 : Hid (LossI (cutF f1 (m20 : Int) tn) st0 (1 + 0)) := .inl ⟨HI.out.1.cutF _ _, HI.out.2.2⟩
    refine (HM20.out _).mono ?_
    rintro e w' ⟨rfl, rfl⟩
    have HCU := Lib.hid (cutAfter_any HA.out.a.f (m20 : Int) tn (by omega) (by omega))
    go_wp2_with fail
    refine HCU.out.mono ?_
    rintro e w7 ⟨rfl, h7, c7⟩
    have hc7 := HA.out.ch1 h7 c7
    have HA7 := Lib.hid hc7.1
    have HB7 : Hid (Below w.heap.size w w7) := HB6.out.trans (hc7.2.mono hNw)
    clear h7 c7 hc7 HCU HA HB6
    go_wp2_with fail
    refine (HM20.out _).mono ?_
    rintro e w' ⟨rfl, rfl⟩
    have HCU := Lib.hid (rcutAfter_any HA7.out.a.f' (m20 : Int) tn (by omega) (by omega))
    go_wp2_with fail
    refine HCU.out.mono ?_
    rintro e w8 ⟨rfl, h8, c8⟩
    have hc8 := HA7.out.ch2 h8 c8
    have HA8 := Lib.hid hc8.1
    have HB8 : Hid (Below w.heap.size w w8) := HB7.out.trans (hc8.2.mono hNw)
    clear h8 c8 hc8 HCU HA7 HB7 HI HM20
    go_wp2_with fail
    go_loopw [19] (fun z wr => ∃ (i : Nat) (fl : FL) (st : ST), i ≤ len ∧ z = .int .i64 (i : Int) ∧ Hid (AG wr N S X (32 + i) y D fl st S' X' y' D' fl st) ∧ Hid (LossI fl st (1 + i)) ∧ Hid (Below w.heap.size w wr)) (fun z _ => len - (intOf z).toNat)
    case atStart => exact ⟨0, cutF f1 (m20 : Int) tn, st0, by omega, rfl, HA8, HI0, HB8⟩
    case round =>
      clear HA8 HI0 HB8
      obtain ⟨i, fl, st, hi, rfl, HA, HI, HB⟩ := hrel
      have c5 := HA.out.a.f'.c5
      by_cases hlt : i < len
      · have y0 : (i : Int) < len := by omega
        cases hoff : fl.off
        · rw [hoff] at c5
          have HI1 : Hid (Inv fl st ∧ st.gen ≤ 1 + i) := by
            rcases HI.out with h | ⟨h, _⟩
            · exact h
            · rw [hoff] at h; cases h
          obtain ⟨bb, o, c, rfl, hbw, _, p0, p1, p2, p3⟩ := HL.out.at hlt
          have q0 : wr.cell? ⟨bb, o + i * 4, none⟩ = some (.int .i64 c.kd) := (HB.out.cell (p := ⟨bb, o + i * 4, none⟩) hbw).trans p0
          have q1 : wr.cell? ⟨bb, o + i * 4 + 1, none⟩ = some (.int .i64 c.nm) := (HB.out.cell (p := ⟨bb, o + i * 4 + 1, none⟩) hbw).trans p1
          have q2 : wr.cell? ⟨bb, o + i * 4 + 2, none⟩ = some (.int .i64 c.ln) := (HB.out.cell (p := ⟨bb, o + i * 4 + 2, none⟩) hbw).trans p2
          have q3 : wr.cell? ⟨bb, o + i * 4 + 3, none⟩ = some (.int .u8 (c.fi.toNat : Int)) := (HB.out.cell (p := ⟨bb, o + i * 4 + 3, none⟩) hbw).trans p3
          clear p0 p1 p2 p3
          have hcalm := (doF_cases HI1.out.1 (by have := HI1.out.2; omega) c.kd c.nm c.ln c.fi).loss HI1.out.1
          have hdoC : doF fl st c.kd c.nm c.ln c.fi = doC fl st c := rfl
          rw [hdoC] at hcalm
          have HD1 := Lib.hid (HA.out.drewA.do HI1.out.1.blk (by omega) c)
          have hD2 := fun wx (hx : AG wx N S X (32 + i + 1) y D (doC fl st c).2.1 (doC fl st c).2.2 S' X' y' D' fl st) => hx.want HI1.out.1.blk c
          obtain ⟨e1, f1, s1, hr1⟩ : ∃ e f s, doC fl st c = (e, f, s) := ⟨_, _, _, rfl⟩
          rw [hr1] at hcalm HD1
          simp only [hr1] at hD2
          simp only at hcalm
          have HD2 := Lib.hid hD2
          have HI2 : Hid (LossI f1 s1 (1 + (i + 1))) := hcalm.mono (by have := HI1.out.2; omega)
          have HD1' : Hid (Calls Tryz.prog 28 #[fptr S, .agg #[.int .i64 c.kd, .int .i64 c.nm, .int .i64 c.ln, .int .u8 (c.fi.toNat : Int)]] wr.drew fun e w' => e = .returned (.int .i64 e1) ∧ AG w' N S X (32 + i + 1) y D f1 s1 S' X' y' D' fl st ∧ Below N wr.drew w') := HD1
          have HD2' : Hid (∀ wx, AG wx N S X (32 + i + 1) y D f1 s1 S' X' y' D' fl st → Calls Tryz.prog 29 #[fptr S', .agg #[.int .i64 c.kd, .int .i64 c.nm, .int .i64 c.ln, .int .u8 (c.fi.toNat : Int)]] wx fun e w' => e = .returned (.int .i64 e1) ∧ AG w' N S X (32 + i + 1) y D f1 s1 S' X' y' D' f1 s1 ∧ Below N wx w') := HD2
          have S1 : Hid (wr.drew.cell? ⟨bb, o + i * 4, none⟩ = some (.int .i64 c.kd) ∧ wr.drew.cell? ⟨bb, o + i * 4 + 1, none⟩ = some (.int .i64 c.nm) ∧ wr.drew.cell? ⟨bb, o + i * 4 + 2, none⟩ = some (.int .i64 c.ln) ∧ wr.drew.cell? ⟨bb, o + i * 4 + 3, none⟩ = some (.int .u8 (c.fi.toNat : Int))) := ⟨q0, q1, q2, q3⟩
          have HBd : Hid (Below w.heap.size w wr.drew) := HB.out.drew
          clear hcalm hdoC hr1 HD1 HD2 hD2 q0 q1 q2 q3 HA HB
          go_wp2_with fail
          clear hoff
          refine wp_region_pl (fun Y => Y.cell? ⟨bb, o + i * 4, none⟩ = some (.int .i64 c.kd) ∧ Y.cell? ⟨bb, o + i * 4 + 1, none⟩ = some (.int .i64 c.nm) ∧ Y.cell? ⟨bb, o + i * 4 + 2, none⟩ = some (.int .i64 c.ln) ∧ Y.cell? ⟨bb, o + i * 4 + 3, none⟩ = some (.int .u8 (c.fi.toNat : Int))) ((0, 0) :: (1, 0) :: (2, 0) :: (3, 0) :: (4, 0) :: (6, 0) :: (7, 0) :: (8, 0) :: (9, 0) :: (10, 0) :: (5, 1) :: (11, 1) :: (12, 0) :: []) (by kernel_rfl) (by kernel_rfl) ?_
          iterate 10 (apply wpP_go; (focus rfl); (focus rfl); (focus exact S1.out); (focus (rintro Q ⟨s0, s1, s2, s3⟩; go_simp; exact rfl)); intro K hK; go_simp; refine hK _ ?_; clear hK K)
          apply wpP_one
          focus rfl
          intro K hK
          go_simp
          refine HD1'.out.mono ?_
          rintro e V1 ⟨rfl, ha, b1⟩
          have hq1 : ∀ j, V1.cell? ⟨bb, j, none⟩ = wr.drew.cell? ⟨bb, j, none⟩ := fun j => b1.cell (p := ⟨bb, j, none⟩) (by show bb < N; omega)
          have S2 : Hid (V1.cell? ⟨bb, o + i * 4, none⟩ = some (.int .i64 c.kd) ∧ V1.cell? ⟨bb, o + i * 4 + 1, none⟩ = some (.int .i64 c.nm) ∧ V1.cell? ⟨bb, o + i * 4 + 2, none⟩ = some (.int .i64 c.ln) ∧ V1.cell? ⟨bb, o + i * 4 + 3, none⟩ = some (.int .u8 (c.fi.toNat : Int))) := ⟨(hq1 _).trans S1.out.1, (hq1 _).trans S1.out.2.1, (hq1 _).trans S1.out.2.2.1, (hq1 _).trans S1.out.2.2.2⟩
          have HD3 := Lib.hid (HD2'.out _ ha)
          have HB1 : Hid (Below w.heap.size w V1) := HBd.out.trans (b1.mono hNw)
          refine hK _ _ S2.out ?_
          clear hK K ha b1 hq1 S1 HD1' HD2' HBd
          apply wpP_one
          focus rfl
          intro K hK
          go_simp
          refine HD3.out.mono ?_
          rintro e V2 ⟨rfl, ha, b2⟩
          have hq2 : ∀ j, V2.cell? ⟨bb, j, none⟩ = V1.cell? ⟨bb, j, none⟩ := fun j => b2.cell (p := ⟨bb, j, none⟩) (by show bb < N; omega)
          have S3 : Hid (V2.cell? ⟨bb, o + i * 4, none⟩ = some (.int .i64 c.kd) ∧ V2.cell? ⟨bb, o + i * 4 + 1, none⟩ = some (.int .i64 c.nm) ∧ V2.cell? ⟨bb, o + i * 4 + 2, none⟩ = some (.int .i64 c.ln) ∧ V2.cell? ⟨bb, o + i * 4 + 3, none⟩ = some (.int .u8 (c.fi.toNat : Int))) := ⟨(hq2 _).trans S2.out.1, (hq2 _).trans S2.out.2.1, (hq2 _).trans S2.out.2.2.1, (hq2 _).trans S2.out.2.2.2⟩
          have HA2 : Hid (AG V2 N S X (32 + i + 1) y D f1 s1 S' X' y' D' f1 s1) := ha
          have HB2 : Hid (Below w.heap.size w V2) := HB1.out.trans (b2.mono hNw)
          refine hK _ _ S3.out ?_
          clear hK K ha b2 hq2 S2 HD3 HB1
          iterate 1 (apply wpP_go; (focus rfl); (focus rfl); (focus exact S3.out); (focus (rintro Q ⟨s0, s1, s2, s3⟩; go_simp; exact rfl)); intro K hK; go_simp; refine hK _ ?_; clear hK K)
          refine wpP_done ?_
          clear S3
          go_wp2_with fail
          go_roundw
          case rel => exact ⟨i + 1, f1, s1, by omega, by go_num, HA2.out.mono (by omega), HI2, HB2⟩
          case measure => simp [intOf]; omega
        · rw [hoff] at c5
          clear hoff
          obtain ⟨eo, fl2, st2, hon, heo, hI2, hg2⟩ := HI.out.on
          have HP1 := Lib.hid (powerOn_any HA.out.a.f)
          rw [hon] at HP1
          have HON := Lib.hid hon
          have HI2 : Hid (Inv fl2 st2 ∧ st2.gen ≤ 16) := ⟨hI2, by omega⟩
          clear hon hI2 hg2
          go_wp2_with fail
          clear c5
          refine HP1.out.mono ?_
          rintro e w7 ⟨rfl, h7, c7⟩
          have hc7 := HA.out.a.ch1 h7 c7
          have HA7 := Lib.hid hc7.1
          have HB7 : Hid (Below w.heap.size w w7) := HB.out.trans (hc7.2.mono hNw)
          clear h7 c7 hc7 HP1 HA HB HI
          have HP2 := Lib.hid (ron_any HA7.out.f')
          rw [HON.out] at HP2
          go_wp2_with fail
          refine HP2.out.mono ?_
          rintro e w8 ⟨rfl, h8, c8⟩
          have hc8 := HA7.out.ch2 h8 c8
          have HA8 := Lib.hid hc8.1
          have HB8 : Hid (Below w.heap.size w w8) := HB7.out.trans (hc8.2.mono hNw)
          clear h8 c8 hc8 HP2 HA7 HB7 HON
          have HCU := Lib.hid (cutAfter_any HA8.out.f (-1) 0 (by omega) (by omega))
          have hi3 : Hid (Inv (cutF fl2 (-1) 0) st2 ∧ (cutF fl2 (-1) 0).cut = false ∧ st2.gen ≤ 16 + 0) := ⟨HI2.out.1.cutF _ _, rfl, HI2.out.2⟩
          have hbb : ((eo == 0) != (eo == 0)) = false := by simp
          go_wp2_with fail
          refine HCU.out.mono ?_
          rintro e w9 ⟨rfl, h9, c9⟩
          have hc9 := HA8.out.ch1 h9 c9
          have HA9 := Lib.hid hc9.1
          have HB9 : Hid (Below w.heap.size w w9) := HB8.out.trans (hc9.2.mono hNw)
          clear h9 c9 hc9 HCU HA8 HB8
          have HCU := Lib.hid (rcutAfter_any HA9.out.f' (-1) 0 (by omega) (by omega))
          go_wp2_with fail
          refine HCU.out.mono ?_
          rintro e wA ⟨rfl, hA', cA⟩
          have hcA := HA9.out.ch2 hA' cA
          have HAA := Lib.hid hcA.1
          have HBA : Hid (Below w.heap.size w wA) := HB9.out.trans (hcA.2.mono hNw)
          clear hA' cA hcA HCU HA9 HB9 HI2
          generalize cutF fl2 (-1) 0 = fl3 at *
          have HOP := Lib.hid (open_any HAA.out.f)
          go_wp2_with fail
          refine HOP.out.mono ?_
          rintro e w4 ⟨b4, hor⟩
          have hor2 : ∃ Sa m2 DS2, e = .returned (.tuple #[fptr Sa, .int .i64 0]) ∧ (∀ k, DS2 k → wA.heap.size ≤ k) ∧ SW w4 DS2 Sa X m2 32 st2 := by
            rcases hor with ⟨c, h1, _⟩ | ⟨st', Sa, m2, DS2, h1, h2, h3, h4, _⟩
            · rw [hi3.out.1.opens] at h1; cases h1
            · rw [hi3.out.1.opens] at h1
              injection h1 with _ h1
              injection h1 with h1
              subst h1
              exact ⟨Sa, m2, DS2, h2, h3, h4⟩
          obtain ⟨Sa, m2, DS2, rfl, hD2, hs2⟩ := hor2
          have HB4 := Lib.hid b4
          have HS2 := Lib.hid (And.intro hD2 hs2)
          have HROP := Lib.hid (ropen_any (HAA.out.f'.below b4))
          clear hor hD2 hs2 b4 HOP
          go_wp2_with fail
          refine HROP.out.mono ?_
          rintro e w5 ⟨b5, hor⟩
          have hor2 : ∃ Sb DS3, e = .returned (.tuple #[fptr Sb, .int .i64 0]) ∧ (∀ k, DS3 k → w4.heap.size ≤ k) ∧ RS w5 DS3 Sb X' st2 := by
            rcases hor with ⟨c, h1, _⟩ | ⟨st', Sb, DS3, h1, h2, h3, h4, _⟩
            · rw [hi3.out.1.opens] at h1; cases h1
            · rw [hi3.out.1.opens] at h1
              injection h1 with _ h1
              injection h1 with h1
              subst h1
              exact ⟨Sb, DS3, h2, h3, h4⟩
          obtain ⟨Sb, DS3, rfl, hD3, hs3⟩ := hor2
          have HA5 : Hid (AG w5 N Sa X 32 y D fl3 st2 Sb X' y' D' fl3 st2) := AG.opened HAA.out HB4.out HS2.out.2 HS2.out.1 b5 hs3 hD3
          have HB5 : Hid (Below w.heap.size w w5) := (HBA.out.trans (HB4.out.mono HBA.out.size)).trans (b5.mono (HBA.out.trans (HB4.out.mono HBA.out.size)).size)
          clear hor hD3 hs3 b5 HROP HB4 HS2 HAA HBA

          obtain ⟨Lw, hLw⟩ : ∃ L, st2.V.length = L := ⟨_, rfl⟩
          have HLW := Lib.hid hLw
          have HL1 := Lib.hid (HA5.out.list (by omega))
          rw [hLw] at HL1
          clear hLw
          go_wp2_with fail
          refine HL1.out.mono ?_
          rintro e wl6 ⟨g1, rfl, hg1, hv1, b6⟩
          have HV1 := Lib.hid hv1
          have HAl6 := Lib.hid (HA5.out.below b6)
          have HBl6 : Hid (Below w.heap.size w wl6) := HB5.out.trans (b6.mono HB5.out.size)
          have HL2' := Lib.hid HAl6.out.rlist
          rw [HLW.out] at HL2'
          clear hg1 hv1 b6 HL1 HA5 HB5
          go_wp2_with fail
          refine HL2'.out.mono ?_
          rintro e wl7 ⟨a2, cap2, rfl, hv2, b7⟩
          have HEQ := Lib.hid (equalV_any (HV1.out.below b7) hv2 HLW.out HLW.out)
          have HAl7 := Lib.hid (HAl6.out.below b7)
          have HBl7 : Hid (Below w.heap.size w wl7) := HBl6.out.trans (b7.mono HBl6.out.size)
          rw [show decide (st2.V = st2.V) = true by simp] at HEQ
          clear hv2 b7 HL2' HAl6 HBl6 HV1
          go_wp2_with fail
          refine HEQ.out.mono ?_
          rintro e wl8 ⟨rfl, c8⟩
          have HA8 := Lib.hid (HAl7.out.below (c8.below (Nat.le_refl _) (fun _ h => h.elim)))
          have HB8 : Hid (Below w.heap.size w wl8) := HBl7.out.trans ((c8.below (B := wl7.heap.size) (Nat.le_refl _) (fun _ h => h.elim)).mono HBl7.out.size)
          clear c8 HEQ HAl7 HBl7 HLW

          have HI5 := hi3
          clear hi3
          have HA0 : Hid (AG wl8 N Sa X (32 + 0) y D fl3 st2 Sb X' y' D' fl3 st2) := HA8
          clear HA8
          go_wp2_with fail
          go_loopw [22] (fun z wr => ∃ (i2 : Nat) (fl : FL) (st : ST), i2 ≤ len2 ∧ z = .int .i64 (i2 : Int) ∧ Hid (AG wr N Sa X (32 + i2) y D fl st Sb X' y' D' fl st) ∧ Hid (Inv fl st ∧ fl.cut = false ∧ st.gen ≤ 16 + i2) ∧ Hid (Below w.heap.size w wr)) (fun z _ => len2 - (intOf z).toNat)
          case atStart => exact ⟨0, fl3, st2, by omega, rfl, HA0, HI5, HB8⟩
          case round =>
            clear HA0 HI5 HB8
            obtain ⟨i2, fl, st, hi2, rfl, HA, HI, HB⟩ := hrel
            by_cases hlt2 : i2 < len2
            · have y1 : (i2 : Int) < len2 := by omega
              obtain ⟨bb, o, c, rfl, hbw, _, p0, p1, p2, p3⟩ := HL2.out.at hlt2
              have q0 : wr.cell? ⟨bb, o + i2 * 4, none⟩ = some (.int .i64 c.kd) := (HB.out.cell (p := ⟨bb, o + i2 * 4, none⟩) hbw).trans p0
              have q1 : wr.cell? ⟨bb, o + i2 * 4 + 1, none⟩ = some (.int .i64 c.nm) := (HB.out.cell (p := ⟨bb, o + i2 * 4 + 1, none⟩) hbw).trans p1
              have q2 : wr.cell? ⟨bb, o + i2 * 4 + 2, none⟩ = some (.int .i64 c.ln) := (HB.out.cell (p := ⟨bb, o + i2 * 4 + 2, none⟩) hbw).trans p2
              have q3 : wr.cell? ⟨bb, o + i2 * 4 + 3, none⟩ = some (.int .u8 (c.fi.toNat : Int)) := (HB.out.cell (p := ⟨bb, o + i2 * 4 + 3, none⟩) hbw).trans p3
              clear p0 p1 p2 p3
              have hcalm := (doF_cases HI.out.1 (by have := HI.out.2.2; omega) c.kd c.nm c.ln c.fi).calm HI.out.1 HI.out.2.1
              have hdoC : doF fl st c.kd c.nm c.ln c.fi = doC fl st c := rfl
              rw [hdoC] at hcalm
              have HD1 := Lib.hid (HA.out.drewA.do HI.out.1.blk (by omega) c)
              have hD2 := fun wx (hx : AG wx N Sa X (32 + i2 + 1) y D (doC fl st c).2.1 (doC fl st c).2.2 Sb X' y' D' fl st) => hx.want HI.out.1.blk c
              obtain ⟨e1, f1, s1, hr1⟩ : ∃ e f s, doC fl st c = (e, f, s) := ⟨_, _, _, rfl⟩
              rw [hr1] at hcalm HD1
              simp only [hr1] at hD2
              simp only at hcalm
              have HD2 := Lib.hid hD2
              have HI2 : Hid (Inv f1 s1 ∧ f1.cut = false ∧ s1.gen ≤ 16 + (i2 + 1)) := ⟨hcalm.1, hcalm.2.1, by have := hcalm.2.2.2.1; have := HI.out.2.2; omega⟩
              have HD1' : Hid (Calls Tryz.prog 28 #[fptr Sa, .agg #[.int .i64 c.kd, .int .i64 c.nm, .int .i64 c.ln, .int .u8 (c.fi.toNat : Int)]] wr.drew fun e w' => e = .returned (.int .i64 e1) ∧ AG w' N Sa X (32 + i2 + 1) y D f1 s1 Sb X' y' D' fl st ∧ Below N wr.drew w') := HD1
              have HD2' : Hid (∀ wx, AG wx N Sa X (32 + i2 + 1) y D f1 s1 Sb X' y' D' fl st → Calls Tryz.prog 29 #[fptr Sb, .agg #[.int .i64 c.kd, .int .i64 c.nm, .int .i64 c.ln, .int .u8 (c.fi.toNat : Int)]] wx fun e w' => e = .returned (.int .i64 e1) ∧ AG w' N Sa X (32 + i2 + 1) y D f1 s1 Sb X' y' D' f1 s1 ∧ Below N wx w') := HD2
              have S1 : Hid (wr.drew.cell? ⟨bb, o + i2 * 4, none⟩ = some (.int .i64 c.kd) ∧ wr.drew.cell? ⟨bb, o + i2 * 4 + 1, none⟩ = some (.int .i64 c.nm) ∧ wr.drew.cell? ⟨bb, o + i2 * 4 + 2, none⟩ = some (.int .i64 c.ln) ∧ wr.drew.cell? ⟨bb, o + i2 * 4 + 3, none⟩ = some (.int .u8 (c.fi.toNat : Int))) := ⟨q0, q1, q2, q3⟩
              have HBd : Hid (Below w.heap.size w wr.drew) := HB.out.drew
              clear hcalm hdoC hr1 HD1 HD2 hD2 q0 q1 q2 q3 HA HB 
              go_wp2_with fail
              refine wp_region_pl (fun Y => Y.cell? ⟨bb, o + i2 * 4, none⟩ = some (.int .i64 c.kd) ∧ Y.cell? ⟨bb, o + i2 * 4 + 1, none⟩ = some (.int .i64 c.nm) ∧ Y.cell? ⟨bb, o + i2 * 4 + 2, none⟩ = some (.int .i64 c.ln) ∧ Y.cell? ⟨bb, o + i2 * 4 + 3, none⟩ = some (.int .u8 (c.fi.toNat : Int))) ((0, 0) :: (1, 0) :: (2, 0) :: (3, 0) :: (4, 0) :: (6, 0) :: (7, 0) :: (8, 0) :: (9, 0) :: (10, 0) :: (5, 1) :: (11, 1) :: (12, 0) :: (13, 0) :: (14, 0) :: (16, 0) :: (15, 1) :: (17, 1) :: (18, 1) :: (19, 0) :: (20, 0) :: []) (by kernel_rfl) (by kernel_rfl) ?_
              iterate 10 (apply wpP_go; (focus rfl); (focus rfl); (focus exact S1.out); (focus (rintro Q ⟨s0, s1, s2, s3⟩; go_simp; exact rfl)); intro K hK; go_simp; refine hK _ ?_; clear hK K)
              apply wpP_one
              focus rfl
              intro K hK
              go_simp
              refine HD1'.out.mono ?_
              rintro e V1 ⟨rfl, ha, b1⟩
              have hq1 : ∀ j, V1.cell? ⟨bb, j, none⟩ = wr.drew.cell? ⟨bb, j, none⟩ := fun j => b1.cell (p := ⟨bb, j, none⟩) (by show bb < N; omega)
              have S2 : Hid (V1.cell? ⟨bb, o + i2 * 4, none⟩ = some (.int .i64 c.kd) ∧ V1.cell? ⟨bb, o + i2 * 4 + 1, none⟩ = some (.int .i64 c.nm) ∧ V1.cell? ⟨bb, o + i2 * 4 + 2, none⟩ = some (.int .i64 c.ln) ∧ V1.cell? ⟨bb, o + i2 * 4 + 3, none⟩ = some (.int .u8 (c.fi.toNat : Int))) := ⟨(hq1 _).trans S1.out.1, (hq1 _).trans S1.out.2.1, (hq1 _).trans S1.out.2.2.1, (hq1 _).trans S1.out.2.2.2⟩
              have HD3 := Lib.hid (HD2'.out _ ha)
              have HB1 : Hid (Below w.heap.size w V1) := HBd.out.trans (b1.mono hNw)
              refine hK _ _ S2.out ?_
              clear hK K ha b1 hq1 S1 HD1' HD2' HBd
              apply wpP_one
              focus rfl
              intro K hK
              go_simp
              refine HD3.out.mono ?_
              rintro e V2 ⟨rfl, ha, b2⟩
              have hq2 : ∀ j, V2.cell? ⟨bb, j, none⟩ = V1.cell? ⟨bb, j, none⟩ := fun j => b2.cell (p := ⟨bb, j, none⟩) (by show bb < N; omega)
              have S3 : Hid (V2.cell? ⟨bb, o + i2 * 4, none⟩ = some (.int .i64 c.kd) ∧ V2.cell? ⟨bb, o + i2 * 4 + 1, none⟩ = some (.int .i64 c.nm) ∧ V2.cell? ⟨bb, o + i2 * 4 + 2, none⟩ = some (.int .i64 c.ln) ∧ V2.cell? ⟨bb, o + i2 * 4 + 3, none⟩ = some (.int .u8 (c.fi.toNat : Int))) := ⟨(hq2 _).trans S2.out.1, (hq2 _).trans S2.out.2.1, (hq2 _).trans S2.out.2.2.1, (hq2 _).trans S2.out.2.2.2⟩
              have HA2 : Hid (AG V2 N Sa X (32 + i2 + 1) y D f1 s1 Sb X' y' D' f1 s1) := ha
              have HB2 : Hid (Below w.heap.size w V2) := HB1.out.trans (b2.mono hNw)
              refine hK _ _ S3.out ?_
              clear hK K ha b2 hq2 S2 HD3 HB1
              iterate 4 (apply wpP_go; (focus rfl); (focus rfl); (focus exact S3.out); (focus (rintro Q ⟨s0, s1, s2, s3⟩; go_simp; exact rfl)); intro K hK; go_simp; refine hK _ ?_; clear hK K)
              obtain ⟨Lw, hLw⟩ : ∃ L, s1.V.length = L := ⟨_, rfl⟩
              have HLW := Lib.hid hLw
              have HL1 := Lib.hid (HA2.out.list (by omega))
              rw [hLw] at HL1
              clear hLw
              apply wpP_one
              focus rfl
              intro K hK
              go_simp
              refine HL1.out.mono ?_
              rintro e wl6 ⟨g1, rfl, hg1, hv1, b6⟩
              have HV1 := Lib.hid hv1
              have HAl6 := Lib.hid (HA2.out.below b6)
              have HBl6 : Hid (Below w.heap.size w wl6) := HB2.out.trans (b6.mono HB2.out.size)
              have hq4 : ∀ j, wl6.cell? ⟨bb, j, none⟩ = V2.cell? ⟨bb, j, none⟩ := fun j => b6.cell (p := ⟨bb, j, none⟩) (by show bb < V2.heap.size; have := HB2.out.size; omega)
              have S4 : Hid (wl6.cell? ⟨bb, o + i2 * 4, none⟩ = some (.int .i64 c.kd) ∧ wl6.cell? ⟨bb, o + i2 * 4 + 1, none⟩ = some (.int .i64 c.nm) ∧ wl6.cell? ⟨bb, o + i2 * 4 + 2, none⟩ = some (.int .i64 c.ln) ∧ wl6.cell? ⟨bb, o + i2 * 4 + 3, none⟩ = some (.int .u8 (c.fi.toNat : Int))) := ⟨(hq4 _).trans S3.out.1, (hq4 _).trans S3.out.2.1, (hq4 _).trans S3.out.2.2.1, (hq4 _).trans S3.out.2.2.2⟩
              have HL2' := Lib.hid HAl6.out.rlist
              rw [HLW.out] at HL2'
              refine hK _ _ S4.out ?_
              clear hK K hg1 hv1 b6 HL1 HA2 HB2 hq4 S3
              apply wpP_one
              focus rfl
              intro K hK
              go_simp
              refine HL2'.out.mono ?_
              rintro e wl7 ⟨a2', cap2', rfl, hv2, b7⟩
              have HEQ := Lib.hid (equalV_any (HV1.out.below b7) hv2 HLW.out HLW.out)
              have HAl7 := Lib.hid (HAl6.out.below b7)
              have HBl7 : Hid (Below w.heap.size w wl7) := HBl6.out.trans (b7.mono HBl6.out.size)
              rw [show decide (s1.V = s1.V) = true by simp] at HEQ
              have hq5 : ∀ j, wl7.cell? ⟨bb, j, none⟩ = wl6.cell? ⟨bb, j, none⟩ := fun j => b7.cell (p := ⟨bb, j, none⟩) (by show bb < wl6.heap.size; have := HBl6.out.size; omega)
              have S5 : Hid (wl7.cell? ⟨bb, o + i2 * 4, none⟩ = some (.int .i64 c.kd) ∧ wl7.cell? ⟨bb, o + i2 * 4 + 1, none⟩ = some (.int .i64 c.nm) ∧ wl7.cell? ⟨bb, o + i2 * 4 + 2, none⟩ = some (.int .i64 c.ln) ∧ wl7.cell? ⟨bb, o + i2 * 4 + 3, none⟩ = some (.int .u8 (c.fi.toNat : Int))) := ⟨(hq5 _).trans S4.out.1, (hq5 _).trans S4.out.2.1, (hq5 _).trans S4.out.2.2.1, (hq5 _).trans S4.out.2.2.2⟩
              refine hK _ _ S5.out ?_
              clear hK K hv2 b7 HL2' HAl6 HBl6 HV1 hq5 S4
              apply wpP_one
              focus rfl
              intro K hK
              go_simp
              refine HEQ.out.mono ?_
              rintro e wl8 ⟨rfl, c8⟩
              have b8 : Below wl7.heap.size wl7 wl8 := c8.below (Nat.le_refl _) (fun _ h => h.elim)
              have HA8 := Lib.hid (HAl7.out.below b8)
              have HB8 : Hid (Below w.heap.size w wl8) := HBl7.out.trans (b8.mono HBl7.out.size)
              have hq6 : ∀ j, wl8.cell? ⟨bb, j, none⟩ = wl7.cell? ⟨bb, j, none⟩ := fun j => b8.cell (p := ⟨bb, j, none⟩) (by show bb < wl7.heap.size; have := HBl7.out.size; omega)
              have S6 : Hid (wl8.cell? ⟨bb, o + i2 * 4, none⟩ = some (.int .i64 c.kd) ∧ wl8.cell? ⟨bb, o + i2 * 4 + 1, none⟩ = some (.int .i64 c.nm) ∧ wl8.cell? ⟨bb, o + i2 * 4 + 2, none⟩ = some (.int .i64 c.ln) ∧ wl8.cell? ⟨bb, o + i2 * 4 + 3, none⟩ = some (.int .u8 (c.fi.toNat : Int))) := ⟨(hq6 _).trans S5.out.1, (hq6 _).trans S5.out.2.1, (hq6 _).trans S5.out.2.2.1, (hq6 _).trans S5.out.2.2.2⟩
              refine hK _ _ S6.out ?_
              clear hK K c8 b8 HEQ HAl7 HBl7 HLW hq6 S5
              iterate 2 (apply wpP_go; (focus rfl); (focus rfl); (focus exact S6.out); (focus (rintro Q ⟨s0, s1, s2, s3⟩; go_simp; exact rfl)); intro K hK; go_simp; refine hK _ ?_; clear hK K)
              refine wpP_done ?_
              clear S6
              go_wp2_with fail
              go_roundw
              case rel => exact ⟨i2 + 1, f1, s1, by omega, by go_num, HA8.out.mono (by omega), HI2, HB8⟩
              case measure => simp [intOf]; omega
            · have y1 : ¬ (i2 : Int) < len2 := by omega
              have HAL := Lib.hid (alike_any HA.out.a.f HA.out.a.f' HI.out.1.off)
              go_wp2_with fail
              refine HAL.out.mono ?_
              rintro e wC ⟨rfl, bC⟩
              have HBC : Hid (Below w.heap.size w wC) := HB.out.trans (bC.mono HB.out.size)
              have HAW := Lib.hid (awake_any wC)
              clear bC HAL HA HB
              go_wp2_with fail
              refine HAW.out.mono ?_
              rintro e wD ⟨rfl, bD⟩
              have HBD : Hid (Below w.heap.size w wD) := HBC.out.trans (bD.mono HBC.out.size)
              clear bD HAW
              go_wp2_with fail
              go_ret
              exact ⟨rfl, HBD.out⟩
      · have y0 : ¬ (i : Int) < len := by omega
        obtain ⟨eo, fl2, st2, hon, heo, hI2, hg2⟩ := HI.out.on
        have HP1 := Lib.hid (powerOn_any HA.out.a.f)
        rw [hon] at HP1
        have HON := Lib.hid hon
        have HI2 : Hid (Inv fl2 st2 ∧ st2.gen ≤ 16) := ⟨hI2, by omega⟩
        clear hon hI2 hg2
        go_wp2_with fail
        clear c5
        refine HP1.out.mono ?_
        rintro e w7 ⟨rfl, h7, c7⟩
        have hc7 := HA.out.a.ch1 h7 c7
        have HA7 := Lib.hid hc7.1
        have HB7 : Hid (Below w.heap.size w w7) := HB.out.trans (hc7.2.mono hNw)
        clear h7 c7 hc7 HP1 HA HB HI
        have HP2 := Lib.hid (ron_any HA7.out.f')
        rw [HON.out] at HP2
        go_wp2_with fail
        refine HP2.out.mono ?_
        rintro e w8 ⟨rfl, h8, c8⟩
        have hc8 := HA7.out.ch2 h8 c8
        have HA8 := Lib.hid hc8.1
        have HB8 : Hid (Below w.heap.size w w8) := HB7.out.trans (hc8.2.mono hNw)
        clear h8 c8 hc8 HP2 HA7 HB7 HON
        have HCU := Lib.hid (cutAfter_any HA8.out.f (-1) 0 (by omega) (by omega))
        have hi3 : Hid (Inv (cutF fl2 (-1) 0) st2 ∧ (cutF fl2 (-1) 0).cut = false ∧ st2.gen ≤ 16 + 0) := ⟨HI2.out.1.cutF _ _, rfl, HI2.out.2⟩
        have hbb : ((eo == 0) != (eo == 0)) = false := by simp
        go_wp2_with fail
        refine HCU.out.mono ?_
        rintro e w9 ⟨rfl, h9, c9⟩
        have hc9 := HA8.out.ch1 h9 c9
        have HA9 := Lib.hid hc9.1
        have HB9 : Hid (Below w.heap.size w w9) := HB8.out.trans (hc9.2.mono hNw)
        clear h9 c9 hc9 HCU HA8 HB8
        have HCU := Lib.hid (rcutAfter_any HA9.out.f' (-1) 0 (by omega) (by omega))
        go_wp2_with fail
        refine HCU.out.mono ?_
        rintro e wA ⟨rfl, hA', cA⟩
        have hcA := HA9.out.ch2 hA' cA
        have HAA := Lib.hid hcA.1
        have HBA : Hid (Below w.heap.size w wA) := HB9.out.trans (hcA.2.mono hNw)
        clear hA' cA hcA HCU HA9 HB9 HI2
        generalize cutF fl2 (-1) 0 = fl3 at *
        have HOP := Lib.hid (open_any HAA.out.f)
        go_wp2_with fail
        refine HOP.out.mono ?_
        rintro e w4 ⟨b4, hor⟩
        have hor2 : ∃ Sa m2 DS2, e = .returned (.tuple #[fptr Sa, .int .i64 0]) ∧ (∀ k, DS2 k → wA.heap.size ≤ k) ∧ SW w4 DS2 Sa X m2 32 st2 := by
          rcases hor with ⟨c, h1, _⟩ | ⟨st', Sa, m2, DS2, h1, h2, h3, h4, _⟩
          · rw [hi3.out.1.opens] at h1; cases h1
          · rw [hi3.out.1.opens] at h1
            injection h1 with _ h1
            injection h1 with h1
            subst h1
            exact ⟨Sa, m2, DS2, h2, h3, h4⟩
        obtain ⟨Sa, m2, DS2, rfl, hD2, hs2⟩ := hor2
        have HB4 := Lib.hid b4
        have HS2 := Lib.hid (And.intro hD2 hs2)
        have HROP := Lib.hid (ropen_any (HAA.out.f'.below b4))
        clear hor hD2 hs2 b4 HOP
        go_wp2_with fail
        refine HROP.out.mono ?_
        rintro e w5 ⟨b5, hor⟩
        have hor2 : ∃ Sb DS3, e = .returned (.tuple #[fptr Sb, .int .i64 0]) ∧ (∀ k, DS3 k → w4.heap.size ≤ k) ∧ RS w5 DS3 Sb X' st2 := by
          rcases hor with ⟨c, h1, _⟩ | ⟨st', Sb, DS3, h1, h2, h3, h4, _⟩
          · rw [hi3.out.1.opens] at h1; cases h1
          · rw [hi3.out.1.opens] at h1
            injection h1 with _ h1
            injection h1 with h1
            subst h1
            exact ⟨Sb, DS3, h2, h3, h4⟩
        obtain ⟨Sb, DS3, rfl, hD3, hs3⟩ := hor2
        have HA5 : Hid (AG w5 N Sa X 32 y D fl3 st2 Sb X' y' D' fl3 st2) := AG.opened HAA.out HB4.out HS2.out.2 HS2.out.1 b5 hs3 hD3
        have HB5 : Hid (Below w.heap.size w w5) := (HBA.out.trans (HB4.out.mono HBA.out.size)).trans (b5.mono (HBA.out.trans (HB4.out.mono HBA.out.size)).size)
        clear hor hD3 hs3 b5 HROP HB4 HS2 HAA HBA

        obtain ⟨Lw, hLw⟩ : ∃ L, st2.V.length = L := ⟨_, rfl⟩
        have HLW := Lib.hid hLw
        have HL1 := Lib.hid (HA5.out.list (by omega))
        rw [hLw] at HL1
        clear hLw
        go_wp2_with fail
        refine HL1.out.mono ?_
        rintro e wl6 ⟨g1, rfl, hg1, hv1, b6⟩
        have HV1 := Lib.hid hv1
        have HAl6 := Lib.hid (HA5.out.below b6)
        have HBl6 : Hid (Below w.heap.size w wl6) := HB5.out.trans (b6.mono HB5.out.size)
        have HL2' := Lib.hid HAl6.out.rlist
        rw [HLW.out] at HL2'
        clear hg1 hv1 b6 HL1 HA5 HB5
        go_wp2_with fail
        refine HL2'.out.mono ?_
        rintro e wl7 ⟨a2, cap2, rfl, hv2, b7⟩
        have HEQ := Lib.hid (equalV_any (HV1.out.below b7) hv2 HLW.out HLW.out)
        have HAl7 := Lib.hid (HAl6.out.below b7)
        have HBl7 : Hid (Below w.heap.size w wl7) := HBl6.out.trans (b7.mono HBl6.out.size)
        rw [show decide (st2.V = st2.V) = true by simp] at HEQ
        clear hv2 b7 HL2' HAl6 HBl6 HV1
        go_wp2_with fail
        refine HEQ.out.mono ?_
        rintro e wl8 ⟨rfl, c8⟩
        have HA8 := Lib.hid (HAl7.out.below (c8.below (Nat.le_refl _) (fun _ h => h.elim)))
        have HB8 : Hid (Below w.heap.size w wl8) := HBl7.out.trans ((c8.below (B := wl7.heap.size) (Nat.le_refl _) (fun _ h => h.elim)).mono HBl7.out.size)
        clear c8 HEQ HAl7 HBl7 HLW

        have HI5 := hi3
        clear hi3
        have HA0 : Hid (AG wl8 N Sa X (32 + 0) y D fl3 st2 Sb X' y' D' fl3 st2) := HA8
        clear HA8
        go_wp2_with fail
        go_loopw [22] (fun z wr => ∃ (i2 : Nat) (fl : FL) (st : ST), i2 ≤ len2 ∧ z = .int .i64 (i2 : Int) ∧ Hid (AG wr N Sa X (32 + i2) y D fl st Sb X' y' D' fl st) ∧ Hid (Inv fl st ∧ fl.cut = false ∧ st.gen ≤ 16 + i2) ∧ Hid (Below w.heap.size w wr)) (fun z _ => len2 - (intOf z).toNat)
        case atStart => exact ⟨0, fl3, st2, by omega, rfl, HA0, HI5, HB8⟩
        case round =>
          clear HA0 HI5 HB8
          obtain ⟨i2, fl, st, hi2, rfl, HA, HI, HB⟩ := hrel
          by_cases hlt2 : i2 < len2
          · have y1 : (i2 : Int) < len2 := by omega
            obtain ⟨bb, o, c, rfl, hbw, _, p0, p1, p2, p3⟩ := HL2.out.at hlt2
            have q0 : wr.cell? ⟨bb, o + i2 * 4, none⟩ = some (.int .i64 c.kd) := (HB.out.cell (p := ⟨bb, o + i2 * 4, none⟩) hbw).trans p0
            have q1 : wr.cell? ⟨bb, o + i2 * 4 + 1, none⟩ = some (.int .i64 c.nm) := (HB.out.cell (p := ⟨bb, o + i2 * 4 + 1, none⟩) hbw).trans p1
            have q2 : wr.cell? ⟨bb, o + i2 * 4 + 2, none⟩ = some (.int .i64 c.ln) := (HB.out.cell (p := ⟨bb, o + i2 * 4 + 2, none⟩) hbw).trans p2
            have q3 : wr.cell? ⟨bb, o + i2 * 4 + 3, none⟩ = some (.int .u8 (c.fi.toNat : Int)) := (HB.out.cell (p := ⟨bb, o + i2 * 4 + 3, none⟩) hbw).trans p3
            clear p0 p1 p2 p3
            have hcalm := (doF_cases HI.out.1 (by have := HI.out.2.2; omega) c.kd c.nm c.ln c.fi).calm HI.out.1 HI.out.2.1
            have hdoC : doF fl st c.kd c.nm c.ln c.fi = doC fl st c := rfl
            rw [hdoC] at hcalm
            have HD1 := Lib.hid (HA.out.drewA.do HI.out.1.blk (by omega) c)
            have hD2 := fun wx (hx : AG wx N Sa X (32 + i2 + 1) y D (doC fl st c).2.1 (doC fl st c).2.2 Sb X' y' D' fl st) => hx.want HI.out.1.blk c
            obtain ⟨e1, f1, s1, hr1⟩ : ∃ e f s, doC fl st c = (e, f, s) := ⟨_, _, _, rfl⟩
            rw [hr1] at hcalm HD1
            simp only [hr1] at hD2
            simp only at hcalm
            have HD2 := Lib.hid hD2
            have HI2 : Hid (Inv f1 s1 ∧ f1.cut = false ∧ s1.gen ≤ 16 + (i2 + 1)) := ⟨hcalm.1, hcalm.2.1, by have := hcalm.2.2.2.1; have := HI.out.2.2; omega⟩
            have HD1' : Hid (Calls Tryz.prog 28 #[fptr Sa, .agg #[.int .i64 c.kd, .int .i64 c.nm, .int .i64 c.ln, .int .u8 (c.fi.toNat : Int)]] wr.drew fun e w' => e = .returned (.int .i64 e1) ∧ AG w' N Sa X (32 + i2 + 1) y D f1 s1 Sb X' y' D' fl st ∧ Below N wr.drew w') := HD1
            have HD2' : Hid (∀ wx, AG wx N Sa X (32 + i2 + 1) y D f1 s1 Sb X' y' D' fl st → Calls Tryz.prog 29 #[fptr Sb, .agg #[.int .i64 c.kd, .int .i64 c.nm, .int .i64 c.ln, .int .u8 (c.fi.toNat : Int)]] wx fun e w' => e = .returned (.int .i64 e1) ∧ AG w' N Sa X (32 + i2 + 1) y D f1 s1 Sb X' y' D' f1 s1 ∧ Below N wx w') := HD2
            have S1 : Hid (wr.drew.cell? ⟨bb, o + i2 * 4, none⟩ = some (.int .i64 c.kd) ∧ wr.drew.cell? ⟨bb, o + i2 * 4 + 1, none⟩ = some (.int .i64 c.nm) ∧ wr.drew.cell? ⟨bb, o + i2 * 4 + 2, none⟩ = some (.int .i64 c.ln) ∧ wr.drew.cell? ⟨bb, o + i2 * 4 + 3, none⟩ = some (.int .u8 (c.fi.toNat : Int))) := ⟨q0, q1, q2, q3⟩
            have HBd : Hid (Below w.heap.size w wr.drew) := HB.out.drew
            clear hcalm hdoC hr1 HD1 HD2 hD2 q0 q1 q2 q3 HA HB 
            go_wp2_with fail
            refine wp_region_pl (fun Y => Y.cell? ⟨bb, o + i2 * 4, none⟩ = some (.int .i64 c.kd) ∧ Y.cell? ⟨bb, o + i2 * 4 + 1, none⟩ = some (.int .i64 c.nm) ∧ Y.cell? ⟨bb, o + i2 * 4 + 2, none⟩ = some (.int .i64 c.ln) ∧ Y.cell? ⟨bb, o + i2 * 4 + 3, none⟩ = some (.int .u8 (c.fi.toNat : Int))) ((0, 0) :: (1, 0) :: (2, 0) :: (3, 0) :: (4, 0) :: (6, 0) :: (7, 0) :: (8, 0) :: (9, 0) :: (10, 0) :: (5, 1) :: (11, 1) :: (12, 0) :: (13, 0) :: (14, 0) :: (16, 0) :: (15, 1) :: (17, 1) :: (18, 1) :: (19, 0) :: (20, 0) :: []) (by kernel_rfl) (by kernel_rfl) ?_
            iterate 10 (apply wpP_go; (focus rfl); (focus rfl); (focus exact S1.out); (focus (rintro Q ⟨s0, s1, s2, s3⟩; go_simp; exact rfl)); intro K hK; go_simp; refine hK _ ?_; clear hK K)
            apply wpP_one
            focus rfl
            intro K hK
            go_simp
            refine HD1'.out.mono ?_
            rintro e V1 ⟨rfl, ha, b1⟩
            have hq1 : ∀ j, V1.cell? ⟨bb, j, none⟩ = wr.drew.cell? ⟨bb, j, none⟩ := fun j => b1.cell (p := ⟨bb, j, none⟩) (by show bb < N; omega)
            have S2 : Hid (V1.cell? ⟨bb, o + i2 * 4, none⟩ = some (.int .i64 c.kd) ∧ V1.cell? ⟨bb, o + i2 * 4 + 1, none⟩ = some (.int .i64 c.nm) ∧ V1.cell? ⟨bb, o + i2 * 4 + 2, none⟩ = some (.int .i64 c.ln) ∧ V1.cell? ⟨bb, o + i2 * 4 + 3, none⟩ = some (.int .u8 (c.fi.toNat : Int))) := ⟨(hq1 _).trans S1.out.1, (hq1 _).trans S1.out.2.1, (hq1 _).trans S1.out.2.2.1, (hq1 _).trans S1.out.2.2.2⟩
            have HD3 := Lib.hid (HD2'.out _ ha)
            have HB1 : Hid (Below w.heap.size w V1) := HBd.out.trans (b1.mono hNw)
            refine hK _ _ S2.out ?_
            clear hK K ha b1 hq1 S1 HD1' HD2' HBd
            apply wpP_one
            focus rfl
            intro K hK
            go_simp
            refine HD3.out.mono ?_
            rintro e V2 ⟨rfl, ha, b2⟩
            have hq2 : ∀ j, V2.cell? ⟨bb, j, none⟩ = V1.cell? ⟨bb, j, none⟩ := fun j => b2.cell (p := ⟨bb, j, none⟩) (by show bb < N; omega)
            have S3 : Hid (V2.cell? ⟨bb, o + i2 * 4, none⟩ = some (.int .i64 c.kd) ∧ V2.cell? ⟨bb, o + i2 * 4 + 1, none⟩ = some (.int .i64 c.nm) ∧ V2.cell? ⟨bb, o + i2 * 4 + 2, none⟩ = some (.int .i64 c.ln) ∧ V2.cell? ⟨bb, o + i2 * 4 + 3, none⟩ = some (.int .u8 (c.fi.toNat : Int))) := ⟨(hq2 _).trans S2.out.1, (hq2 _).trans S2.out.2.1, (hq2 _).trans S2.out.2.2.1, (hq2 _).trans S2.out.2.2.2⟩
            have HA2 : Hid (AG V2 N Sa X (32 + i2 + 1) y D f1 s1 Sb X' y' D' f1 s1) := ha
            have HB2 : Hid (Below w.heap.size w V2) := HB1.out.trans (b2.mono hNw)
            refine hK _ _ S3.out ?_
            clear hK K ha b2 hq2 S2 HD3 HB1
            iterate 4 (apply wpP_go; (focus rfl); (focus rfl); (focus exact S3.out); (focus (rintro Q ⟨s0, s1, s2, s3⟩; go_simp; exact rfl)); intro K hK; go_simp; refine hK _ ?_; clear hK K)
            obtain ⟨Lw, hLw⟩ : ∃ L, s1.V.length = L := ⟨_, rfl⟩
            have HLW := Lib.hid hLw
            have HL1 := Lib.hid (HA2.out.list (by omega))
            rw [hLw] at HL1
            clear hLw
            apply wpP_one
            focus rfl
            intro K hK
            go_simp
            refine HL1.out.mono ?_
            rintro e wl6 ⟨g1, rfl, hg1, hv1, b6⟩
            have HV1 := Lib.hid hv1
            have HAl6 := Lib.hid (HA2.out.below b6)
            have HBl6 : Hid (Below w.heap.size w wl6) := HB2.out.trans (b6.mono HB2.out.size)
            have hq4 : ∀ j, wl6.cell? ⟨bb, j, none⟩ = V2.cell? ⟨bb, j, none⟩ := fun j => b6.cell (p := ⟨bb, j, none⟩) (by show bb < V2.heap.size; have := HB2.out.size; omega)
            have S4 : Hid (wl6.cell? ⟨bb, o + i2 * 4, none⟩ = some (.int .i64 c.kd) ∧ wl6.cell? ⟨bb, o + i2 * 4 + 1, none⟩ = some (.int .i64 c.nm) ∧ wl6.cell? ⟨bb, o + i2 * 4 + 2, none⟩ = some (.int .i64 c.ln) ∧ wl6.cell? ⟨bb, o + i2 * 4 + 3, none⟩ = some (.int .u8 (c.fi.toNat : Int))) := ⟨(hq4 _).trans S3.out.1, (hq4 _).trans S3.out.2.1, (hq4 _).trans S3.out.2.2.1, (hq4 _).trans S3.out.2.2.2⟩
            have HL2' := Lib.hid HAl6.out.rlist
            rw [HLW.out] at HL2'
            refine hK _ _ S4.out ?_
            clear hK K hg1 hv1 b6 HL1 HA2 HB2 hq4 S3
            apply wpP_one
            focus rfl
            intro K hK
            go_simp
            refine HL2'.out.mono ?_
            rintro e wl7 ⟨a2', cap2', rfl, hv2, b7⟩
            have HEQ := Lib.hid (equalV_any (HV1.out.below b7) hv2 HLW.out HLW.out)
            have HAl7 := Lib.hid (HAl6.out.below b7)
            have HBl7 : Hid (Below w.heap.size w wl7) := HBl6.out.trans (b7.mono HBl6.out.size)
            rw [show decide (s1.V = s1.V) = true by simp] at HEQ
            have hq5 : ∀ j, wl7.cell? ⟨bb, j, none⟩ = wl6.cell? ⟨bb, j, none⟩ := fun j => b7.cell (p := ⟨bb, j, none⟩) (by show bb < wl6.heap.size; have := HBl6.out.size; omega)
            have S5 : Hid (wl7.cell? ⟨bb, o + i2 * 4, none⟩ = some (.int .i64 c.kd) ∧ wl7.cell? ⟨bb, o + i2 * 4 + 1, none⟩ = some (.int .i64 c.nm) ∧ wl7.cell? ⟨bb, o + i2 * 4 + 2, none⟩ = some (.int .i64 c.ln) ∧ wl7.cell? ⟨bb, o + i2 * 4 + 3, none⟩ = some (.int .u8 (c.fi.toNat : Int))) := ⟨(hq5 _).trans S4.out.1, (hq5 _).trans S4.out.2.1, (hq5 _).trans S4.out.2.2.1, (hq5 _).trans S4.out.2.2.2⟩
            refine hK _ _ S5.out ?_
            clear hK K hv2 b7 HL2' HAl6 HBl6 HV1 hq5 S4
            apply wpP_one
            focus rfl
            intro K hK
            go_simp
            refine HEQ.out.mono ?_
            rintro e wl8 ⟨rfl, c8⟩
            have b8 : Below wl7.heap.size wl7 wl8 := c8.below (Nat.le_refl _) (fun _ h => h.elim)
            have HA8 := Lib.hid (HAl7.out.below b8)
            have HB8 : Hid (Below w.heap.size w wl8) := HBl7.out.trans (b8.mono HBl7.out.size)
            have hq6 : ∀ j, wl8.cell? ⟨bb, j, none⟩ = wl7.cell? ⟨bb, j, none⟩ := fun j => b8.cell (p := ⟨bb, j, none⟩) (by show bb < wl7.heap.size; have := HBl7.out.size; omega)
            have S6 : Hid (wl8.cell? ⟨bb, o + i2 * 4, none⟩ = some (.int .i64 c.kd) ∧ wl8.cell? ⟨bb, o + i2 * 4 + 1, none⟩ = some (.int .i64 c.nm) ∧ wl8.cell? ⟨bb, o + i2 * 4 + 2, none⟩ = some (.int .i64 c.ln) ∧ wl8.cell? ⟨bb, o + i2 * 4 + 3, none⟩ = some (.int .u8 (c.fi.toNat : Int))) := ⟨(hq6 _).trans S5.out.1, (hq6 _).trans S5.out.2.1, (hq6 _).trans S5.out.2.2.1, (hq6 _).trans S5.out.2.2.2⟩
            refine hK _ _ S6.out ?_
            clear hK K c8 b8 HEQ HAl7 HBl7 HLW hq6 S5
            iterate 2 (apply wpP_go; (focus rfl); (focus rfl); (focus exact S6.out); (focus (rintro Q ⟨s0, s1, s2, s3⟩; go_simp; exact rfl)); intro K hK; go_simp; refine hK _ ?_; clear hK K)
            refine wpP_done ?_
            clear S6
            go_wp2_with fail
            go_roundw
            case rel => exact ⟨i2 + 1, f1, s1, by omega, by go_num, HA8.out.mono (by omega), HI2, HB8⟩
            case measure => simp [intOf]; omega
          · have y1 : ¬ (i2 : Int) < len2 := by omega
            have HAL := Lib.hid (alike_any HA.out.a.f HA.out.a.f' HI.out.1.off)
            go_wp2_with fail
            refine HAL.out.mono ?_
            rintro e wC ⟨rfl, bC⟩
            have HBC : Hid (Below w.heap.size w wC) := HB.out.trans (bC.mono HB.out.size)
            have HAW := Lib.hid (awake_any wC)
            clear bC HAL HA HB
            go_wp2_with fail
            refine HAW.out.mono ?_
            rintro e wD ⟨rfl, bD⟩
            have HBD : Hid (Below w.heap.size w wD) := HBC.out.trans (bD.mono HBC.out.size)
            clear bD HAW
            go_wp2_with fail
            go_ret
            exact ⟨rfl, HBD.out⟩
end Go.Proofs.YtfglopkglnpokaaGreat
