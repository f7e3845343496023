/- VarstoreCallsAgree walked. No condition. -/
import Derived.Test.YtfglopkglnpokaaGreatM14
import Derived.Test.YtfglopkglnpokaaGreatM8
namespace Go.Proofs.YtfglopkglnpokaaGreat
open Go.RowKit
set_option maxRecDepth 100000 in
set_option maxHeartbeats 1000000 in
/-- A new flash, formatted and opened. -/
theorem open_law2 (w : World) (B P E : Nat) (hB : 2 ≤ B ∧ B ≤ 32) (hP : 2 ≤ P ∧ P ≤ 32) (hE : E ≤ 1048576) : Calls Tryz.prog 26 #[fsV B P E] w fun e w' => ∃ S X y D f1, e = .returned (.tuple #[fptr X, fptr S, .bool true]) ∧
    fmtF (newF B P E) = (0, f1) ∧ AT w' w.heap.size S X y D 32 f1 st0 ∧ Inv f1 st0 ∧ Same (newF B P E) f1 ∧ (∀ b, f1.er b = 0) ∧ f1.cut = false ∧ (∀ b, b ≠ 0 → blankP (pgsF f1 b) = true) ∧ Below w.heap.size w w' := by
  obtain ⟨f1, q1, q2, q3, q4, q5, q6⟩ := fmt_new (B := B) (P := P) (E := E) hB.1 hP.1
  have HQ : Hid (Inv f1 st0 ∧ Same (newF B P E) f1 ∧ (∀ b, f1.er b = 0) ∧ f1.cut = false ∧ ∀ b, b ≠ 0 → blankP (pgsF f1 b) = true) := ⟨q2, q3, q4, q5, q6⟩
  have HQ1 := Lib.hid q1
  clear q1 q2 q3 q4 q5 q6
  have z0 : (w.alloc (.cells #[.int .i64 B, .int .i64 P, .int .i64 E] 23)).cell? ⟨w.heap.size, 0, none⟩ = some (.int .i64 B) := (Row.ofList w _ #[.int .i64 B, .int .i64 P, .int .i64 E] (fsc B P E) 3 rfl).cell (i := 0) (by omega)
  have z1 : (w.alloc (.cells #[.int .i64 B, .int .i64 P, .int .i64 E] 23)).cell? ⟨w.heap.size, 1, none⟩ = some (.int .i64 P) := (Row.ofList w _ #[.int .i64 B, .int .i64 P, .int .i64 E] (fsc B P E) 3 rfl).cell (i := 1) (by omega)
  have z2 : (w.alloc (.cells #[.int .i64 B, .int .i64 P, .int .i64 E] 23)).cell? ⟨w.heap.size, 2, none⟩ = some (.int .i64 E) := (Row.ofList w _ #[.int .i64 B, .int .i64 P, .int .i64 E] (fsc B P E) 3 rfl).cell (i := 2) (by omega)
  have HB0 : Hid (Below w.heap.size w (w.alloc (.cells #[.int .i64 B, .int .i64 P, .int .i64 E] 23))) := (Below.refl _ _).alloc (Nat.le_refl _) _
  have HNW := Lib.hid (new_any (w.alloc (.cells #[.int .i64 B, .int .i64 P, .int .i64 E] 23)) B P E ⟨by omega, by omega⟩ ⟨by omega, by omega⟩ hE)
  go_enter Tryz.func26, Tryz.ntmps26
  go_wp2_with fail
  refine HNW.out.mono ?_
  rintro e w1 ⟨X, y, rfl, hf, b1⟩
  have HF1 := Lib.hid hf
  have HB1 : Hid (Below w.heap.size w w1) := HB0.out.trans (b1.mono HB0.out.size)
  have HFM : Hid (Calls Tryz.prog 40 #[fptr X] w1 fun e w' => e = .returned (.int .i64 0) ∧ FW w' (fun k => (w.alloc (.cells #[.int .i64 B, .int .i64 P, .int .i64 E] 23)).heap.size ≤ k ∧ k < w1.heap.size) X y f1 ∧ Ch (fun k => (w.alloc (.cells #[.int .i64 B, .int .i64 P, .int .i64 E] 23)).heap.size ≤ k ∧ k < w1.heap.size) w1 w') := by
    have := format_any hf
    rw [HQ1.out] at this
    exact this
  have hsz : w.heap.size ≤ (w.alloc (.cells #[.int .i64 B, .int .i64 P, .int .i64 E] 23)).heap.size := by simp
  clear hf b1 z0 z1 z2 HNW HB0
  generalize (w.alloc (.cells #[.int .i64 B, .int .i64 P, .int .i64 E] 23)).heap.size = w0 at *
  go_wp2_with fail
  refine HFM.out.mono ?_
  rintro e w2 ⟨rfl, hf, c2⟩
  have HOP := Lib.hid (at_open (N := w.heap.size) hf (fun k hk => Nat.le_trans hsz hk.1) HQ.out.1)
  have HB2 : Hid (Below w.heap.size w w2) := HB1.out.trans (c2.below HB1.out.size (fun i hi => Nat.le_trans hsz hi.1))
  clear hf c2 HFM HB1
  go_wp2_with fail
  refine HOP.out.mono ?_
  rintro e w3 ⟨S, rfl, ha, b3⟩
  have HA := Lib.hid ha
  have HB3 : Hid (Below w.heap.size w w3) := HB2.out.trans (b3.mono HB2.out.size)
  clear ha b3 HOP HB2
  go_wp2_with fail
  go_ret3
  exact ⟨S, X, y, _, f1, rfl, HQ1.out, HA.out, HQ.out.1, HQ.out.2.1, HQ.out.2.2.1, HQ.out.2.2.2.1, HQ.out.2.2.2.2, HB3.out⟩
set_option maxRecDepth 100000 in
set_option maxHeartbeats 4000000 in
theorem agree_any (rB rP rE : Int) (a : Option Addr) (len cap : Nat) (l : List CV) (w : World) (hl : CallS w a len cap l) :
    Calls Tryz.prog 4 #[fsV rB rP rE, .slice a len cap] w fun e w' => e = .returned (.bool true) ∧ Below w.heap.size w w' := by
  have HL := Lib.hid hl
  have hcap : len ≤ cap := hl.2.1
  have hcapM := hl.2.2.1
  unfold maxLen at hcapM
  clear hl
  have HAW0 : Hid (Calls Tryz.prog 7 #[] (w.alloc (.cells #[.int .i64 rB, .int .i64 rP, .int .i64 rE] 23)) fun e w' => e = .returned (.bool true) ∧ Below (w.alloc (.cells #[.int .i64 rB, .int .i64 rP, .int .i64 rE] 23)).heap.size (w.alloc (.cells #[.int .i64 rB, .int .i64 rP, .int .i64 rE] 23)) w') := awake_any _
  have HB0 : Hid (Below w.heap.size w (w.alloc (.cells #[.int .i64 rB, .int .i64 rP, .int .i64 rE] 23))) := (Below.refl _ _).alloc (Nat.le_refl _) _
  by_cases hbig : 30 < len
  · have hbI : (len : Int) > 30 := by omega
    go_enter Tryz.func4, Tryz.ntmps4
    go_wp2_with fail
    refine HAW0.out.mono ?_
    rintro e w1 ⟨rfl, b1⟩
    have HB1 : Hid (Below w.heap.size w w1) := HB0.out.trans (b1.mono HB0.out.size)
    clear b1 HAW0 HB0
    go_wp2_with fail
    go_ret
    exact ⟨rfl, HB1.out⟩
  · have hbI : ¬ (len : Int) > 30 := by omega
    have r0 := Row.ofList w 23 #[.int .i64 rB, .int .i64 rP, .int .i64 rE] (fsc rB rP rE) 3 rfl
    have z0 : (w.alloc (.cells #[.int .i64 rB, .int .i64 rP, .int .i64 rE] 23)).cell? ⟨w.heap.size, 0, none⟩ = some (.int .i64 rB) := r0.cell (i := 0) (by omega)
    have z1 : (w.alloc (.cells #[.int .i64 rB, .int .i64 rP, .int .i64 rE] 23)).cell? ⟨w.heap.size, 1, none⟩ = some (.int .i64 rP) := r0.cell (i := 1) (by omega)
    have z2 : (w.alloc (.cells #[.int .i64 rB, .int .i64 rP, .int .i64 rE] 23)).cell? ⟨w.heap.size, 2, none⟩ = some (.int .i64 rE) := r0.cell (i := 2) (by omega)
    have HSH := Lib.hid (shape_law rB rP rE (w.alloc (.cells #[.int .i64 rB, .int .i64 rP, .int .i64 rE] 23)))
    have hB := shB_le rB
    have hP := shP_le rP
    have hE := shE_le rE
    generalize shB rB = B at *
    generalize shP rP = P at *
    generalize shE rE = E at *
    clear r0 HAW0
    go_enter Tryz.func4, Tryz.ntmps4
    go_wp2_with fail
    refine HSH.out.mono ?_
    rintro e w1 ⟨rfl, b1⟩
    have HB1 : Hid (Below w.heap.size w w1) := HB0.out.trans (b1.mono HB0.out.size)
    clear b1 HSH HB0 z0 z1 z2

    have hT0 : Row (w1.alloc (.cells #[.int .i64 0, .int .i64 0, .int .i64 0] 23)) w1.heap.size 23 3 (fsc 0 0 0) := Row.ofList w1 23 _ _ 3 rfl
    have b4 : Below w1.heap.size w1 (w1.alloc (.cells #[.int .i64 0, .int .i64 0, .int .i64 0] 23)) := (Below.refl _ _).alloc (Nat.le_refl _) _
    obtain ⟨T, hT⟩ : ∃ T, w1.heap.size = T := ⟨_, rfl⟩
    obtain ⟨V2, hV2⟩ : ∃ V2, w1.alloc (.cells #[.int .i64 0, .int .i64 0, .int .i64 0] 23) = V2 := ⟨_, rfl⟩
    have hTw : w.heap.size ≤ T := by rw [← hT]; exact HB1.out.size
    rw [hT, hV2] at hT0
    rw [hV2] at b4
    have hB2' := HB1.out.trans (b4.mono HB1.out.size)
    have r0 := hT0.cell (i := 0) (by omega)
    have r1 := hT0.cell (i := 1) (by omega)
    have r2 := hT0.cell (i := 2) (by omega)
    have f0 := hT0.frozen 0
    have f1' := hT0.frozen 1
    have f2' := hT0.frozen 2
    have hT6 := ((hT0.set (i := 0) (by omega) (.int .i64 (B : Int))).set (i := 1) (by omega) (.int .i64 (P : Int))).set (i := 2) (by omega) (.int .i64 (E : Int))
    have HTc : Hid ((((V2.setCell ⟨T, 0, none⟩ (.int .i64 (B : Int))).setCell ⟨T, 1, none⟩ (.int .i64 (P : Int))).setCell ⟨T, 2, none⟩ (.int .i64 (E : Int))).cell? ⟨T, 0, none⟩ = some (.int .i64 B) ∧ (((V2.setCell ⟨T, 0, none⟩ (.int .i64 (B : Int))).setCell ⟨T, 1, none⟩ (.int .i64 (P : Int))).setCell ⟨T, 2, none⟩ (.int .i64 (E : Int))).cell? ⟨T, 1, none⟩ = some (.int .i64 P) ∧ (((V2.setCell ⟨T, 0, none⟩ (.int .i64 (B : Int))).setCell ⟨T, 1, none⟩ (.int .i64 (P : Int))).setCell ⟨T, 2, none⟩ (.int .i64 (E : Int))).cell? ⟨T, 2, none⟩ = some (.int .i64 E)) := ⟨hT6.cell (i := 0) (by omega), hT6.cell (i := 1) (by omega), hT6.cell (i := 2) (by omega)⟩
    have HTl : Hid (T < (((V2.setCell ⟨T, 0, none⟩ (.int .i64 (B : Int))).setCell ⟨T, 1, none⟩ (.int .i64 (P : Int))).setCell ⟨T, 2, none⟩ (.int .i64 (E : Int))).heap.size) := hT6.lt
    have HB2 : Hid (Below w.heap.size w (((V2.setCell ⟨T, 0, none⟩ (.int .i64 (B : Int))).setCell ⟨T, 1, none⟩ (.int .i64 (P : Int))).setCell ⟨T, 2, none⟩ (.int .i64 (E : Int)))) := ((hB2'.setCell (p := ⟨T, 0, none⟩) hTw _).setCell (p := ⟨T, 1, none⟩) hTw _).setCell (p := ⟨T, 2, none⟩) hTw _
    clear hT0 b4 hB2' hT6 HB1
    go_wp2_with fail
    clear hT hV2 r0 r1 r2 f0 f1' f2'
    generalize ((V2.setCell ⟨T, 0, none⟩ (.int .i64 (B : Int))).setCell ⟨T, 1, none⟩ (.int .i64 (P : Int))).setCell ⟨T, 2, none⟩ (.int .i64 (E : Int)) = w2 at *
    have t0 := HTc.out.1
    have t1 := HTc.out.2.1
    have t2 := HTc.out.2.2
    refine (open_law2 w2 B P E ⟨by omega, by omega⟩ ⟨by omega, by omega⟩ (by omega)).mono ?_
    rintro e w3 ⟨S, X, y, D, f1, rfl, hfm, ha, hI, hSm, her, hc, hbl, b3⟩
    have HI : Hid (Inv f1 st0 ∧ f1.cut = false ∧ st0.gen ≤ 1 + 0) := ⟨hI, hc, Nat.le_refl _⟩
    have HAT : Hid (AT w3 w2.heap.size S X y D 32 f1 st0) := ha
    have HFM := Lib.hid hfm
    have HB3 : Hid (Below w.heap.size w w3) := HB2.out.trans (b3.mono HB2.out.size)
    have hNw : w.heap.size ≤ w2.heap.size := HB2.out.size
    have t0 := cell_later b3 HTc.out.1
    have t1 := cell_later b3 HTc.out.2.1
    have t2 := cell_later b3 HTc.out.2.2
    obtain ⟨N, hN⟩ : ∃ N, w2.heap.size = N := ⟨_, rfl⟩
    rw [hN] at HAT hNw
    clear hfm ha hI hSm her hc hbl b3 hN HB2 HTl HTc
    have HNW := Lib.hid (rnew_any w3 B P E ⟨by omega, by omega⟩ ⟨by omega, by omega⟩ (by omega))
    go_wp2_with fail
    refine HNW.out.mono ?_
    rintro e w4 ⟨X', y', rfl, hrw, b4⟩
    have HRW4 := Lib.hid hrw
    have HB34 := Lib.hid b4
    clear hrw b4 HNW t0 t1 t2
    have HFMC : Hid (Calls Tryz.prog 27 #[fptr X'] w4 fun e w' => e = .returned (.int .i64 0) ∧ RW w' (fun k => w3.heap.size ≤ k ∧ k < w4.heap.size) X' y' f1 ∧ Ch (fun k => w3.heap.size ≤ k ∧ k < w4.heap.size) w4 w') := by
      have := rformat_any HRW4.out rfl (fun b => pages_blank fun q _ => rfl) hB.1 hP.1
      rw [HFM.out] at this
      exact this
    go_wp2_with fail
    refine HFMC.out.mono ?_
    rintro e w5 ⟨rfl, h5, c5⟩
    have HRW5 := Lib.hid h5
    have HB35 : Hid (Below w3.heap.size w3 w5) := HB34.out.trans ((c5.below (B := w3.heap.size) HB34.out.size (fun i hi => hi.1)))
    have hs45 := c5.size
    clear h5 c5 HFMC HRW4
    have HROP := Lib.hid (ropen_any HRW5.out)
    go_wp2_with fail
    refine HROP.out.mono ?_
    rintro e w6 ⟨b6, hor⟩
    have hor2 : ∃ S' DS', e = .returned (.tuple #[fptr S', .int .i64 0]) ∧ (∀ k, DS' k → w5.heap.size ≤ k) ∧ RS w6 DS' S' X' st0 := by
      rcases hor with ⟨c, h1, _⟩ | ⟨st', S', DS', h1, h2, h3, h4, _⟩
      · rw [HI.out.1.opens] at h1; cases h1
      · rw [HI.out.1.opens] at h1
        injection h1 with _ h1
        injection h1 with h1
        subst h1
        exact ⟨S', DS', h2, h3, h4⟩
    obtain ⟨S', DS', rfl, hD5, hrs⟩ := hor2
    have HB36 : Hid (Below w3.heap.size w3 w6) := HB35.out.trans (b6.mono HB35.out.size)
    obtain ⟨D', hD'⟩ : ∃ D' : Nat → Prop, (fun k => w3.heap.size ≤ k ∧ k < w4.heap.size) = D' := ⟨_, rfl⟩
    have HA : Hid (AG w6 N S X (32 + 0) y D f1 st0 S' X' y' D' f1 st0) := by
      have h5 := HRW5.out.below b6
      rw [hD'] at h5
      exact AG.made HAT.out HB36.out h5 (fun k hk => by rw [← hD'] at hk; exact hk.1) hrs (fun k hk => ⟨by have := hD5 k hk; have := HB35.out.size; omega, fun e => by rw [← hD'] at e; have := e.2; have := hD5 k hk; omega⟩)
    have HB6 : Hid (Below w.heap.size w w6) := HB3.out.trans (HB36.out.mono HB3.out.size)
    clear hor hD5 hrs b6 HROP HRW5 HB35 HB34 HB36 HAT HB3 hD' hs45 HFM
    generalize w3.heap.size = z3 at *
    go_wp2_with fail
    go_loopw [7, 11, 13] (fun xa xb z wr => ∃ (i S S' : Nat) (fl : FL) (st : ST), i ≤ len ∧ xa = fptr S ∧ xb = fptr S' ∧ z = .int .i64 (i : Int) ∧ Hid (AG wr N S X (32 + i) y D fl st S' X' y' D' fl st) ∧ Hid (Inv fl st ∧ fl.cut = false ∧ st.gen ≤ 1 + i) ∧ Hid (Below w.heap.size w wr)) (fun _ _ z _ => len - (intOf z).toNat)
    case atStart => exact ⟨0, S, S', f1, st0, by omega, rfl, rfl, rfl, HA, HI, HB6⟩
    case round =>
      clear HA HI HB6
      obtain ⟨i, S, S', fl, st, hi, rfl, rfl, rfl, HA, HI, HB⟩ := hrel
      by_cases hlt : i < len
      · have y0 : (i : Int) < len := by omega
        obtain ⟨bb, o, c, rfl, hbw, _, p0, p1, p2, p3⟩ := HL.out.at hlt
        have HQ : Hid (w.cell? ⟨bb, o + i * 4, none⟩ = some (.int .i64 c.kd) ∧ w.cell? ⟨bb, o + i * 4 + 1, none⟩ = some (.int .i64 c.nm) ∧ w.cell? ⟨bb, o + i * 4 + 2, none⟩ = some (.int .i64 c.ln) ∧ w.cell? ⟨bb, o + i * 4 + 3, none⟩ = some (.int .u8 (c.fi.toNat : Int))) := ⟨p0, p1, p2, p3⟩
        clear p0 p1 p2 p3
        have q0 : wr.cell? ⟨bb, o + i * 4, none⟩ = some (.int .i64 c.kd) := (HB.out.cell (p := ⟨bb, o + i * 4, none⟩) hbw).trans HQ.out.1
        have HM8 : Hid (Calls Tryz.prog 11 #[.int .i64 c.kd, .int .i64 8] wr fun e w' => e = .returned (.int .i64 ((mo c.kd 8 : Nat) : Int)) ∧ wr = w') := mod_any c.kd 8 wr (by omega) (by omega)
        obtain ⟨ne, hne⟩ : ∃ s : ByteArray, s = ⟨(nameOf c.nm).toArray⟩ := ⟨_, rfl⟩
        have HNM : Hid (∀ w, Calls Tryz.prog 12 #[.int .i64 c.nm] w fun e w' => e = .returned (.string ne) ∧ w = w') := fun w => by rw [hne]; exact name_any c.nm w
        have hnz : ne.size ≤ 24 := by rw [bsz, hne]; exact (nameOf_len c.nm).2
        obtain ⟨k8, hk8⟩ : ∃ k8, mo c.kd 8 = k8 := ⟨_, rfl⟩
        rw [hk8] at HM8
        clear hne hk8
        by_cases h7 : k8 = 7
        · subst h7
          go_wp2_with fail
          refine HM8.out.mono ?_
          rintro e w' ⟨rfl, rfl⟩
          clear HM8
          have HOP := Lib.hid (open_any HA.out.a.f)
          go_wp2_with fail
          refine HOP.out.mono ?_
          rintro e w4 ⟨b4, hor⟩
          have hor2 : ∃ S2 m2 DS2, e = .returned (.tuple #[fptr S2, .int .i64 0]) ∧ (∀ k, DS2 k → wr.heap.size ≤ k) ∧ SW w4 DS2 S2 X m2 32 st := by
            rcases hor with ⟨c, h1, _⟩ | ⟨st', S2, m2, DS2, h1, h2, h3, h4, _⟩
            · rw [HI.out.1.opens] at h1; cases h1
            · rw [HI.out.1.opens] at h1
              injection h1 with _ h1
              injection h1 with h1
              subst h1
              exact ⟨S2, m2, DS2, h2, h3, h4⟩
          obtain ⟨S2, m2, DS2, rfl, hD2, hs2⟩ := hor2
          have HB4 := Lib.hid b4
          have HS2 := Lib.hid (And.intro hD2 hs2)
          have HROP := Lib.hid (ropen_any (HA.out.a.f'.below b4))
          clear hor hD2 hs2 b4 HOP
          go_wp2_with fail
          refine HROP.out.mono ?_
          rintro e w5 ⟨b5, hor⟩
          have hor2 : ∃ S3 DS3, e = .returned (.tuple #[fptr S3, .int .i64 0]) ∧ (∀ k, DS3 k → w4.heap.size ≤ k) ∧ RS w5 DS3 S3 X' st := by
            rcases hor with ⟨c, h1, _⟩ | ⟨st', S3, DS3, h1, h2, h3, h4, _⟩
            · rw [HI.out.1.opens] at h1; cases h1
            · rw [HI.out.1.opens] at h1
              injection h1 with _ h1
              injection h1 with h1
              subst h1
              exact ⟨S3, DS3, h2, h3, h4⟩
          obtain ⟨S3, DS3, rfl, hD3, hs3⟩ := hor2
          have HA5 : Hid (AG w5 N S2 X 32 y D fl st S3 X' y' D' fl st) := AG.opened HA.out.a HB4.out HS2.out.2 HS2.out.1 b5 hs3 hD3
          have HB5 : Hid (Below w.heap.size w w5) := (HB.out.trans (HB4.out.mono HB.out.size)).trans (b5.mono (HB.out.trans (HB4.out.mono HB.out.size)).size)
          have HI2 : Hid (Inv fl st ∧ fl.cut = false ∧ st.gen ≤ 1 + (i + 1)) := ⟨HI.out.1, HI.out.2.1, by have := HI.out.2.2; omega⟩
          clear hor hD3 hs3 b5 HROP HB4 HS2 HA HB HI q0
          have k1 : w5.cell? ⟨bb, o + i * 4 + 1, none⟩ = some (.int .i64 c.nm) := (HB5.out.cell (p := ⟨bb, o + i * 4 + 1, none⟩) hbw).trans HQ.out.2.1
          have HGT := Lib.hid (HA5.out.get (k := ne) (by omega))
          have HRG := Lib.hid (HA5.out.rget ne)
          have HG1 := Lib.hid HA5.out.gen
          have HG2 := Lib.hid HA5.out.rgen
          obtain ⟨gv, ge, hgs⟩ : ∃ gv ge, getS st.V ne.data.toList = (gv, ge) := ⟨_, _, rfl⟩
          rw [hgs] at HGT HRG
          obtain ⟨gb, hgb⟩ : ∃ gb : ByteArray, str gv = .string gb := ⟨_, rfl⟩
          simp only [hgb] at HGT HRG
          obtain ⟨gn, hgn⟩ : ∃ g, st.gen = g := ⟨_, rfl⟩
          rw [hgn] at HG1 HG2
          clear hgs hgb hgn
          go_wp2_with fail
          refine (HNM.out _).mono ?_
          rintro e w' ⟨rfl, rfl⟩
          go_wp2_with fail
          refine HGT.out.mono ?_
          rintro e w' ⟨rfl, rfl⟩
          go_wp2_with fail
          refine (HNM.out _).mono ?_
          rintro e w' ⟨rfl, rfl⟩
          go_wp2_with fail
          refine HRG.out.mono ?_
          rintro e w' ⟨rfl, rfl⟩
          have hgbb : (gb.toList == gb.toList) = true := by simp
          clear HGT HRG k1
          go_wp2_with fail
          refine HG1.out.mono ?_
          rintro e w' ⟨rfl, rfl⟩
          go_wp2_with fail
          refine HG2.out.mono ?_
          rintro e w' ⟨rfl, rfl⟩
          clear HG1 HG2

          obtain ⟨Lw, hLw⟩ : ∃ L, st.V.length = L := ⟨_, rfl⟩
          have HLW := Lib.hid hLw
          have HL1 := Lib.hid (HA5.out.list (by omega))
          rw [hLw] at HL1
          clear hLw
          go_wp2_with fail
          refine HL1.out.mono ?_
          rintro e wl6 ⟨g1, rfl, hg1, hv1, b6⟩
          have HV1 := Lib.hid hv1
          have HAl6 := Lib.hid (HA5.out.below b6)
          have HBl6 : Hid (Below w.heap.size w wl6) := HB5.out.trans (b6.mono HB5.out.size)
          have HL2' := Lib.hid HAl6.out.rlist
          rw [HLW.out] at HL2'
          clear hg1 hv1 b6 HL1 HA5 HB5
          go_wp2_with fail
          refine HL2'.out.mono ?_
          rintro e wl7 ⟨a2, cap2, rfl, hv2, b7⟩
          have HEQ := Lib.hid (equalV_any (HV1.out.below b7) hv2 HLW.out HLW.out)
          have HAl7 := Lib.hid (HAl6.out.below b7)
          have HBl7 : Hid (Below w.heap.size w wl7) := HBl6.out.trans (b7.mono HBl6.out.size)
          rw [show decide (st.V = st.V) = true by simp] at HEQ
          clear hv2 b7 HL2' HAl6 HBl6 HV1
          go_wp2_with fail
          refine HEQ.out.mono ?_
          rintro e wl8 ⟨rfl, c8⟩
          have HA8 := Lib.hid (HAl7.out.below (c8.below (Nat.le_refl _) (fun _ h => h.elim)))
          have HB8 : Hid (Below w.heap.size w wl8) := HBl7.out.trans ((c8.below (B := wl7.heap.size) (Nat.le_refl _) (fun _ h => h.elim)).mono HBl7.out.size)
          clear c8 HEQ HAl7 HBl7 HLW

          have HAL := Lib.hid (alike_any HA8.out.a.f HA8.out.a.f' HI2.out.1.off)
          go_wp2_with fail
          refine HAL.out.mono ?_
          rintro e w9 ⟨rfl, b9⟩
          have HA9 := Lib.hid (HA8.out.below b9)
          have HB9 : Hid (Below w.heap.size w w9) := HB8.out.trans (b9.mono HB8.out.size)
          clear b9 HAL HA8 HB8
          go_wp2_with fail
          go_roundw
          case rel => exact ⟨i + 1, S2, S3, fl, st, by omega, rfl, rfl, by go_num, HA9.out.mono (by omega), HI2, HB9⟩
          case measure => simp [intOf]; omega
        · have h7b : ((k8 : Int) == 7) = false := by rw [beq_eq_false_iff_ne]; omega
          have h7I : ¬ (k8 : Int) = 7 := by omega
          go_wp2_with fail
          refine HM8.out.mono ?_
          rintro e w' ⟨rfl, rfl⟩
          clear HM8
          have q1 : wr.cell? ⟨bb, o + i * 4 + 1, none⟩ = some (.int .i64 c.nm) := (HB.out.cell (p := ⟨bb, o + i * 4 + 1, none⟩) hbw).trans HQ.out.2.1
          have q2 : wr.cell? ⟨bb, o + i * 4 + 2, none⟩ = some (.int .i64 c.ln) := (HB.out.cell (p := ⟨bb, o + i * 4 + 2, none⟩) hbw).trans HQ.out.2.2.1
          have q3 : wr.cell? ⟨bb, o + i * 4 + 3, none⟩ = some (.int .u8 (c.fi.toNat : Int)) := (HB.out.cell (p := ⟨bb, o + i * 4 + 3, none⟩) hbw).trans HQ.out.2.2.2
          have hcalm := (doF_cases HI.out.1 (by have := HI.out.2.2; omega) c.kd c.nm c.ln c.fi).calm HI.out.1 HI.out.2.1
          have hdoC : doF fl st c.kd c.nm c.ln c.fi = doC fl st c := rfl
          rw [hdoC] at hcalm
          have HD1 := Lib.hid (HA.out.drewA.do HI.out.1.blk (by omega) c)
          have hD2 := fun wx (hx : AG wx N S X (32 + i + 1) y D (doC fl st c).2.1 (doC fl st c).2.2 S' X' y' D' fl st) => hx.want HI.out.1.blk c
          obtain ⟨e1, f1, s1, hr1⟩ : ∃ e f s, doC fl st c = (e, f, s) := ⟨_, _, _, rfl⟩
          rw [hr1] at hcalm HD1
          simp only [hr1] at hD2
          simp only at hcalm
          have HD2 := Lib.hid hD2
          have HI2 : Hid (Inv f1 s1 ∧ f1.cut = false ∧ s1.gen ≤ 1 + (i + 1)) := ⟨hcalm.1, hcalm.2.1, by have := hcalm.2.2.2.1; have := HI.out.2.2; omega⟩
          have HD1' : Hid (Calls Tryz.prog 28 #[fptr S, .agg #[.int .i64 c.kd, .int .i64 c.nm, .int .i64 c.ln, .int .u8 (c.fi.toNat : Int)]] wr.drew fun e w' => e = .returned (.int .i64 e1) ∧ AG w' N S X (32 + i + 1) y D f1 s1 S' X' y' D' fl st ∧ Below N wr.drew w') := HD1
          have HD2' : Hid (∀ wx, AG wx N S X (32 + i + 1) y D f1 s1 S' X' y' D' fl st → Calls Tryz.prog 29 #[fptr S', .agg #[.int .i64 c.kd, .int .i64 c.nm, .int .i64 c.ln, .int .u8 (c.fi.toNat : Int)]] wx fun e w' => e = .returned (.int .i64 e1) ∧ AG w' N S X (32 + i + 1) y D f1 s1 S' X' y' D' f1 s1 ∧ Below N wx w') := HD2
          have S1 : Hid (wr.drew.cell? ⟨bb, o + i * 4, none⟩ = some (.int .i64 c.kd) ∧ wr.drew.cell? ⟨bb, o + i * 4 + 1, none⟩ = some (.int .i64 c.nm) ∧ wr.drew.cell? ⟨bb, o + i * 4 + 2, none⟩ = some (.int .i64 c.ln) ∧ wr.drew.cell? ⟨bb, o + i * 4 + 3, none⟩ = some (.int .u8 (c.fi.toNat : Int))) := ⟨q0, q1, q2, q3⟩
          have HBd : Hid (Below w.heap.size w wr.drew) := HB.out.drew
          clear hcalm hdoC hr1 HD1 HD2 hD2 q0 q1 q2 q3 HA HB 
          go_wp2_with fail
          refine wp_region_pl (fun Y => Y.cell? ⟨bb, o + i * 4, none⟩ = some (.int .i64 c.kd) ∧ Y.cell? ⟨bb, o + i * 4 + 1, none⟩ = some (.int .i64 c.nm) ∧ Y.cell? ⟨bb, o + i * 4 + 2, none⟩ = some (.int .i64 c.ln) ∧ Y.cell? ⟨bb, o + i * 4 + 3, none⟩ = some (.int .u8 (c.fi.toNat : Int))) ((0, 0) :: (1, 0) :: (2, 0) :: (3, 0) :: (4, 0) :: (6, 0) :: (7, 0) :: (8, 0) :: (9, 0) :: (10, 0) :: (5, 1) :: (11, 1) :: (12, 0) :: []) (by kernel_rfl) (by kernel_rfl) ?_
          iterate 10 (apply wpP_go; (focus rfl); (focus rfl); (focus exact S1.out); (focus (rintro Q ⟨s0, s1, s2, s3⟩; go_simp; exact rfl)); intro K hK; go_simp; refine hK _ ?_; clear hK K)
          apply wpP_one
          focus rfl
          intro K hK
          go_simp
          refine HD1'.out.mono ?_
          rintro e V1 ⟨rfl, ha, b1⟩
          have hq1 : ∀ j, V1.cell? ⟨bb, j, none⟩ = wr.drew.cell? ⟨bb, j, none⟩ := fun j => b1.cell (p := ⟨bb, j, none⟩) (by show bb < N; omega)
          have S2 : Hid (V1.cell? ⟨bb, o + i * 4, none⟩ = some (.int .i64 c.kd) ∧ V1.cell? ⟨bb, o + i * 4 + 1, none⟩ = some (.int .i64 c.nm) ∧ V1.cell? ⟨bb, o + i * 4 + 2, none⟩ = some (.int .i64 c.ln) ∧ V1.cell? ⟨bb, o + i * 4 + 3, none⟩ = some (.int .u8 (c.fi.toNat : Int))) := ⟨(hq1 _).trans S1.out.1, (hq1 _).trans S1.out.2.1, (hq1 _).trans S1.out.2.2.1, (hq1 _).trans S1.out.2.2.2⟩
          have HD3 := Lib.hid (HD2'.out _ ha)
          have HB1 : Hid (Below w.heap.size w V1) := HBd.out.trans (b1.mono hNw)
          refine hK _ _ S2.out ?_
          clear hK K ha b1 hq1 S1 HD1' HD2' HBd
          apply wpP_one
          focus rfl
          intro K hK
          go_simp
          refine HD3.out.mono ?_
          rintro e V2 ⟨rfl, ha, b2⟩
          have hq2 : ∀ j, V2.cell? ⟨bb, j, none⟩ = V1.cell? ⟨bb, j, none⟩ := fun j => b2.cell (p := ⟨bb, j, none⟩) (by show bb < N; omega)
          have S3 : Hid (V2.cell? ⟨bb, o + i * 4, none⟩ = some (.int .i64 c.kd) ∧ V2.cell? ⟨bb, o + i * 4 + 1, none⟩ = some (.int .i64 c.nm) ∧ V2.cell? ⟨bb, o + i * 4 + 2, none⟩ = some (.int .i64 c.ln) ∧ V2.cell? ⟨bb, o + i * 4 + 3, none⟩ = some (.int .u8 (c.fi.toNat : Int))) := ⟨(hq2 _).trans S2.out.1, (hq2 _).trans S2.out.2.1, (hq2 _).trans S2.out.2.2.1, (hq2 _).trans S2.out.2.2.2⟩
          have HA2 : Hid (AG V2 N S X (32 + i + 1) y D f1 s1 S' X' y' D' f1 s1) := ha
          have HB2 : Hid (Below w.heap.size w V2) := HB1.out.trans (b2.mono hNw)
          refine hK _ _ S3.out ?_
          clear hK K ha b2 hq2 S2 HD3 HB1
          iterate 1 (apply wpP_go; (focus rfl); (focus rfl); (focus exact S3.out); (focus (rintro Q ⟨s0, s1, s2, s3⟩; go_simp; exact rfl)); intro K hK; go_simp; refine hK _ ?_; clear hK K)
          refine wpP_done ?_
          clear S3 HI

          have k1 : V2.cell? ⟨bb, o + i * 4 + 1, none⟩ = some (.int .i64 c.nm) := (HB2.out.cell (p := ⟨bb, o + i * 4 + 1, none⟩) hbw).trans HQ.out.2.1
          have HGT := Lib.hid (HA2.out.get (k := ne) (by omega))
          have HRG := Lib.hid (HA2.out.rget ne)
          have HG1 := Lib.hid HA2.out.gen
          have HG2 := Lib.hid HA2.out.rgen
          obtain ⟨gv, ge, hgs⟩ : ∃ gv ge, getS s1.V ne.data.toList = (gv, ge) := ⟨_, _, rfl⟩
          rw [hgs] at HGT HRG
          obtain ⟨gb, hgb⟩ : ∃ gb : ByteArray, str gv = .string gb := ⟨_, rfl⟩
          simp only [hgb] at HGT HRG
          obtain ⟨gn, hgn⟩ : ∃ g, s1.gen = g := ⟨_, rfl⟩
          rw [hgn] at HG1 HG2
          clear hgs hgb hgn
          go_wp2_with fail
          refine (HNM.out _).mono ?_
          rintro e w' ⟨rfl, rfl⟩
          go_wp2_with fail
          refine HGT.out.mono ?_
          rintro e w' ⟨rfl, rfl⟩
          go_wp2_with fail
          refine (HNM.out _).mono ?_
          rintro e w' ⟨rfl, rfl⟩
          go_wp2_with fail
          refine HRG.out.mono ?_
          rintro e w' ⟨rfl, rfl⟩
          have hgbb : (gb.toList == gb.toList) = true := by simp
          clear HGT HRG k1
          go_wp2_with fail
          refine HG1.out.mono ?_
          rintro e w' ⟨rfl, rfl⟩
          go_wp2_with fail
          refine HG2.out.mono ?_
          rintro e w' ⟨rfl, rfl⟩
          clear HG1 HG2

          obtain ⟨Lw, hLw⟩ : ∃ L, s1.V.length = L := ⟨_, rfl⟩
          have HLW := Lib.hid hLw
          have HL1 := Lib.hid (HA2.out.list (by omega))
          rw [hLw] at HL1
          clear hLw
          go_wp2_with fail
          refine HL1.out.mono ?_
          rintro e wl6 ⟨g1, rfl, hg1, hv1, b6⟩
          have HV1 := Lib.hid hv1
          have HAl6 := Lib.hid (HA2.out.below b6)
          have HBl6 : Hid (Below w.heap.size w wl6) := HB2.out.trans (b6.mono HB2.out.size)
          have HL2' := Lib.hid HAl6.out.rlist
          rw [HLW.out] at HL2'
          clear hg1 hv1 b6 HL1 HA2 HB2
          go_wp2_with fail
          refine HL2'.out.mono ?_
          rintro e wl7 ⟨a2, cap2, rfl, hv2, b7⟩
          have HEQ := Lib.hid (equalV_any (HV1.out.below b7) hv2 HLW.out HLW.out)
          have HAl7 := Lib.hid (HAl6.out.below b7)
          have HBl7 : Hid (Below w.heap.size w wl7) := HBl6.out.trans (b7.mono HBl6.out.size)
          rw [show decide (s1.V = s1.V) = true by simp] at HEQ
          clear hv2 b7 HL2' HAl6 HBl6 HV1
          go_wp2_with fail
          refine HEQ.out.mono ?_
          rintro e wl8 ⟨rfl, c8⟩
          have HA8 := Lib.hid (HAl7.out.below (c8.below (Nat.le_refl _) (fun _ h => h.elim)))
          have HB8 : Hid (Below w.heap.size w wl8) := HBl7.out.trans ((c8.below (B := wl7.heap.size) (Nat.le_refl _) (fun _ h => h.elim)).mono HBl7.out.size)
          clear c8 HEQ HAl7 HBl7 HLW

          have HAL := Lib.hid (alike_any HA8.out.a.f HA8.out.a.f' HI2.out.1.off)
          go_wp2_with fail
          refine HAL.out.mono ?_
          rintro e w9 ⟨rfl, b9⟩
          have HA9 := Lib.hid (HA8.out.below b9)
          have HB9 : Hid (Below w.heap.size w w9) := HB8.out.trans (b9.mono HB8.out.size)
          clear b9 HAL HA8 HB8
          go_wp2_with fail
          go_roundw
          case rel => exact ⟨i + 1, S, S', f1, s1, by omega, rfl, rfl, by go_num, HA9.out.mono (by omega), HI2, HB9⟩
          case measure => simp [intOf]; omega
      · have y0 : ¬ (i : Int) < len := by omega
        have HAW := Lib.hid (awake_any wr)
        go_wp2_with fail
        refine HAW.out.mono ?_
        rintro e w9 ⟨rfl, b9⟩
        have HB9 : Hid (Below w.heap.size w w9) := HB.out.trans (b9.mono HB.out.size)
        clear b9 HAW
        go_wp2_with fail
        go_ret
        exact ⟨rfl, HB9.out⟩
end Go.Proofs.YtfglopkglnpokaaGreat
