/- A law of the varstore, walked. Conditions: those that each theorem names. -/
import Derived.Test.YtfglopkglnpokaaGreatM14
import Derived.Test.YtfglopkglnpokaaGreatM8
import Derived.Test.YtfglopkglnpokaaGreatV4
namespace Go.Proofs.YtfglopkglnpokaaGreat
open Go.RowKit Go.ChangeShapes Go.WideShapes Go.ChangeAt Go.Deep
def StrS (w : World) (a : Option Addr) (len cap : Nat) (l : List ByteArray) : Prop := l.length = len ∧ len ≤ cap ∧ cap ≤ maxLen ∧ (∀ s ∈ l, s.size ≤ maxLen) ∧ (l ≠ [] → ∃ b o, a = some ⟨b, o, none⟩ ∧ b < w.heap.size ∧ ∀ i s, l[i]? = some s → w.rangeAt b (o + i * 1) [.string s])
theorem StrS.at {w : World} {a : Option Addr} {len cap i : Nat} {l : List ByteArray} (h : StrS w a len cap l) (hi : i < len) : ∃ (b o : Nat) (s : ByteArray), a = some ⟨b, o, none⟩ ∧ b < w.heap.size ∧ l[i]? = some s ∧ s.size ≤ maxLen ∧ w.cell? ⟨b, o + i, none⟩ = some (.string s) := by
  obtain ⟨h1, h2, h3, h4, h5⟩ := h
  obtain ⟨b, o, e, hl, hr⟩ := h5 (by intro e; rw [e] at h1; simp at h1; omega)
  have hc : l[i]? = some l[i] := List.getElem?_eq_getElem (by omega)
  have := hr i _ hc
  have h0 := this 0 _ rfl
  rw [Nat.mul_one] at h0
  exact ⟨b, o, l[i], e, hl, hc, h4 _ (List.getElem_mem _), h0⟩
theorem clS : Tryz.prog.cellsOf 9 = 1 := by kernel_rfl
theorem open_strl {H : Type} {enc : TypeId × Value → H} {w : World} {base : Nat} {spare : Nat → Bool} {held : Bool} {fuel : Nat} {cs : List Value} {x : DataW H × List MemPlace} (h : DataW.trod enc Tryz.prog w base spare held fuel 25 cs = some x) :
    ∃ (A : Option Addr) (len cap : Nat) (l : List ByteArray), cs = [.slice A len cap] ∧ StrS w A len cap l := by
  obtain ⟨A, len, cap, l, h1, h2, h3, h4, h5, h6⟩ := open_list Tryz.underlying25 clS (by omega) (fun s => [.string s]) (fun s : ByteArray => s.size ≤ maxLen) (fun _ => rfl) (fun {fuel} {cs} {x} h => by
    obtain ⟨s, h, _, hs⟩ := DataW.trod_string Tryz.underlying9 h
    exact ⟨s, hs, h⟩) h
  exact ⟨A, len, cap, l, h1, h2, h3, h4, h5, h6⟩
section
variable {fl : FL} {st : ST}
theorem chg_calm (h : Inv fl st) (hc : fl.cut = false) (hg : st.gen + 1 < 18446744073709551616) {k : Nat} {n v : Str} (hk : k = 1 ∨ k = 2) (hok : okLens k n.length v.length = true) :
    Inv (chgF fl st k n v).2.1 (chgF fl st k n v).2.2 ∧ (chgF fl st k n v).2.1.cut = false ∧ (chgF fl st k n v).2.2.gen ≤ st.gen + 1 := by
  rcases chgF_cases h hk hok hg with ⟨g, st', e, h1, _, h3, h4, _, h6⟩ | ⟨e, _⟩ | ⟨k1, _⟩
  · rw [e]
    refine ⟨h1, h4 hc, ?_⟩
    rcases h6 with ⟨_, e, _⟩ | ⟨_, _, e, _⟩
    · show st'.gen ≤ _; omega
    · show st'.gen ≤ _; omega
  · rw [e]; exact ⟨h, hc, Nat.le_succ _⟩
  · rw [hc] at k1; cases k1
theorem set_calm (h : Inv fl st) (hc : fl.cut = false) (hg : st.gen + 1 < 18446744073709551616) (n v : Str) :
    Inv (setF fl st n v).2.1 (setF fl st n v).2.2 ∧ (setF fl st n v).2.1.cut = false ∧ (setF fl st n v).2.2.gen ≤ st.gen + 1 := by
  unfold setF
  split
  · exact ⟨h, hc, Nat.le_succ _⟩
  · rename_i ho
    split
    · exact ⟨h, hc, Nat.le_succ _⟩
    · exact chg_calm h hc hg (.inl rfl) (by simpa using ho)
theorem del_calm (h : Inv fl st) (hc : fl.cut = false) (hg : st.gen + 1 < 18446744073709551616) (n : Str) :
    Inv (delF fl st n).2.1 (delF fl st n).2.2 ∧ (delF fl st n).2.1.cut = false ∧ (delF fl st n).2.2.gen ≤ st.gen + 1 := by
  unfold delF
  split
  · exact ⟨h, hc, Nat.le_succ _⟩
  · rename_i ho
    split
    · exact ⟨h, hc, Nat.le_succ _⟩
    · exact chg_calm h hc hg (.inr rfl) (by simpa using ho)
end
end Go.Proofs.YtfglopkglnpokaaGreat
namespace Go.Proofs.YtfglopkglnpokaaGreat
open Go.RowKit
set_option maxRecDepth 100000 in
set_option maxHeartbeats 8000000 in
theorem args_any (a : Option Addr) (len cap : Nat) (l : List ByteArray) (a2 : Option Addr) (len2 cap2 : Nat) (l2 : List ByteArray) (w : World) (hl : StrS w a len cap l) (hl2 : StrS w a2 len2 cap2 l2) :
    Calls Tryz.prog 5 #[.slice a len cap, .slice a2 len2 cap2] w fun e w' => e = .returned (.bool true) ∧ Below w.heap.size w w' := by
  have HL := Lib.hid hl
  have HL2 := Lib.hid hl2
  have hcap : len ≤ cap := hl.2.1
  have hcapM := hl.2.2.1
  have hcap2 : len2 ≤ cap2 := hl2.2.1
  have hcapM2 := hl2.2.2.1
  unfold maxLen at hcapM hcapM2
  clear hl hl2
  have HAW0 : Hid (Calls Tryz.prog 7 #[] w fun e w' => e = .returned (.bool true) ∧ Below w.heap.size w w') := awake_any _
  by_cases hbig : 6 < len
  · have hbI : (len : Int) > 6 := by omega
    go_enter Tryz.func5, Tryz.ntmps5
    go_wp2_with fail
    refine HAW0.out.mono ?_
    rintro e w1 ⟨rfl, b1⟩
    have HB1 := Lib.hid b1
    clear b1 HAW0
    go_wp2_with fail
    go_ret
    exact ⟨rfl, HB1.out⟩
  by_cases hbig2 : 6 < len2
  · have hbI : ¬ (len : Int) > 6 := by omega
    have hbI2 : (len2 : Int) > 6 := by omega
    go_enter Tryz.func5, Tryz.ntmps5
    go_wp2_with fail
    refine HAW0.out.mono ?_
    rintro e w1 ⟨rfl, b1⟩
    have HB1 := Lib.hid b1
    clear b1 HAW0
    go_wp2_with fail
    go_ret
    exact ⟨rfl, HB1.out⟩
  · have hbI : ¬ (len : Int) > 6 := by omega
    have hbI2 : ¬ (len2 : Int) > 6 := by omega
    clear HAW0
    go_enter Tryz.func5, Tryz.ntmps5
    have HB1 : Hid (Below w.heap.size w w) := Below.refl _ _
    have hT0 : Row (w.alloc (.cells #[.int .i64 0, .int .i64 0, .int .i64 0] 23)) w.heap.size 23 3 (fsc 0 0 0) := Row.ofList w 23 _ _ 3 rfl
    have b4 : Below w.heap.size w (w.alloc (.cells #[.int .i64 0, .int .i64 0, .int .i64 0] 23)) := (Below.refl _ _).alloc (Nat.le_refl _) _
    obtain ⟨V2, hV2⟩ : ∃ V2, w.alloc (.cells #[.int .i64 0, .int .i64 0, .int .i64 0] 23) = V2 := ⟨_, rfl⟩
    have hTw : w.heap.size ≤ w.heap.size := Nat.le_refl _
    rw [hV2] at hT0
    rw [hV2] at b4
    have hB2' := HB1.out.trans (b4.mono HB1.out.size)
    have r0 := hT0.cell (i := 0) (by omega)
    have r1 := hT0.cell (i := 1) (by omega)
    have r2 := hT0.cell (i := 2) (by omega)
    have f0 := hT0.frozen 0
    have f1' := hT0.frozen 1
    have f2' := hT0.frozen 2
    have hT6 := ((hT0.set (i := 0) (by omega) (.int .i64 2)).set (i := 1) (by omega) (.int .i64 20)).set (i := 2) (by omega) (.int .i64 100)
    have HTc : Hid ((((V2.setCell ⟨w.heap.size, 0, none⟩ (.int .i64 2)).setCell ⟨w.heap.size, 1, none⟩ (.int .i64 20)).setCell ⟨w.heap.size, 2, none⟩ (.int .i64 100)).cell? ⟨w.heap.size, 0, none⟩ = some (.int .i64 2) ∧ (((V2.setCell ⟨w.heap.size, 0, none⟩ (.int .i64 2)).setCell ⟨w.heap.size, 1, none⟩ (.int .i64 20)).setCell ⟨w.heap.size, 2, none⟩ (.int .i64 100)).cell? ⟨w.heap.size, 1, none⟩ = some (.int .i64 20) ∧ (((V2.setCell ⟨w.heap.size, 0, none⟩ (.int .i64 2)).setCell ⟨w.heap.size, 1, none⟩ (.int .i64 20)).setCell ⟨w.heap.size, 2, none⟩ (.int .i64 100)).cell? ⟨w.heap.size, 2, none⟩ = some (.int .i64 100)) := ⟨hT6.cell (i := 0) (by omega), hT6.cell (i := 1) (by omega), hT6.cell (i := 2) (by omega)⟩
    have HTl : Hid (w.heap.size < (((V2.setCell ⟨w.heap.size, 0, none⟩ (.int .i64 2)).setCell ⟨w.heap.size, 1, none⟩ (.int .i64 20)).setCell ⟨w.heap.size, 2, none⟩ (.int .i64 100)).heap.size) := hT6.lt
    have HB2 : Hid (Below w.heap.size w (((V2.setCell ⟨w.heap.size, 0, none⟩ (.int .i64 2)).setCell ⟨w.heap.size, 1, none⟩ (.int .i64 20)).setCell ⟨w.heap.size, 2, none⟩ (.int .i64 100))) := ((hB2'.setCell (p := ⟨w.heap.size, 0, none⟩) hTw _).setCell (p := ⟨w.heap.size, 1, none⟩) hTw _).setCell (p := ⟨w.heap.size, 2, none⟩) hTw _
    clear hT0 b4 hB2' hT6 HB1
    go_wp2_with fail
    clear hV2 r0 r1 r2 f0 f1' f2'
    generalize ((V2.setCell ⟨w.heap.size, 0, none⟩ (.int .i64 2)).setCell ⟨w.heap.size, 1, none⟩ (.int .i64 20)).setCell ⟨w.heap.size, 2, none⟩ (.int .i64 100) = w2 at *
    have t0 := HTc.out.1
    have t1 := HTc.out.2.1
    have t2 := HTc.out.2.2
    have HOL : Hid (Calls Tryz.prog 26 #[.agg #[.int .i64 2, .int .i64 20, .int .i64 100]] w2 fun e w' => ∃ S X y D f1, e = .returned (.tuple #[fptr X, fptr S, .bool true]) ∧
        fmtF (newF 2 20 100) = (0, f1) ∧ AT w' w2.heap.size S X y D 32 f1 st0 ∧ Inv f1 st0 ∧ Same (newF 2 20 100) f1 ∧ (∀ b, f1.er b = 0) ∧ f1.cut = false ∧ (∀ b, b ≠ 0 → blankP (pgsF f1 b) = true) ∧ Below w2.heap.size w2 w') := open_law2 w2 2 20 100 ⟨by omega, by omega⟩ ⟨by omega, by omega⟩ (by omega)
    refine HOL.out.mono ?_
    rintro e w3 ⟨S, X, y, D, f1, rfl, hfm, ha, hI, hSm, her, hc, hbl, b3⟩
    have HI : Hid (Inv f1 st0 ∧ f1.cut = false ∧ st0.gen ≤ 1 + 0) := ⟨hI, hc, Nat.le_refl _⟩
    have HAT : Hid (AT w3 w2.heap.size S X y D 32 f1 st0) := ha
    have HFM := Lib.hid hfm
    have HB3 : Hid (Below w.heap.size w w3) := HB2.out.trans (b3.mono HB2.out.size)
    have hNw : w.heap.size ≤ w2.heap.size := HB2.out.size
    have t0 := cell_later b3 HTc.out.1
    have t1 := cell_later b3 HTc.out.2.1
    have t2 := cell_later b3 HTc.out.2.2
    obtain ⟨N, hN⟩ : ∃ N, w2.heap.size = N := ⟨_, rfl⟩
    rw [hN] at HAT hNw
    clear hfm ha hI hSm her hc hbl b3 hN HB2 HTl HTc HOL
    have HNW : Hid (Calls Tryz.prog 10 #[.agg #[.int .i64 2, .int .i64 20, .int .i64 100]] w3 fun e w' => ∃ X y, e = .returned (.tuple #[fptr X, .int .i64 0]) ∧ RW w' (fun k => w3.heap.size ≤ k ∧ k < w'.heap.size) X y (newF 2 20 100) ∧ Below w3.heap.size w3 w') := rnew_any w3 2 20 100 ⟨by omega, by omega⟩ ⟨by omega, by omega⟩ (by omega)
    go_wp2_with fail
    refine HNW.out.mono ?_
    rintro e w4 ⟨X', y', rfl, hrw, b4⟩
    have HRW4 := Lib.hid hrw
    have HB34 := Lib.hid b4
    clear hrw b4 HNW t0 t1 t2
    have HFMC : Hid (Calls Tryz.prog 27 #[fptr X'] w4 fun e w' => e = .returned (.int .i64 0) ∧ RW w' (fun k => w3.heap.size ≤ k ∧ k < w4.heap.size) X' y' f1 ∧ Ch (fun k => w3.heap.size ≤ k ∧ k < w4.heap.size) w4 w') := by
      have := rformat_any HRW4.out rfl (fun b => pages_blank fun q _ => rfl) (by show 2 ≤ 2; omega) (by show 2 ≤ 20; omega)
      rw [HFM.out] at this
      exact this
    go_wp2_with fail
    refine HFMC.out.mono ?_
    rintro e w5 ⟨rfl, h5, c5⟩
    have HRW5 := Lib.hid h5
    have HB35 : Hid (Below w3.heap.size w3 w5) := HB34.out.trans ((c5.below (B := w3.heap.size) HB34.out.size (fun i hi => hi.1)))
    have hs45 := c5.size
    clear h5 c5 HFMC HRW4
    have HROP := Lib.hid (ropen_any HRW5.out)
    go_wp2_with fail
    refine HROP.out.mono ?_
    rintro e w6 ⟨b6, hor⟩
    have hor2 : ∃ S' DS', e = .returned (.tuple #[fptr S', .int .i64 0]) ∧ (∀ k, DS' k → w5.heap.size ≤ k) ∧ RS w6 DS' S' X' st0 := by
      rcases hor with ⟨c, h1, _⟩ | ⟨st', S', DS', h1, h2, h3, h4, _⟩
      · rw [HI.out.1.opens] at h1; cases h1
      · rw [HI.out.1.opens] at h1
        injection h1 with _ h1
        injection h1 with h1
        subst h1
        exact ⟨S', DS', h2, h3, h4⟩
    obtain ⟨S', DS', rfl, hD5, hrs⟩ := hor2
    have HB36 : Hid (Below w3.heap.size w3 w6) := HB35.out.trans (b6.mono HB35.out.size)
    obtain ⟨D', hD'⟩ : ∃ D' : Nat → Prop, (fun k => w3.heap.size ≤ k ∧ k < w4.heap.size) = D' := ⟨_, rfl⟩
    have HA : Hid (AG w6 N S X (32 + 0) y D f1 st0 S' X' y' D' f1 st0) := by
      have h5 := HRW5.out.below b6
      rw [hD'] at h5
      exact AG.made HAT.out HB36.out h5 (fun k hk => by rw [← hD'] at hk; exact hk.1) hrs (fun k hk => ⟨by have := hD5 k hk; have := HB35.out.size; omega, fun e => by rw [← hD'] at e; have := e.2; have := hD5 k hk; omega⟩)
    have HB6 : Hid (Below w.heap.size w w6) := HB3.out.trans (HB36.out.mono HB3.out.size)
    clear hor hD5 hrs b6 HROP HRW5 HB35 HB34 HB36 HAT HB3 hD' hs45 HFM
    generalize w3.heap.size = z3 at *
    go_wp2_with fail
    go_loopw [13] (fun z wr => ∃ (i : Nat) (fl : FL) (st : ST), i ≤ len ∧ z = .int .i64 (i : Int) ∧ Hid (AG wr N S X (32 + 2 * i) y D fl st S' X' y' D' fl st) ∧ Hid (Inv fl st ∧ fl.cut = false ∧ st.gen ≤ 1 + 2 * i) ∧ Hid (∀ (j : Nat) (s : ByteArray), j < i → l[j]? = some s → s.size ≤ 200) ∧ Hid (Below w.heap.size w wr)) (fun z _ => len - (intOf z).toNat)
    case atStart => exact ⟨0, f1, st0, by omega, rfl, HA, HI, fun j s hj => absurd hj (Nat.not_lt_zero j), HB6⟩
    case round =>
      clear HA HI HB6
      obtain ⟨i, fl, st, hi, rfl, HA, HI, HNS, HB⟩ := hrel
      by_cases hlt : i < len
      · have y0 : (i : Int) < len := by omega
        obtain ⟨bb, o, ne, rfl, hbw, hli, hns, p0⟩ := HL.out.at hlt
        obtain ⟨h2, hh2⟩ : ∃ q, i / 2 = q := ⟨_, rfl⟩
        have hh2l : h2 ≤ i := by omega
        have HH2 : Hid ((i : Int) / 2 = (h2 : Int)) := by show _ = _; omega
        clear hh2
        obtain ⟨bb', o', he, he0, _, hlh, hhs, p1⟩ := HL.out.at (i := h2) (by omega)
        injection he0 with he0
        injection he0 with he0 he1
        subst he0 he1
        unfold maxLen at hns hhs
        have q0 : wr.cell? ⟨bb, o + i, none⟩ = some (.string ne) := (HB.out.cell (p := ⟨bb, o + i, none⟩) hbw).trans p0
        have q1 : wr.cell? ⟨bb, o + h2, none⟩ = some (.string he) := (HB.out.cell (p := ⟨bb, o + h2, none⟩) hbw).trans p1
        have S0 : Hid (wr.drew.cell? ⟨bb, o + i, none⟩ = some (.string ne) ∧ wr.drew.cell? ⟨bb, o + h2, none⟩ = some (.string he)) := ⟨q0, q1⟩
        clear p0 p1
        by_cases hnl : 200 < ne.size
        · have hnb : (ne.size : Int) > 200 := by omega
          have HAW := Lib.hid (awake_any wr)
          go_wp2_with fail
          refine HAW.out.mono ?_
          rintro e w9 ⟨rfl, b9⟩
          have HB9 : Hid (Below w.heap.size w w9) := HB.out.trans (b9.mono HB.out.size)
          clear b9 HAW
          go_wp2_with fail
          go_ret
          exact ⟨rfl, HB9.out⟩
        · have hnb : ¬ (ne.size : Int) > 200 := by omega
          have HNS2 : Hid (∀ (j : Nat) (s : ByteArray), j < i + 1 → l[j]? = some s → s.size ≤ 200) := fun j s hj hs => by
            rcases (by omega : j < i ∨ j = i) with e | e
            · exact HNS.out j s e hs
            · rw [e, hli] at hs; injection hs with hs; rw [← hs]; omega
          have hhb : he.size ≤ 200 := HNS2.out h2 he (by omega) hlh
          clear HNS hli hlh
          by_cases hv : i < len2
          · have y1 : (i : Int) < len2 := by omega
            obtain ⟨bb2, o2, ve, rfl, hbw2, _, _, p2⟩ := HL2.out.at hv
            have q2 : wr.cell? ⟨bb2, o2 + i, none⟩ = some (.string ve) := (HB.out.cell (p := ⟨bb2, o2 + i, none⟩) hbw2).trans p2
            clear p2
            by_cases hvl : 200 < ve.size
            · have hvb : (ve.size : Int) > 200 := by omega
              have hvd : decide ((ve.size : Int) > 200) = true := by simp; omega
              have HAW := Lib.hid (awake_any wr.drew)
              have HBd : Hid (Below w.heap.size w wr.drew) := HB.out.drew
              clear HA HB HI
              go_wp2_with fail
              have hvd2 : decide ((ve.size : Int) > 200) = true := by simp; omega
              refine wp_region_pl (fun Y => Y.cell? ⟨bb, o + i, none⟩ = some (.string ne) ∧ Y.cell? ⟨bb, o + h2, none⟩ = some (.string he)) ((0, 0) :: (1, 0) :: (2, 0) :: (3, 0) :: (4, 0) :: (5, 0) :: (6, 0) :: (7, 0) :: (8, 0) :: (9, 0) :: (10, 0) :: (11, 0) :: (12, 0) :: (13, 0) :: (14, 0) :: (15, 0) :: (16, 0) :: (17, 0) :: (18, 0) :: (19, 0) :: (20, 0) :: (21, 0) :: (22, 0) :: (23, 0) :: (24, 0) :: (25, 0) :: (26, 0) :: (27, 0) :: (28, 0) :: (29, 0) :: (30, 0) :: (31, 0) :: (32, 0) :: (33, 0) :: (34, 0) :: (35, 0) :: (36, 0) :: (37, 0) :: (38, 0) :: (39, 0) :: (40, 0) :: (41, 0) :: []) (by kernel_rfl) (by kernel_rfl) ?_
              iterate 4 (apply wpP_go; (focus rfl); (focus rfl); (focus exact S0.out); (focus (rintro Q ⟨s0, s1⟩; go_simp; exact rfl)); intro K hK; go_simp; refine hK _ ?_; clear hK K)
              iterate 15 (apply wpP_not; (focus rfl); (focus rfl); (focus exact S0.out); intro K hK; go_simp; refine hK _ ?_; clear hK K)
              iterate 2 (apply wpP_go; (focus rfl); (focus rfl); (focus exact S0.out); (focus (rintro Q ⟨s0, s1⟩; go_simp; exact rfl)); intro K hK; go_simp; refine hK _ ?_; clear hK K)
              iterate 20 (apply wpP_not; (focus rfl); (focus rfl); (focus exact S0.out); intro K hK; go_simp; refine hK _ ?_; clear hK K)
              iterate 1 (apply wpP_go; (focus rfl); (focus rfl); (focus exact S0.out); (focus (rintro Q ⟨s0, s1⟩; go_simp; exact rfl)); intro K hK; go_simp; refine hK _ ?_; clear hK K)
              refine wpP_done ?_
              clear S0
              go_wp2_with fail
              refine HAW.out.mono ?_
              rintro e w9 ⟨rfl, b9⟩
              have HB9 : Hid (Below w.heap.size w w9) := HBd.out.trans (b9.mono HBd.out.size)
              clear b9 HAW
              go_wp2_with fail
              go_ret
              exact ⟨rfl, HB9.out⟩
            · have hvb : ¬ (ve.size : Int) > 200 := by omega
              have hvd : decide ((ve.size : Int) > 200) = false := by simp; omega
              obtain ⟨e1, f1, s1, hr1⟩ : ∃ e f s, setF fl st ne.data.toList ve.data.toList = (e, f, s) := ⟨_, _, _, rfl⟩
              have hcalm := set_calm HI.out.1 HI.out.2.1 (by have := HI.out.2.2; omega) ne.data.toList ve.data.toList
              have HD1 := Lib.hid (HA.out.drewA.set HI.out.1.blk (by omega) (ke := ne) (ve := ve) (by omega) (by omega))
              have hD2 := fun wx (hx : AG wx N S X (32 + 2 * i + 1) y D (setF fl st ne.data.toList ve.data.toList).2.1 (setF fl st ne.data.toList ve.data.toList).2.2 S' X' y' D' fl st) => hx.rset HI.out.1.blk (ke := ne) (ve := ve) (by omega) (by omega)
              rw [hr1] at hcalm HD1
              simp only [hr1] at hD2
              simp only at hcalm
              have HD2 := Lib.hid hD2
              have HI1 : Hid (Inv f1 s1 ∧ f1.cut = false ∧ s1.gen ≤ 1 + 2 * i + 1) := ⟨hcalm.1, hcalm.2.1, by have := hcalm.2.2; have := HI.out.2.2; omega⟩
              have HBd : Hid (Below w.heap.size w wr.drew) := HB.out.drew
              clear hcalm hr1 hD2 HA HB HI
              by_cases h3 : i % 3 = 2
              · have hm : (i : Int) % 3 = 2 := by omega
                have hmb : ((i : Int) % 3 == 2) = true := by rw [beq_iff_eq]; omega
                have hhl : (h2 : Int) < len := by omega
                go_wp2_with fail
                have hmb2 : (i : Int).tmod 3 = 2 := by rw [Int.tmod_eq_emod_of_nonneg (by omega)]; omega
                have hq2 : (i : Int).tdiv 2 = (h2 : Int) := by rw [Int.tdiv_eq_ediv_of_nonneg (by omega)]; exact HH2.out
                have hw2 : IntKind.i64.wrap (h2 : Int) = h2 := IntWalk.i64_in _ ⟨by omega, by omega⟩
                have hvd2 : decide ((ve.size : Int) > 200) = false := by simp; omega
                refine wp_region_pl (fun Y => Y.cell? ⟨bb, o + i, none⟩ = some (.string ne) ∧ Y.cell? ⟨bb, o + h2, none⟩ = some (.string he)) ((0, 0) :: (1, 0) :: (2, 0) :: (3, 0) :: (4, 0) :: (5, 0) :: (6, 0) :: (7, 0) :: (8, 0) :: (9, 0) :: (11, 0) :: (12, 0) :: (13, 0) :: (14, 0) :: (15, 0) :: (16, 0) :: (10, 1) :: (17, 1) :: (18, 0) :: (19, 0) :: (20, 0) :: (21, 0) :: (22, 0) :: (23, 0) :: (24, 0) :: (25, 0) :: (26, 0) :: (27, 0) :: (28, 0) :: (29, 0) :: (30, 0) :: (32, 0) :: (33, 0) :: (34, 0) :: (35, 0) :: (36, 0) :: (37, 0) :: (31, 1) :: (38, 1) :: (39, 0) :: (40, 0) :: (41, 0) :: []) (by kernel_rfl) (by kernel_rfl) ?_
                iterate 16 (apply wpP_go; (focus rfl); (focus rfl); (focus exact S0.out); (focus (rintro Q ⟨s0, s1⟩; go_simp; exact rfl)); intro K hK; go_simp; refine hK _ ?_; clear hK K)
                apply wpP_one
                focus rfl
                intro K hK
                go_simp
                refine HD1.out.mono ?_
                rintro e V1 ⟨rfl, ha, b1⟩
                have hq1 : ∀ j, V1.cell? ⟨bb, j, none⟩ = wr.drew.cell? ⟨bb, j, none⟩ := fun j => b1.cell (p := ⟨bb, j, none⟩) (by show bb < N; omega)
                have S1 : Hid (V1.cell? ⟨bb, o + i, none⟩ = some (.string ne) ∧ V1.cell? ⟨bb, o + h2, none⟩ = some (.string he)) := ⟨(hq1 _).trans S0.out.1, (hq1 _).trans S0.out.2⟩
                have HD3 := Lib.hid (HD2.out _ ha)
                have HB1 : Hid (Below w.heap.size w V1) := HBd.out.trans (b1.mono hNw)
                refine hK _ _ S1.out ?_
                clear hK K ha b1 hq1 S0 HD1 HD2 HBd
                apply wpP_one
                focus rfl
                intro K hK
                go_simp
                refine HD3.out.mono ?_
                rintro e V2 ⟨rfl, ha, b2⟩
                have hq2 : ∀ j, V2.cell? ⟨bb, j, none⟩ = V1.cell? ⟨bb, j, none⟩ := fun j => b2.cell (p := ⟨bb, j, none⟩) (by show bb < N; omega)
                have S2 : Hid (V2.cell? ⟨bb, o + i, none⟩ = some (.string ne) ∧ V2.cell? ⟨bb, o + h2, none⟩ = some (.string he)) := ⟨(hq2 _).trans S1.out.1, (hq2 _).trans S1.out.2⟩
                have HA2 : Hid (AG V2 N S X (32 + 2 * i + 1) y D f1 s1 S' X' y' D' f1 s1) := ha
                have HB2 : Hid (Below w.heap.size w V2) := HB1.out.trans (b2.mono hNw)
                refine hK _ _ S2.out ?_
                clear hK K ha b2 hq2 S1 HD3 HB1
                iterate 13 (apply wpP_go; (focus rfl); (focus rfl); (focus exact S2.out); (focus (rintro Q ⟨s0, s1⟩; go_simp; exact rfl)); intro K hK; go_simp; refine hK _ ?_; clear hK K)
                iterate 6 (apply wpP_go; (focus rfl); (focus rfl); (focus exact S2.out); (focus (rintro Q ⟨s0, s1⟩; go_simp; exact rfl)); intro K hK; go_simp; refine hK _ ?_; clear hK K)
                obtain ⟨e2, f2, s2, hr2⟩ : ∃ e f s, delF f1 s1 he.data.toList = (e, f, s) := ⟨_, _, _, rfl⟩
                have hcalm := del_calm HI1.out.1 HI1.out.2.1 (by have := HI1.out.2.2; omega) he.data.toList
                have HE1 := Lib.hid (HA2.out.del HI1.out.1.blk (by omega) (ke := he) (by omega))
                have hE2 := fun wx (hx : AG wx N S X (32 + 2 * i + 1 + 1) y D (delF f1 s1 he.data.toList).2.1 (delF f1 s1 he.data.toList).2.2 S' X' y' D' f1 s1) => hx.rdel HI1.out.1.blk (ke := he) (by omega)
                rw [hr2] at hcalm HE1
                simp only [hr2] at hE2
                simp only at hcalm
                have HE2 := Lib.hid hE2
                have HI2 : Hid (Inv f2 s2 ∧ f2.cut = false ∧ s2.gen ≤ 1 + 2 * (i + 1)) := ⟨hcalm.1, hcalm.2.1, by have := hcalm.2.2; have := HI1.out.2.2; omega⟩
                clear hcalm hr2 hE2 HI1
                apply wpP_one
                focus rfl
                intro K hK
                go_simp
                refine HE1.out.mono ?_
                rintro e V3 ⟨rfl, ha, b3⟩
                have hq3 : ∀ j, V3.cell? ⟨bb, j, none⟩ = V2.cell? ⟨bb, j, none⟩ := fun j => b3.cell (p := ⟨bb, j, none⟩) (by show bb < N; omega)
                have S3 : Hid (V3.cell? ⟨bb, o + i, none⟩ = some (.string ne) ∧ V3.cell? ⟨bb, o + h2, none⟩ = some (.string he)) := ⟨(hq3 _).trans S2.out.1, (hq3 _).trans S2.out.2⟩
                have HE3 := Lib.hid (HE2.out _ ha)
                have HB3' : Hid (Below w.heap.size w V3) := HB2.out.trans (b3.mono hNw)
                refine hK _ _ S3.out ?_
                clear hK K ha b3 hq3 S2 HE1 HE2 HA2 HB2
                apply wpP_one
                focus rfl
                intro K hK
                go_simp
                refine HE3.out.mono ?_
                rintro e V4 ⟨rfl, ha, b4⟩
                have hq4 : ∀ j, V4.cell? ⟨bb, j, none⟩ = V3.cell? ⟨bb, j, none⟩ := fun j => b4.cell (p := ⟨bb, j, none⟩) (by show bb < N; omega)
                have S4 : Hid (V4.cell? ⟨bb, o + i, none⟩ = some (.string ne) ∧ V4.cell? ⟨bb, o + h2, none⟩ = some (.string he)) := ⟨(hq4 _).trans S3.out.1, (hq4 _).trans S3.out.2⟩
                have HA4 : Hid (AG V4 N S X (32 + 2 * i + 1 + 1) y D f2 s2 S' X' y' D' f2 s2) := ha
                have HB4 : Hid (Below w.heap.size w V4) := HB3'.out.trans (b4.mono hNw)
                refine hK _ _ S4.out ?_
                clear hK K ha b4 hq4 S3 HE3 HB3'
                iterate 3 (apply wpP_go; (focus rfl); (focus rfl); (focus exact S4.out); (focus (rintro Q ⟨s0, s1⟩; go_simp; exact rfl)); intro K hK; go_simp; refine hK _ ?_; clear hK K)
                refine wpP_done ?_
                clear hm hmb2 hq2 hhl hw2
                have k1 := S4.out.1
                have HGT := Lib.hid (HA4.out.get (k := ne) (by omega))
                have HRG := Lib.hid (HA4.out.rget ne)
                obtain ⟨gv, ge, hgs⟩ : ∃ gv ge, getS s2.V ne.data.toList = (gv, ge) := ⟨_, _, rfl⟩
                rw [hgs] at HGT HRG
                obtain ⟨gb, hgb⟩ : ∃ gb : ByteArray, str gv = .string gb := ⟨_, rfl⟩
                simp only [hgb] at HGT HRG
                clear hgs hgb S4
                go_wp2_with fail
                refine HGT.out.mono ?_
                rintro e w' ⟨rfl, rfl⟩
                go_wp2_with fail
                refine HRG.out.mono ?_
                rintro e w' ⟨rfl, rfl⟩
                have hgbb : (gb.toList == gb.toList) = true := by simp
                clear HGT HRG k1
                go_wp2_with fail
                go_roundw
                case rel => exact ⟨i + 1, f2, s2, by omega, by go_num, HA4.out.mono (by omega), HI2, HNS2, HB4⟩
                case measure => simp [intOf]; omega
              · have hm : ¬ (i : Int) % 3 = 2 := by omega
                have hmb : ((i : Int) % 3 == 2) = false := by rw [beq_eq_false_iff_ne]; omega
                have HI2 : Hid (Inv f1 s1 ∧ f1.cut = false ∧ s1.gen ≤ 1 + 2 * (i + 1)) := ⟨HI1.out.1, HI1.out.2.1, by have := HI1.out.2.2; omega⟩
                go_wp2_with fail
                have hmb2 : ((i : Int).tmod 3 == 2) = false := by rw [beq_eq_false_iff_ne, Int.tmod_eq_emod_of_nonneg (by omega)]; omega
                have hmb3 : ¬ (i : Int).tmod 3 = 2 := by rw [Int.tmod_eq_emod_of_nonneg (by omega)]; omega
                have hvd2 : decide ((ve.size : Int) > 200) = false := by simp; omega
                refine wp_region_pl (fun Y => Y.cell? ⟨bb, o + i, none⟩ = some (.string ne) ∧ Y.cell? ⟨bb, o + h2, none⟩ = some (.string he)) ((0, 0) :: (1, 0) :: (2, 0) :: (3, 0) :: (4, 0) :: (5, 0) :: (6, 0) :: (7, 0) :: (8, 0) :: (9, 0) :: (11, 0) :: (12, 0) :: (13, 0) :: (14, 0) :: (15, 0) :: (16, 0) :: (10, 1) :: (17, 1) :: (18, 0) :: (19, 0) :: (20, 0) :: (21, 0) :: (22, 0) :: (23, 0) :: (24, 0) :: (25, 0) :: (26, 0) :: (27, 0) :: (28, 0) :: (29, 0) :: (30, 0) :: (31, 0) :: (32, 0) :: (33, 0) :: (34, 0) :: (35, 0) :: (36, 0) :: (37, 0) :: (38, 0) :: (39, 0) :: (40, 0) :: (41, 0) :: []) (by kernel_rfl) (by kernel_rfl) ?_
                iterate 16 (apply wpP_go; (focus rfl); (focus rfl); (focus exact S0.out); (focus (rintro Q ⟨s0, s1⟩; go_simp; exact rfl)); intro K hK; go_simp; refine hK _ ?_; clear hK K)
                apply wpP_one
                focus rfl
                intro K hK
                go_simp
                refine HD1.out.mono ?_
                rintro e V1 ⟨rfl, ha, b1⟩
                have hq1 : ∀ j, V1.cell? ⟨bb, j, none⟩ = wr.drew.cell? ⟨bb, j, none⟩ := fun j => b1.cell (p := ⟨bb, j, none⟩) (by show bb < N; omega)
                have S1 : Hid (V1.cell? ⟨bb, o + i, none⟩ = some (.string ne) ∧ V1.cell? ⟨bb, o + h2, none⟩ = some (.string he)) := ⟨(hq1 _).trans S0.out.1, (hq1 _).trans S0.out.2⟩
                have HD3 := Lib.hid (HD2.out _ ha)
                have HB1 : Hid (Below w.heap.size w V1) := HBd.out.trans (b1.mono hNw)
                refine hK _ _ S1.out ?_
                clear hK K ha b1 hq1 S0 HD1 HD2 HBd
                apply wpP_one
                focus rfl
                intro K hK
                go_simp
                refine HD3.out.mono ?_
                rintro e V2 ⟨rfl, ha, b2⟩
                have hq2 : ∀ j, V2.cell? ⟨bb, j, none⟩ = V1.cell? ⟨bb, j, none⟩ := fun j => b2.cell (p := ⟨bb, j, none⟩) (by show bb < N; omega)
                have S2 : Hid (V2.cell? ⟨bb, o + i, none⟩ = some (.string ne) ∧ V2.cell? ⟨bb, o + h2, none⟩ = some (.string he)) := ⟨(hq2 _).trans S1.out.1, (hq2 _).trans S1.out.2⟩
                have HA2 : Hid (AG V2 N S X (32 + 2 * i + 1) y D f1 s1 S' X' y' D' f1 s1) := ha
                have HB2 : Hid (Below w.heap.size w V2) := HB1.out.trans (b2.mono hNw)
                refine hK _ _ S2.out ?_
                clear hK K ha b2 hq2 S1 HD3 HB1
                iterate 7 (apply wpP_go; (focus rfl); (focus rfl); (focus exact S2.out); (focus (rintro Q ⟨s0, s1⟩; go_simp; exact rfl)); intro K hK; go_simp; refine hK _ ?_; clear hK K)
                iterate 15 (apply wpP_not; (focus rfl); (focus rfl); (focus exact S2.out); intro K hK; go_simp; refine hK _ ?_; clear hK K)
                iterate 2 (apply wpP_go; (focus rfl); (focus rfl); (focus exact S2.out); (focus (rintro Q ⟨s0, s1⟩; go_simp; exact rfl)); intro K hK; go_simp; refine hK _ ?_; clear hK K)
                refine wpP_done ?_
                clear hm hmb2 hmb3
                have k1 := S2.out.1
                have HGT := Lib.hid (HA2.out.get (k := ne) (by omega))
                have HRG := Lib.hid (HA2.out.rget ne)
                obtain ⟨gv, ge, hgs⟩ : ∃ gv ge, getS s1.V ne.data.toList = (gv, ge) := ⟨_, _, rfl⟩
                rw [hgs] at HGT HRG
                obtain ⟨gb, hgb⟩ : ∃ gb : ByteArray, str gv = .string gb := ⟨_, rfl⟩
                simp only [hgb] at HGT HRG
                clear hgs hgb S2
                go_wp2_with fail
                refine HGT.out.mono ?_
                rintro e w' ⟨rfl, rfl⟩
                go_wp2_with fail
                refine HRG.out.mono ?_
                rintro e w' ⟨rfl, rfl⟩
                have hgbb : (gb.toList == gb.toList) = true := by simp
                clear HGT HRG k1
                go_wp2_with fail
                go_roundw
                case rel => exact ⟨i + 1, f1, s1, by omega, by go_num, HA2.out.mono (by omega), HI2, HNS2, HB2⟩
                case measure => simp [intOf]; omega
          · have y1 : ¬ (i : Int) < len2 := by omega
            obtain ⟨ve, hve⟩ : ∃ s : ByteArray, s = ⟨#[]⟩ := ⟨_, rfl⟩
            have hvz : ve.size = 0 := by rw [hve]; rfl
            rw [← hve]
            have hvl : ¬ 200 < ve.size := by omega
            have hvz2 : ve.size ≤ 200 := by omega
            clear hve hvz
            have hvb : ¬ (ve.size : Int) > 200 := by omega
            have hvd : decide ((ve.size : Int) > 200) = false := by simp; omega
            obtain ⟨e1, f1, s1, hr1⟩ : ∃ e f s, setF fl st ne.data.toList ve.data.toList = (e, f, s) := ⟨_, _, _, rfl⟩
            have hcalm := set_calm HI.out.1 HI.out.2.1 (by have := HI.out.2.2; omega) ne.data.toList ve.data.toList
            have HD1 := Lib.hid (HA.out.drewA.set HI.out.1.blk (by omega) (ke := ne) (ve := ve) (by omega) (by omega))
            have hD2 := fun wx (hx : AG wx N S X (32 + 2 * i + 1) y D (setF fl st ne.data.toList ve.data.toList).2.1 (setF fl st ne.data.toList ve.data.toList).2.2 S' X' y' D' fl st) => hx.rset HI.out.1.blk (ke := ne) (ve := ve) (by omega) (by omega)
            rw [hr1] at hcalm HD1
            simp only [hr1] at hD2
            simp only at hcalm
            have HD2 := Lib.hid hD2
            have HI1 : Hid (Inv f1 s1 ∧ f1.cut = false ∧ s1.gen ≤ 1 + 2 * i + 1) := ⟨hcalm.1, hcalm.2.1, by have := hcalm.2.2; have := HI.out.2.2; omega⟩
            have HBd : Hid (Below w.heap.size w wr.drew) := HB.out.drew
            clear hcalm hr1 hD2 HA HB HI
            by_cases h3 : i % 3 = 2
            · have hm : (i : Int) % 3 = 2 := by omega
              have hmb : ((i : Int) % 3 == 2) = true := by rw [beq_iff_eq]; omega
              have hhl : (h2 : Int) < len := by omega
              go_wp2_with fail
              have hmb2 : (i : Int).tmod 3 = 2 := by rw [Int.tmod_eq_emod_of_nonneg (by omega)]; omega
              have hq2 : (i : Int).tdiv 2 = (h2 : Int) := by rw [Int.tdiv_eq_ediv_of_nonneg (by omega)]; exact HH2.out
              have hw2 : IntKind.i64.wrap (h2 : Int) = h2 := IntWalk.i64_in _ ⟨by omega, by omega⟩
              have hvd2 : decide ((ve.size : Int) > 200) = false := by simp; omega
              refine wp_region_pl (fun Y => Y.cell? ⟨bb, o + i, none⟩ = some (.string ne) ∧ Y.cell? ⟨bb, o + h2, none⟩ = some (.string he)) ((0, 0) :: (1, 0) :: (2, 0) :: (3, 0) :: (4, 0) :: (5, 0) :: (6, 0) :: (7, 0) :: (8, 0) :: (9, 0) :: (11, 0) :: (12, 0) :: (13, 0) :: (14, 0) :: (15, 0) :: (16, 0) :: (10, 1) :: (17, 1) :: (18, 0) :: (19, 0) :: (20, 0) :: (21, 0) :: (22, 0) :: (23, 0) :: (24, 0) :: (25, 0) :: (26, 0) :: (27, 0) :: (28, 0) :: (29, 0) :: (30, 0) :: (32, 0) :: (33, 0) :: (34, 0) :: (35, 0) :: (36, 0) :: (37, 0) :: (31, 1) :: (38, 1) :: (39, 0) :: (40, 0) :: (41, 0) :: []) (by kernel_rfl) (by kernel_rfl) ?_
              iterate 16 (apply wpP_go; (focus rfl); (focus rfl); (focus exact S0.out); (focus (rintro Q ⟨s0, s1⟩; go_simp; exact rfl)); intro K hK; go_simp; refine hK _ ?_; clear hK K)
              apply wpP_one
              focus rfl
              intro K hK
              go_simp
              refine HD1.out.mono ?_
              rintro e V1 ⟨rfl, ha, b1⟩
              have hq1 : ∀ j, V1.cell? ⟨bb, j, none⟩ = wr.drew.cell? ⟨bb, j, none⟩ := fun j => b1.cell (p := ⟨bb, j, none⟩) (by show bb < N; omega)
              have S1 : Hid (V1.cell? ⟨bb, o + i, none⟩ = some (.string ne) ∧ V1.cell? ⟨bb, o + h2, none⟩ = some (.string he)) := ⟨(hq1 _).trans S0.out.1, (hq1 _).trans S0.out.2⟩
              have HD3 := Lib.hid (HD2.out _ ha)
              have HB1 : Hid (Below w.heap.size w V1) := HBd.out.trans (b1.mono hNw)
              refine hK _ _ S1.out ?_
              clear hK K ha b1 hq1 S0 HD1 HD2 HBd
              apply wpP_one
              focus rfl
              intro K hK
              go_simp
              refine HD3.out.mono ?_
              rintro e V2 ⟨rfl, ha, b2⟩
              have hq2 : ∀ j, V2.cell? ⟨bb, j, none⟩ = V1.cell? ⟨bb, j, none⟩ := fun j => b2.cell (p := ⟨bb, j, none⟩) (by show bb < N; omega)
              have S2 : Hid (V2.cell? ⟨bb, o + i, none⟩ = some (.string ne) ∧ V2.cell? ⟨bb, o + h2, none⟩ = some (.string he)) := ⟨(hq2 _).trans S1.out.1, (hq2 _).trans S1.out.2⟩
              have HA2 : Hid (AG V2 N S X (32 + 2 * i + 1) y D f1 s1 S' X' y' D' f1 s1) := ha
              have HB2 : Hid (Below w.heap.size w V2) := HB1.out.trans (b2.mono hNw)
              refine hK _ _ S2.out ?_
              clear hK K ha b2 hq2 S1 HD3 HB1
              iterate 13 (apply wpP_go; (focus rfl); (focus rfl); (focus exact S2.out); (focus (rintro Q ⟨s0, s1⟩; go_simp; exact rfl)); intro K hK; go_simp; refine hK _ ?_; clear hK K)
              iterate 6 (apply wpP_go; (focus rfl); (focus rfl); (focus exact S2.out); (focus (rintro Q ⟨s0, s1⟩; go_simp; exact rfl)); intro K hK; go_simp; refine hK _ ?_; clear hK K)
              obtain ⟨e2, f2, s2, hr2⟩ : ∃ e f s, delF f1 s1 he.data.toList = (e, f, s) := ⟨_, _, _, rfl⟩
              have hcalm := del_calm HI1.out.1 HI1.out.2.1 (by have := HI1.out.2.2; omega) he.data.toList
              have HE1 := Lib.hid (HA2.out.del HI1.out.1.blk (by omega) (ke := he) (by omega))
              have hE2 := fun wx (hx : AG wx N S X (32 + 2 * i + 1 + 1) y D (delF f1 s1 he.data.toList).2.1 (delF f1 s1 he.data.toList).2.2 S' X' y' D' f1 s1) => hx.rdel HI1.out.1.blk (ke := he) (by omega)
              rw [hr2] at hcalm HE1
              simp only [hr2] at hE2
              simp only at hcalm
              have HE2 := Lib.hid hE2
              have HI2 : Hid (Inv f2 s2 ∧ f2.cut = false ∧ s2.gen ≤ 1 + 2 * (i + 1)) := ⟨hcalm.1, hcalm.2.1, by have := hcalm.2.2; have := HI1.out.2.2; omega⟩
              clear hcalm hr2 hE2 HI1
              apply wpP_one
              focus rfl
              intro K hK
              go_simp
              refine HE1.out.mono ?_
              rintro e V3 ⟨rfl, ha, b3⟩
              have hq3 : ∀ j, V3.cell? ⟨bb, j, none⟩ = V2.cell? ⟨bb, j, none⟩ := fun j => b3.cell (p := ⟨bb, j, none⟩) (by show bb < N; omega)
              have S3 : Hid (V3.cell? ⟨bb, o + i, none⟩ = some (.string ne) ∧ V3.cell? ⟨bb, o + h2, none⟩ = some (.string he)) := ⟨(hq3 _).trans S2.out.1, (hq3 _).trans S2.out.2⟩
              have HE3 := Lib.hid (HE2.out _ ha)
              have HB3' : Hid (Below w.heap.size w V3) := HB2.out.trans (b3.mono hNw)
              refine hK _ _ S3.out ?_
              clear hK K ha b3 hq3 S2 HE1 HE2 HA2 HB2
              apply wpP_one
              focus rfl
              intro K hK
              go_simp
              refine HE3.out.mono ?_
              rintro e V4 ⟨rfl, ha, b4⟩
              have hq4 : ∀ j, V4.cell? ⟨bb, j, none⟩ = V3.cell? ⟨bb, j, none⟩ := fun j => b4.cell (p := ⟨bb, j, none⟩) (by show bb < N; omega)
              have S4 : Hid (V4.cell? ⟨bb, o + i, none⟩ = some (.string ne) ∧ V4.cell? ⟨bb, o + h2, none⟩ = some (.string he)) := ⟨(hq4 _).trans S3.out.1, (hq4 _).trans S3.out.2⟩
              have HA4 : Hid (AG V4 N S X (32 + 2 * i + 1 + 1) y D f2 s2 S' X' y' D' f2 s2) := ha
              have HB4 : Hid (Below w.heap.size w V4) := HB3'.out.trans (b4.mono hNw)
              refine hK _ _ S4.out ?_
              clear hK K ha b4 hq4 S3 HE3 HB3'
              iterate 3 (apply wpP_go; (focus rfl); (focus rfl); (focus exact S4.out); (focus (rintro Q ⟨s0, s1⟩; go_simp; exact rfl)); intro K hK; go_simp; refine hK _ ?_; clear hK K)
              refine wpP_done ?_
              clear hm hmb2 hq2 hhl hw2
              have k1 := S4.out.1
              have HGT := Lib.hid (HA4.out.get (k := ne) (by omega))
              have HRG := Lib.hid (HA4.out.rget ne)
              obtain ⟨gv, ge, hgs⟩ : ∃ gv ge, getS s2.V ne.data.toList = (gv, ge) := ⟨_, _, rfl⟩
              rw [hgs] at HGT HRG
              obtain ⟨gb, hgb⟩ : ∃ gb : ByteArray, str gv = .string gb := ⟨_, rfl⟩
              simp only [hgb] at HGT HRG
              clear hgs hgb S4
              go_wp2_with fail
              refine HGT.out.mono ?_
              rintro e w' ⟨rfl, rfl⟩
              go_wp2_with fail
              refine HRG.out.mono ?_
              rintro e w' ⟨rfl, rfl⟩
              have hgbb : (gb.toList == gb.toList) = true := by simp
              clear HGT HRG k1
              go_wp2_with fail
              go_roundw
              case rel => exact ⟨i + 1, f2, s2, by omega, by go_num, HA4.out.mono (by omega), HI2, HNS2, HB4⟩
              case measure => simp [intOf]; omega
            · have hm : ¬ (i : Int) % 3 = 2 := by omega
              have hmb : ((i : Int) % 3 == 2) = false := by rw [beq_eq_false_iff_ne]; omega
              have HI2 : Hid (Inv f1 s1 ∧ f1.cut = false ∧ s1.gen ≤ 1 + 2 * (i + 1)) := ⟨HI1.out.1, HI1.out.2.1, by have := HI1.out.2.2; omega⟩
              go_wp2_with fail
              have hmb2 : ((i : Int).tmod 3 == 2) = false := by rw [beq_eq_false_iff_ne, Int.tmod_eq_emod_of_nonneg (by omega)]; omega
              have hmb3 : ¬ (i : Int).tmod 3 = 2 := by rw [Int.tmod_eq_emod_of_nonneg (by omega)]; omega
              have hvd2 : decide ((ve.size : Int) > 200) = false := by simp; omega
              refine wp_region_pl (fun Y => Y.cell? ⟨bb, o + i, none⟩ = some (.string ne) ∧ Y.cell? ⟨bb, o + h2, none⟩ = some (.string he)) ((0, 0) :: (1, 0) :: (2, 0) :: (3, 0) :: (4, 0) :: (5, 0) :: (6, 0) :: (7, 0) :: (8, 0) :: (9, 0) :: (11, 0) :: (12, 0) :: (13, 0) :: (14, 0) :: (15, 0) :: (16, 0) :: (10, 1) :: (17, 1) :: (18, 0) :: (19, 0) :: (20, 0) :: (21, 0) :: (22, 0) :: (23, 0) :: (24, 0) :: (25, 0) :: (26, 0) :: (27, 0) :: (28, 0) :: (29, 0) :: (30, 0) :: (31, 0) :: (32, 0) :: (33, 0) :: (34, 0) :: (35, 0) :: (36, 0) :: (37, 0) :: (38, 0) :: (39, 0) :: (40, 0) :: (41, 0) :: []) (by kernel_rfl) (by kernel_rfl) ?_
              iterate 16 (apply wpP_go; (focus rfl); (focus rfl); (focus exact S0.out); (focus (rintro Q ⟨s0, s1⟩; go_simp; exact rfl)); intro K hK; go_simp; refine hK _ ?_; clear hK K)
              apply wpP_one
              focus rfl
              intro K hK
              go_simp
              refine HD1.out.mono ?_
              rintro e V1 ⟨rfl, ha, b1⟩
              have hq1 : ∀ j, V1.cell? ⟨bb, j, none⟩ = wr.drew.cell? ⟨bb, j, none⟩ := fun j => b1.cell (p := ⟨bb, j, none⟩) (by show bb < N; omega)
              have S1 : Hid (V1.cell? ⟨bb, o + i, none⟩ = some (.string ne) ∧ V1.cell? ⟨bb, o + h2, none⟩ = some (.string he)) := ⟨(hq1 _).trans S0.out.1, (hq1 _).trans S0.out.2⟩
              have HD3 := Lib.hid (HD2.out _ ha)
              have HB1 : Hid (Below w.heap.size w V1) := HBd.out.trans (b1.mono hNw)
              refine hK _ _ S1.out ?_
              clear hK K ha b1 hq1 S0 HD1 HD2 HBd
              apply wpP_one
              focus rfl
              intro K hK
              go_simp
              refine HD3.out.mono ?_
              rintro e V2 ⟨rfl, ha, b2⟩
              have hq2 : ∀ j, V2.cell? ⟨bb, j, none⟩ = V1.cell? ⟨bb, j, none⟩ := fun j => b2.cell (p := ⟨bb, j, none⟩) (by show bb < N; omega)
              have S2 : Hid (V2.cell? ⟨bb, o + i, none⟩ = some (.string ne) ∧ V2.cell? ⟨bb, o + h2, none⟩ = some (.string he)) := ⟨(hq2 _).trans S1.out.1, (hq2 _).trans S1.out.2⟩
              have HA2 : Hid (AG V2 N S X (32 + 2 * i + 1) y D f1 s1 S' X' y' D' f1 s1) := ha
              have HB2 : Hid (Below w.heap.size w V2) := HB1.out.trans (b2.mono hNw)
              refine hK _ _ S2.out ?_
              clear hK K ha b2 hq2 S1 HD3 HB1
              iterate 7 (apply wpP_go; (focus rfl); (focus rfl); (focus exact S2.out); (focus (rintro Q ⟨s0, s1⟩; go_simp; exact rfl)); intro K hK; go_simp; refine hK _ ?_; clear hK K)
              iterate 15 (apply wpP_not; (focus rfl); (focus rfl); (focus exact S2.out); intro K hK; go_simp; refine hK _ ?_; clear hK K)
              iterate 2 (apply wpP_go; (focus rfl); (focus rfl); (focus exact S2.out); (focus (rintro Q ⟨s0, s1⟩; go_simp; exact rfl)); intro K hK; go_simp; refine hK _ ?_; clear hK K)
              refine wpP_done ?_
              clear hm hmb2 hmb3
              have k1 := S2.out.1
              have HGT := Lib.hid (HA2.out.get (k := ne) (by omega))
              have HRG := Lib.hid (HA2.out.rget ne)
              obtain ⟨gv, ge, hgs⟩ : ∃ gv ge, getS s1.V ne.data.toList = (gv, ge) := ⟨_, _, rfl⟩
              rw [hgs] at HGT HRG
              obtain ⟨gb, hgb⟩ : ∃ gb : ByteArray, str gv = .string gb := ⟨_, rfl⟩
              simp only [hgb] at HGT HRG
              clear hgs hgb S2
              go_wp2_with fail
              refine HGT.out.mono ?_
              rintro e w' ⟨rfl, rfl⟩
              go_wp2_with fail
              refine HRG.out.mono ?_
              rintro e w' ⟨rfl, rfl⟩
              have hgbb : (gb.toList == gb.toList) = true := by simp
              clear HGT HRG k1
              go_wp2_with fail
              go_roundw
              case rel => exact ⟨i + 1, f1, s1, by omega, by go_num, HA2.out.mono (by omega), HI2, HNS2, HB2⟩
              case measure => simp [intOf]; omega
      · have y0 : ¬ (i : Int) < len := by omega
        obtain ⟨Lw, hLw⟩ : ∃ L, st.V.length = L := ⟨_, rfl⟩
        have HLW := Lib.hid hLw
        have HL1 := Lib.hid (HA.out.list (by omega))
        rw [hLw] at HL1
        clear hLw
        go_wp2_with fail
        refine HL1.out.mono ?_
        rintro e wl6 ⟨g1, rfl, hg1, hv1, b6⟩
        have HV1 := Lib.hid hv1
        have HAl6 := Lib.hid (HA.out.below b6)
        have HBl6 : Hid (Below w.heap.size w wl6) := HB.out.trans (b6.mono HB.out.size)
        have HL2' := Lib.hid HAl6.out.rlist
        rw [HLW.out] at HL2'
        clear hg1 hv1 b6 HL1 HA HB
        go_wp2_with fail
        refine HL2'.out.mono ?_
        rintro e wl7 ⟨a2, cap2, rfl, hv2, b7⟩
        have HEQ := Lib.hid (equalV_any (HV1.out.below b7) hv2 HLW.out HLW.out)
        have HAl7 := Lib.hid (HAl6.out.below b7)
        have HBl7 : Hid (Below w.heap.size w wl7) := HBl6.out.trans (b7.mono HBl6.out.size)
        rw [show decide (st.V = st.V) = true by simp] at HEQ
        clear hv2 b7 HL2' HAl6 HBl6 HV1
        go_wp2_with fail
        refine HEQ.out.mono ?_
        rintro e wl8 ⟨rfl, c8⟩
        have HA8 := Lib.hid (HAl7.out.below (c8.below (Nat.le_refl _) (fun _ h => h.elim)))
        have HB8 : Hid (Below w.heap.size w wl8) := HBl7.out.trans ((c8.below (B := wl7.heap.size) (Nat.le_refl _) (fun _ h => h.elim)).mono HBl7.out.size)
        clear c8 HEQ HAl7 HBl7 HLW
        have HAL := Lib.hid (alike_any HA8.out.a.f HA8.out.a.f' HI.out.1.off)
        go_wp2_with fail
        refine HAL.out.mono ?_
        rintro e wC ⟨rfl, bC⟩
        have HBC : Hid (Below w.heap.size w wC) := HB8.out.trans (bC.mono HB8.out.size)
        have HAW := Lib.hid (awake_any wC)
        clear bC HAL HA8 HB8
        go_wp2_with fail
        refine HAW.out.mono ?_
        rintro e wD ⟨rfl, bD⟩
        have HBD : Hid (Below w.heap.size w wD) := HBC.out.trans (bD.mono HBC.out.size)
        clear bD HAW
        go_wp2_with fail
        go_ret
        exact ⟨rfl, HBD.out⟩
end Go.Proofs.YtfglopkglnpokaaGreat
