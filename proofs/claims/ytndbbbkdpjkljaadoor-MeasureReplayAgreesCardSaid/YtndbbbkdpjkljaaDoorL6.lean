/- The walk of MeasureReplayAgrees. Condition: the round constants lie in block 0. -/
import Derived.Test.YtndbbbkdpjkljaaDoorY
namespace Go.Proofs.YtndbbbkdpjkljaaDoor
open Go.RowKit
attribute [local go_sem ↓] alloc26 load26n store26n alloc45 load45n store45n
attribute [local go_sem] stN_uc stN_b8 set_new fold_drew ldN_drew ldN_drewN stN_drew stN_drewN stN_ev set_ev stN_b8c set_newc

set_option maxRecDepth 100000 in
set_option maxHeartbeats 4000000 in
theorem ragrees_walk (a0 : Option Addr) (n0 c0 : Nat) (es : List Ev) (a : Option Addr) (len cap : Nat) (l : List Cl) (k r : Int) (w : World) (hE : EvS w a0 n0 c0 es) (h : CallS w a len cap l) (hr : Rnd w) (h0 : 0 < w.heap.size) :
    Calls Tryd.prog 6 #[.slice a0 n0 c0, .slice a len cap, .int .i64 k, .int .i64 r] w fun e w' => e = .returned (.bool true) ∧ Below w.heap.size w w' := by
  have HR := Lib.hid hr
  have HC := Lib.hid h
  have HE := Lib.hid hE
  have hlen : len ≤ 9223372036854775807 := by have h1 := h.2.1; have h2 := h.2.2.1; unfold maxLen at h2; omega
  have hn0 : n0 ≤ 9223372036854775807 := by have h1 := hE.2.1; have h2 := hE.2.2.1; unfold maxLen at h2; omega
  have hel : es.length = n0 := hE.1
  have hlc : len ≤ cap := h.2.1
  have HLen := Lib.hid h.1
  clear hr h hE
  have HLg := Lib.hid (large_any a len cap l w HC.out)
  by_cases h20 : 20 < n0
  · have d0 : (n0 : Int) > 20 := by omega
    have d0' : (20 : Int) < n0 := by omega
    go_enter Tryd.func6, Tryd.ntmps6
    go_wp2_with fail
    refine (awake_any _ HR.out h0).mono ?_
    rintro e w1 ⟨rfl, hb⟩
    go_wp2_with fail
    go_ret
    exact ⟨rfl, hb⟩
  · have d0 : ¬ (n0 : Int) > 20 := by omega
    have d0' : ¬ (20 : Int) < n0 := by omega
    by_cases hlg : lg l = true
    · rw [hlg] at HLg
      go_enter Tryd.func6, Tryd.ntmps6
      go_wp2_with fail
      refine HLg.out.mono ?_
      rintro e w1 ⟨rfl, rfl⟩
      go_wp2_with fail
      refine (awake_any _ HR.out h0).mono ?_
      rintro e w1 ⟨rfl, hb⟩
      go_wp2_with fail
      go_ret
      exact ⟨rfl, hb⟩
    · have hlg' : lg l = false := by simpa using hlg
      rw [hlg'] at HLg
      obtain ⟨h12, hsm⟩ := lg_no hlg'
      have HSM := Lib.hid hsm
      have h12' : len ≤ 12 := by have := HLen.out; omega
      clear hlg hlg' hsm
      go_enter Tryd.func6, Tryd.ntmps6
      go_wp2_with fail
      refine HLg.out.mono ?_
      rintro e w1 ⟨rfl, rfl⟩
      go_wp2_with fail
      refine (rnew_any _).mono ?_
      rintro e w1 ⟨rfl, hL1, hb1⟩
      have q0 : Hid (RLOG w1 w.heap.size w.heap.size (mea (l.take 0))) := hL1
      have B1 := Lib.hid hb1
      clear hL1 hb1 HLg
      go_wp2_with fail
      go_loopw [10] (fun x wr => ∃ i : Nat, i ≤ len ∧ x = .int .i64 i ∧ Hid (RLOG wr w.heap.size w.heap.size (mea (l.take i))) ∧ Hid (Below w.heap.size w wr)) (fun x _ => len - (intOf x).toNat)
      case atStart => exact ⟨0, by omega, rfl, q0, B1⟩
      case round =>
        clear q0 B1
        obtain ⟨i, hi, rfl, hq, hb⟩ := hrel
        have hsz := hb.out.size
        by_cases hlt : i < len
        · obtain ⟨b, o, c, rfl, hbl, hc, hm, ht, hs, hr⟩ := (HC.out.below hb.out (Nat.le_refl _)).at hlt
          have z0 : (i : Int) < len := by omega
          have hcs : c.s.size ≤ 1073741824 := by have := (HSM.out c hm).2; omega
          have hbw : b < w.heap.size := by
            obtain ⟨_, _, _, _, h5⟩ := HC.out
            obtain ⟨b', o', e, hl', _⟩ := h5 (by intro h; subst h; simp at hc)
            injection e with e
            have : b = b' := congrArg Addr.block e
            omega
          have HMS := Lib.hid (mea_succ l i c hc)
          have hml : (mea (l.take i)).length < 256 := by have := mea_len (l.take i); have := List.length_take_le i l; omega
          have S0 := Lib.hid (clc_cells ((World.rangeAt_drew _ _ _ _).2 hr))
          have hr8 := mo_lt c.r 8 (by omega)
          have HCa : Hid (Calls Tryd.prog 25 #[.pointer (some ⟨w.heap.size, 0, none⟩), .int .i64 ((mo c.r 8 : Nat) : Int), .string c.t, .string c.s] wr.drew fun e w' => e = .returned (.int .i64 (mcode c.t)) ∧ RLOG w' w.heap.size w.heap.size (mea (l.take (i + 1))) ∧ Below w.heap.size wr.drew w') := by
            have := rmeasure_each w.heap.size w.heap.size (mo c.r 8) (mea (l.take i)) c.t c.s wr.drew hr8 hml hcs h0 (hq.out.below ((Below.refl _ _).drew (B := wr.heap.size)) (Nat.le_refl _))
            rw [HMS.out] at this
            exact this
          have hr0 := Lib.hid hr
          clear hr
          go_wp2_with fail
          refine wp_region_pl (fun X => X.cell? ⟨b, o + i * 4, none⟩ = some (.int .i64 c.r) ∧ X.cell? ⟨b, o + i * 4 + 1, none⟩ = some (.string c.t) ∧ X.cell? ⟨b, o + i * 4 + 2, none⟩ = some (.string c.s) ∧ X.cell? ⟨b, o + i * 4 + 3, none⟩ = some (.bool c.raw))
            ((0, 0) :: (1, 0) :: (2, 0) :: (3, 0) :: (4, 0) :: (5, 0) :: (6, 0) :: (7, 0) :: (8, 0) :: (9, 0) :: (10, 0) :: (11, 0) :: (12, 0) :: (13, 0) :: (14, 0) :: (15, 0) :: (16, 0) :: (17, 1) :: []) (by kernel_rfl) (by kernel_rfl) ?_
          iterate 6 (apply wpP_go; (focus rfl); (focus rfl); (focus exact S0.out); (focus (rintro X ⟨s0, s1, s2, s3⟩; go_simp; exact rfl)); intro K hK; go_simp; refine hK _ ?_; clear hK K)
          apply wpP_call
          focus rfl
          focus rfl
          focus exact S0.out
          focus
            rintro X ⟨s0, s1, s2, s3⟩
            go_simp
            exact ⟨rfl, rfl⟩
          focus
            intro X _
            exact mod_any c.r 8 X (by omega) (by omega)
          intro K hK
          go_simp
          refine hK _ ?_
          clear hK K
          iterate 10 (apply wpP_go; (focus rfl); (focus rfl); (focus exact S0.out); (focus (rintro X ⟨s0, s1, s2, s3⟩; go_simp; exact rfl)); intro K hK; go_simp; refine hK _ ?_; clear hK K)
          apply wpP_one
          focus rfl
          intro K hK
          go_simp
          refine HCa.out.mono ?_
          rintro e w2 ⟨rfl, hL2, hb2⟩
          have q2 := Lib.hid hL2
          have B2 : Hid (Below w.heap.size w w2) := hb.out.drew.trans hb2
          have S2 := Lib.hid (clc_cells (rangeAt_below ((World.rangeAt_drew _ _ _ _).2 hr0.out) hb2 hbw))
          clear hL2 hb2 HCa
          refine hK _ _ S2.out ?_
          clear hK K
          refine wpP_done ?_
          go_wp2_with fail
          exact ⟨⟨i + 1, by omega, by go_num, q2, B2⟩, by simp [intOf]; omega⟩
        · have z0 : ¬ (i : Int) < len := by omega
          have hfin : Hid (RLOG wr w.heap.size w.heap.size (mea l)) := by
            have h1 := hq.out
            rw [List.take_of_length_le (by have := HC.out.1; omega)] at h1
            exact h1
          have hle : (mea l).length ≤ 12 := by have := mea_len l; omega
          have HBY := Lib.hid (mea_byt l)
          generalize mea l = ea at hfin hle HBY
          clear hq
          go_wp2_with fail
          refine (revents_any w.heap.size w.heap.size ea wr hfin.out (by omega)).mono ?_
          rintro e V ⟨vx, rfl, hO, hbx⟩
          have BV := Lib.hid (bss hb.out hbx)
          have RE := Lib.hid (HE.out.rd.below BV.out (Nat.le_refl _))
          have HEB : Hid (∀ e ∈ es, Byt e.d) := fun e he => (HE.out.2.2.2.1 e he).1
          have hOE := Lib.hid hO
          obtain ⟨hOl, ⟨rfl, hz⟩ | ⟨g, cap', cur, rfl, hg, hh, h1, h2, h3, h4⟩⟩ := hO
          · have RX := Lib.hid hOE.out.rd
            obtain ⟨xs, hxs⟩ : ∃ xs, xs = ea := ⟨_, rfl⟩
            rw [← hxs] at RX HBY hle
            have HXB := HBY
            clear hOE hOl hbx hfin hb
            clear hxs
            go_wp2_with fail
            refine (replay_any _ es V RE.out (by omega) HEB.out (HR.out.below BV.out h0) (by have := BV.out.size; omega)).mono ?_
            rintro e w1 hrep
            obtain ⟨v1, rfl, hD1, hb1⟩ := hrep.form
            have D1 := Lib.hid hD1
            have RE1 := Lib.hid (RE.out.below hb1 (Nat.le_refl _))
            have RX1 := Lib.hid (RX.out.below hb1 (Nat.le_refl _))
            have B1 := Lib.hid (bss BV.out hb1)
            clear hrep hD1 hb1 RE RX BV
            go_wp2_with fail
            refine (rreplay_any _ es w1 RE1.out (by omega) HEB.out).mono ?_
            rintro e w2 hrep
            obtain ⟨v2, rfl, hD2, hb2⟩ := hrep.form
            have D2 := Lib.hid hD2
            have D12 := Lib.hid (D1.out.below hb2 (Nat.le_refl _))
            have RX2 := Lib.hid (RX1.out.below hb2 (Nat.le_refl _))
            have B2 := Lib.hid (bss B1.out hb2)
            clear hrep hD2 hb2 RE1 RX1 B1 D1
            go_wp2_with fail
            refine (replay_any _ xs w2 RX2.out (by omega) HXB.out (HR.out.below B2.out h0) (by have := B2.out.size; omega)).mono ?_
            rintro e w3 hrep
            obtain ⟨v3, rfl, hD3, hb3⟩ := hrep.form
            have D3 := Lib.hid hD3
            have D13 := Lib.hid (D12.out.below hb3 (Nat.le_refl _))
            have D23 := Lib.hid (D2.out.below hb3 (Nat.le_refl _))
            have RX3 := Lib.hid (RX2.out.below hb3 (Nat.le_refl _))
            have B3 := Lib.hid (bss B2.out hb3)
            clear hrep hD3 hb3 RX2 B2 D12 D2
            go_wp2_with fail
            refine (rreplay_any _ xs w3 RX3.out (by omega) HXB.out).mono ?_
            rintro e w4 hrep
            obtain ⟨v4, rfl, hD4, hb4⟩ := hrep.form
            have D4 := Lib.hid hD4
            have D14 := Lib.hid (D13.out.below hb4 (Nat.le_refl _))
            have D24 := Lib.hid (D23.out.below hb4 (Nat.le_refl _))
            have D34 := Lib.hid (D3.out.below hb4 (Nat.le_refl _))
            have B4 := Lib.hid (bss B3.out hb4)
            clear hrep hD4 hb4 RX3 B3 D13 D23 D3
            have HCE : Hid (∀ V, RdD V v1 (rres es) → RdD V v2 (rres es) → Calls Tryd.prog 31 #[v1, v2] V fun e w' => e = .returned (.bool true) ∧ Below V.heap.size V w') := fun V h1 h2 => equalD_same v1 v2 _ V h1 h2 (by have := rres_len es; omega) (rres_byt es)
            have HCX : Hid (∀ V, RdD V v3 (rres xs) → RdD V v4 (rres xs) → Calls Tryd.prog 31 #[v3, v4] V fun e w' => e = .returned (.bool true) ∧ Below V.heap.size V w') := fun V h1 h2 => equalD_same v3 v4 _ V h1 h2 (by have := rres_len xs; omega) (rres_byt xs)
            generalize rcode es = ce
            generalize rcode xs = cx
            go_wp2_with fail
            refine (HCE.out w4 D14.out D24.out).mono ?_
            rintro e w5 ⟨rfl, hb5⟩
            have D35 := Lib.hid (D34.out.below hb5 (Nat.le_refl _))
            have D45 := Lib.hid (D4.out.below hb5 (Nat.le_refl _))
            have B5 := Lib.hid (bss B4.out hb5)
            clear hb5 D34 D4 D14 D24 B4
            go_wp2_with fail
            refine (HCX.out w5 D35.out D45.out).mono ?_
            rintro e w6 ⟨rfl, hb6⟩
            have B6 := Lib.hid (bss B5.out hb6)
            clear hb6 D35 D45 B5
            go_wp2_with fail
            refine (awake_any _ (HR.out.below B6.out h0) (by have := B6.out.size; omega)).mono ?_
            rintro e w7 ⟨rfl, hb7⟩
            have B7 := bss B6.out hb7
            go_wp2_with fail
            go_ret
            exact ⟨rfl, B7⟩

          · by_cases hx0 : ea.length = 0
            · have RX := Lib.hid hOE.out.rd
              have hx0' : ¬ (0 < (ea.length : Int)) := by omega
              have hx0'' : ¬ ((ea.length : Int) > 0) := by omega
              obtain ⟨xs, hxs⟩ : ∃ xs, xs = ea := ⟨_, rfl⟩
              have HXB : Hid (∀ e ∈ xs, Byt e.d) := by rw [hxs]; exact HBY.out
              have RX : Hid (RdE V (.slice (some ⟨g, 0, none⟩) 0 cap') xs) := by
                have h := RX.out
                rw [hx0] at h
                rw [hxs]; exact h
              have hxl : xs.length ≤ 12 := by rw [hxs]; exact hle
              clear hOE hOl hbx hfin hb hxs hh h4
              go_wp2_with fail
              refine (replay_any _ es V RE.out (by omega) HEB.out (HR.out.below BV.out h0) (by have := BV.out.size; omega)).mono ?_
              rintro e w1 hrep
              obtain ⟨v1, rfl, hD1, hb1⟩ := hrep.form
              have D1 := Lib.hid hD1
              have RE1 := Lib.hid (RE.out.below hb1 (Nat.le_refl _))
              have RX1 := Lib.hid (RX.out.below hb1 (Nat.le_refl _))
              have B1 := Lib.hid (bss BV.out hb1)
              clear hrep hD1 hb1 RE RX BV
              go_wp2_with fail
              refine (rreplay_any _ es w1 RE1.out (by omega) HEB.out).mono ?_
              rintro e w2 hrep
              obtain ⟨v2, rfl, hD2, hb2⟩ := hrep.form
              have D2 := Lib.hid hD2
              have D12 := Lib.hid (D1.out.below hb2 (Nat.le_refl _))
              have RX2 := Lib.hid (RX1.out.below hb2 (Nat.le_refl _))
              have B2 := Lib.hid (bss B1.out hb2)
              clear hrep hD2 hb2 RE1 RX1 B1 D1
              go_wp2_with fail
              refine (replay_any _ xs w2 RX2.out (by omega) HXB.out (HR.out.below B2.out h0) (by have := B2.out.size; omega)).mono ?_
              rintro e w3 hrep
              obtain ⟨v3, rfl, hD3, hb3⟩ := hrep.form
              have D3 := Lib.hid hD3
              have D13 := Lib.hid (D12.out.below hb3 (Nat.le_refl _))
              have D23 := Lib.hid (D2.out.below hb3 (Nat.le_refl _))
              have RX3 := Lib.hid (RX2.out.below hb3 (Nat.le_refl _))
              have B3 := Lib.hid (bss B2.out hb3)
              clear hrep hD3 hb3 RX2 B2 D12 D2
              go_wp2_with fail
              refine (rreplay_any _ xs w3 RX3.out (by omega) HXB.out).mono ?_
              rintro e w4 hrep
              obtain ⟨v4, rfl, hD4, hb4⟩ := hrep.form
              have D4 := Lib.hid hD4
              have D14 := Lib.hid (D13.out.below hb4 (Nat.le_refl _))
              have D24 := Lib.hid (D23.out.below hb4 (Nat.le_refl _))
              have D34 := Lib.hid (D3.out.below hb4 (Nat.le_refl _))
              have B4 := Lib.hid (bss B3.out hb4)
              clear hrep hD4 hb4 RX3 B3 D13 D23 D3
              have HCE : Hid (∀ V, RdD V v1 (rres es) → RdD V v2 (rres es) → Calls Tryd.prog 31 #[v1, v2] V fun e w' => e = .returned (.bool true) ∧ Below V.heap.size V w') := fun V h1 h2 => equalD_same v1 v2 _ V h1 h2 (by have := rres_len es; omega) (rres_byt es)
              have HCX : Hid (∀ V, RdD V v3 (rres xs) → RdD V v4 (rres xs) → Calls Tryd.prog 31 #[v3, v4] V fun e w' => e = .returned (.bool true) ∧ Below V.heap.size V w') := fun V h1 h2 => equalD_same v3 v4 _ V h1 h2 (by have := rres_len xs; omega) (rres_byt xs)
              generalize rcode es = ce
              generalize rcode xs = cx
              go_wp2_with fail
              refine (HCE.out w4 D14.out D24.out).mono ?_
              rintro e w5 ⟨rfl, hb5⟩
              have D35 := Lib.hid (D34.out.below hb5 (Nat.le_refl _))
              have D45 := Lib.hid (D4.out.below hb5 (Nat.le_refl _))
              have B5 := Lib.hid (bss B4.out hb5)
              clear hb5 D34 D4 D14 D24 B4
              go_wp2_with fail
              refine (HCX.out w5 D35.out D45.out).mono ?_
              rintro e w6 ⟨rfl, hb6⟩
              have B6 := Lib.hid (bss B5.out hb6)
              clear hb6 D35 D45 B5
              go_wp2_with fail
              refine (awake_any _ (HR.out.below B6.out h0) (by have := B6.out.size; omega)).mono ?_
              rintro e w7 ⟨rfl, hb7⟩
              have B7 := bss B6.out hb7
              go_wp2_with fail
              go_ret
              exact ⟨rfl, B7⟩

            · have hx0' : (0 < (ea.length : Int)) := by omega
              have hx0'' : ((ea.length : Int) > 0) := by omega
              have HSet := Lib.hid fun i hi r => OE.set hOE.out i hi r
              have HM : Hid (∀ V, Calls Tryd.prog 14 #[.int .i64 k, .int .i64 (ea.length : Int)] V fun e w' => e = .returned (.int .i64 ((mo k ea.length : Nat) : Int)) ∧ V = w') := fun V => mod_any k ea.length V (by omega) (by omega)
              have hkl := mo_lt k ea.length (by omega)
              have HFr : Hid (∀ i, V.frozen? ⟨g, i, none⟩ = false) := fun i => cells_mark hh (by omega)
              have HCl : Hid (∀ i, i < ea.length → ∃ x : Int, V.cell? ⟨g, i * 34, none⟩ = some (.int .i64 x)) := fun i hi => by
                obtain ⟨a', c', e1, hr⟩ := hOE.out.rd
                obtain ⟨b, o, e2, _, hrg⟩ := hr (by intro h; subst h; simp at hi)
                injection e1 with e1
                subst e1
                injection e2 with e2
                have hb : g = b := congrArg Addr.block e2
                have ho : 0 = o := congrArg Addr.off e2
                subst hb ho
                have := hrg i ea[i] (List.getElem?_eq_getElem hi) 0 _ rfl
                rw [show 0 + i * 34 + 0 = i * 34 by omega] at this
                exact ⟨_, this⟩
              have hml := mo_lt r 10 (by omega)
              go_wp2_with fail
              refine (HM.out _).mono ?_
              rintro e w1 ⟨rfl, rfl⟩
              go_wp2_with fail
              refine (mod_any r 10 _ (by omega) (by omega)).mono ?_
              rintro e w1 ⟨rfl, rfl⟩
              generalize mo k ea.length = kk at hkl ⊢
              generalize mo r 10 = rr at hml ⊢
              have hk1 : (kk : Int) < ea.length := by omega
              clear HM
              have hfr := HFr.out (kk * 34)
              obtain ⟨x0, hcl⟩ := HCl.out kk hkl
              have RXX : Hid (RdE (V.setCell ⟨g, kk * 34, none⟩ (.int .i64 ((rr : Int) - 1))) (.slice (some ⟨g, 0, none⟩) ea.length cap') (setR ea kk ((rr : Int) - 1))) := HSet.out kk hkl _
              have BVX : Hid (Below w.heap.size w (V.setCell ⟨g, kk * 34, none⟩ (.int .i64 ((rr : Int) - 1)))) := BV.out.setCell (p := ⟨g, kk * 34, none⟩) (show w.heap.size ≤ g by omega) _
              have REX := Lib.hid (HE.out.rd.below BVX.out (Nat.le_refl _))
              have hxl : (setR ea kk ((rr : Int) - 1)).length ≤ 12 := by rw [setR_len]; exact hle
              have HXB := Lib.hid (setR_byt kk ((rr : Int) - 1) HBY.out)
              clear HFr HCl HSet hOE hh h4 hbx hb hfin RE BV hOl
              go_wp2_with fail
              clear hfr hcl
              generalize setR ea kk ((rr : Int) - 1) = xs at RXX hxl HXB
              generalize V.setCell ⟨g, kk * 34, none⟩ (.int .i64 ((rr : Int) - 1)) = V at RXX BVX REX ⊢
              have RX := RXX
              have RE := REX
              have BV := BVX
              clear RXX BVX REX
              refine (replay_any _ es V RE.out (by omega) HEB.out (HR.out.below BV.out h0) (by have := BV.out.size; omega)).mono ?_
              rintro e w1 hrep
              obtain ⟨v1, rfl, hD1, hb1⟩ := hrep.form
              have D1 := Lib.hid hD1
              have RE1 := Lib.hid (RE.out.below hb1 (Nat.le_refl _))
              have RX1 := Lib.hid (RX.out.below hb1 (Nat.le_refl _))
              have B1 := Lib.hid (bss BV.out hb1)
              clear hrep hD1 hb1 RE RX BV
              go_wp2_with fail
              refine (rreplay_any _ es w1 RE1.out (by omega) HEB.out).mono ?_
              rintro e w2 hrep
              obtain ⟨v2, rfl, hD2, hb2⟩ := hrep.form
              have D2 := Lib.hid hD2
              have D12 := Lib.hid (D1.out.below hb2 (Nat.le_refl _))
              have RX2 := Lib.hid (RX1.out.below hb2 (Nat.le_refl _))
              have B2 := Lib.hid (bss B1.out hb2)
              clear hrep hD2 hb2 RE1 RX1 B1 D1
              go_wp2_with fail
              refine (replay_any _ xs w2 RX2.out (by omega) HXB.out (HR.out.below B2.out h0) (by have := B2.out.size; omega)).mono ?_
              rintro e w3 hrep
              obtain ⟨v3, rfl, hD3, hb3⟩ := hrep.form
              have D3 := Lib.hid hD3
              have D13 := Lib.hid (D12.out.below hb3 (Nat.le_refl _))
              have D23 := Lib.hid (D2.out.below hb3 (Nat.le_refl _))
              have RX3 := Lib.hid (RX2.out.below hb3 (Nat.le_refl _))
              have B3 := Lib.hid (bss B2.out hb3)
              clear hrep hD3 hb3 RX2 B2 D12 D2
              go_wp2_with fail
              refine (rreplay_any _ xs w3 RX3.out (by omega) HXB.out).mono ?_
              rintro e w4 hrep
              obtain ⟨v4, rfl, hD4, hb4⟩ := hrep.form
              have D4 := Lib.hid hD4
              have D14 := Lib.hid (D13.out.below hb4 (Nat.le_refl _))
              have D24 := Lib.hid (D23.out.below hb4 (Nat.le_refl _))
              have D34 := Lib.hid (D3.out.below hb4 (Nat.le_refl _))
              have B4 := Lib.hid (bss B3.out hb4)
              clear hrep hD4 hb4 RX3 B3 D13 D23 D3
              have HCE : Hid (∀ V, RdD V v1 (rres es) → RdD V v2 (rres es) → Calls Tryd.prog 31 #[v1, v2] V fun e w' => e = .returned (.bool true) ∧ Below V.heap.size V w') := fun V h1 h2 => equalD_same v1 v2 _ V h1 h2 (by have := rres_len es; omega) (rres_byt es)
              have HCX : Hid (∀ V, RdD V v3 (rres xs) → RdD V v4 (rres xs) → Calls Tryd.prog 31 #[v3, v4] V fun e w' => e = .returned (.bool true) ∧ Below V.heap.size V w') := fun V h1 h2 => equalD_same v3 v4 _ V h1 h2 (by have := rres_len xs; omega) (rres_byt xs)
              generalize rcode es = ce
              generalize rcode xs = cx
              go_wp2_with fail
              refine (HCE.out w4 D14.out D24.out).mono ?_
              rintro e w5 ⟨rfl, hb5⟩
              have D35 := Lib.hid (D34.out.below hb5 (Nat.le_refl _))
              have D45 := Lib.hid (D4.out.below hb5 (Nat.le_refl _))
              have B5 := Lib.hid (bss B4.out hb5)
              clear hb5 D34 D4 D14 D24 B4
              go_wp2_with fail
              refine (HCX.out w5 D35.out D45.out).mono ?_
              rintro e w6 ⟨rfl, hb6⟩
              have B6 := Lib.hid (bss B5.out hb6)
              clear hb6 D35 D45 B5
              go_wp2_with fail
              refine (awake_any _ (HR.out.below B6.out h0) (by have := B6.out.size; omega)).mono ?_
              rintro e w7 ⟨rfl, hb7⟩
              have B7 := bss B6.out hb7
              go_wp2_with fail
              go_ret
              exact ⟨rfl, B7⟩

end Go.Proofs.YtndbbbkdpjkljaaDoor
