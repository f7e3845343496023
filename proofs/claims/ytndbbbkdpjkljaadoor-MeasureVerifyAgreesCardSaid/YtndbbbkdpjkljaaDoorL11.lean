/- The walk of MeasureVerifyAgrees. Condition: the round constants lie in block 0. -/
import Derived.Test.YtndbbbkdpjkljaaDoorAE
import Derived.Test.YtndbbbkdpjkljaaDoorAI
import Derived.Test.YtndbbbkdpjkljaaDoorL10
namespace Go.Proofs.YtndbbbkdpjkljaaDoor
open Go.RowKit
attribute [local go_sem ↓] alloc26 load26n store26n
attribute [local go_sem] stN_uc stN_b8 set_new fold_drew ldN_drew ldN_drewN stN_drew stN_drewN
/-- Two digests; since V0 only new blocks changed. -/
def TWO (V0 X : World) (R0 RQ : Nat) (QD M : Nat → Int) : Prop := Row X R0 26 32 (b8 QD) ∧ Row X RQ 26 32 (b8 M) ∧ Below V0.heap.size V0 X
theorem TWO.below {V0 X X' : World} {R0 RQ : Nat} {QD M : Nat → Int} (h : TWO V0 X R0 RQ QD M) (hb : Below X.heap.size X X') : TWO V0 X' R0 RQ QD M := ⟨h.1.below hb h.1.lt, h.2.1.below hb h.2.1.lt, bss h.2.2 hb⟩
theorem TWO.drew {V0 X : World} {R0 RQ : Nat} {QD M : Nat → Int} (h : TWO V0 X R0 RQ QD M) : TWO V0 X.drew R0 RQ QD M := ⟨h.1, h.2.1, h.2.2.drew⟩
theorem TWO.ld {V0 X : World} {R0 RQ : Nat} {QD M : Nat → Int} (h : TWO V0 X R0 RQ QD M) : ldN 32 X (.pointer (some ⟨R0, 0, none⟩)) = some (arr 32 (b8 QD)) ∧ ldN 32 X (.pointer (some ⟨RQ, 0, none⟩)) = some (arr 32 (b8 M)) :=
  ⟨ldN_of (Row.range0 h.1) (by simp [arr]), ldN_of (Row.range0 h.2.1) (by simp [arr])⟩
set_option maxRecDepth 100000 in
set_option maxHeartbeats 8000000 in
theorem verify_walk (key nonce : ByteArray) (a : Option Addr) (len cap : Nat) (l : List Cl) (a3 : Option Addr) (n3 c3 : Nat) (es : List Ev) (QD : Nat → Int) (k : Int) (dr : Bool) (w : World) (h : CallS w a len cap l) (hE : EvS w a3 n3 c3 es) (hQ : Byt QD) (hr : Rnd w) (h0 : 0 < w.heap.size) :
    Calls Tryd.prog 11 #[.string key, .string nonce, .slice a len cap, .slice a3 n3 c3, .agg (arr 32 (b8 QD)), .int .i64 k, .bool dr] w fun e w' => e = .returned (.bool true) ∧ Below w.heap.size w w' := by
  have b1 : Hid (Below w.heap.size w (w.alloc (.cells (arr 32 (b8 QD)) 26))) := (Below.refl _ _).alloc (Nat.le_refl _) _
  have a1 : Hid (Row (w.alloc (.cells (arr 32 (b8 QD)) 26)) w.heap.size 26 32 (b8 QD)) := Row.ofList w 26 _ _ 32 rfl
  have HRV := Lib.hid (hr.below b1.out h0)
  have HC := Lib.hid (h.below b1.out (Nat.le_refl _))
  have HE := Lib.hid (hE.rd.below b1.out (Nat.le_refl _))
  have HEB : Hid (∀ e ∈ es, Byt e.d) := fun e he => (hE.2.2.2.1 e he).1
  have bQ := Lib.hid hQ
  have hlen : len ≤ 9223372036854775807 := by have h1 := h.2.1; have h2 := h.2.2.1; unfold maxLen at h2; omega
  have hn3 : n3 ≤ 9223372036854775807 := by have h1 := hE.2.1; have h2 := hE.2.2.1; unfold maxLen at h2; omega
  have hel : es.length = n3 := hE.1
  have hlc : len ≤ cap := h.2.1
  have HLen := Lib.hid h.1
  have hV0 : 0 < (w.alloc (.cells (arr 32 (b8 QD)) 26)).heap.size := by simp
  have hR0 : w.heap.size < (w.alloc (.cells (arr 32 (b8 QD)) 26)).heap.size := by simp
  clear hr h hE hQ
  have HLg := Lib.hid (large_any a len cap l _ HC.out)
  by_cases hlg : lg l = true
  · rw [hlg] at HLg
    go_enter Tryd.func11, Tryd.ntmps11
    go_wp2_with fail
    generalize w.alloc (.cells (arr 32 (b8 QD)) 26) = V0 at HLg HRV hV0 b1 ⊢
    refine HLg.out.mono ?_
    rintro e w1 ⟨rfl, rfl⟩
    go_wp2_with fail
    refine (awake_any _ HRV.out hV0).mono ?_
    rintro e w1 ⟨rfl, hb⟩
    have B1 := bss b1.out hb
    go_wp2_with fail
    go_ret
    exact ⟨rfl, B1⟩
  have hlg' : lg l = false := by simpa using hlg
  rw [hlg'] at HLg
  by_cases hk : 100 < key.size
  · have d1 : decide ((key.size : Int) > 100) = true := by simp; omega
    go_enter Tryd.func11, Tryd.ntmps11
    go_wp2_with fail
    generalize w.alloc (.cells (arr 32 (b8 QD)) 26) = V0 at HLg HRV hV0 b1 ⊢
    refine HLg.out.mono ?_
    rintro e w1 ⟨rfl, rfl⟩
    go_wp2_with fail
    refine (awake_any _ HRV.out hV0).mono ?_
    rintro e w1 ⟨rfl, hb⟩
    have B1 := bss b1.out hb
    go_wp2_with fail
    go_ret
    exact ⟨rfl, B1⟩
  have d1 : decide ((key.size : Int) > 100) = false := by simp; omega
  by_cases hn : 100 < nonce.size
  · have d2 : decide ((nonce.size : Int) > 100) = true := by simp; omega
    go_enter Tryd.func11, Tryd.ntmps11
    go_wp2_with fail
    generalize w.alloc (.cells (arr 32 (b8 QD)) 26) = V0 at HLg HRV hV0 b1 ⊢
    refine HLg.out.mono ?_
    rintro e w1 ⟨rfl, rfl⟩
    go_wp2_with fail
    refine (awake_any _ HRV.out hV0).mono ?_
    rintro e w1 ⟨rfl, hb⟩
    have B1 := bss b1.out hb
    go_wp2_with fail
    go_ret
    exact ⟨rfl, B1⟩
  have d2 : decide ((nonce.size : Int) > 100) = false := by simp; omega
  by_cases hx : 12 < n3
  · have d3 : decide ((n3 : Int) > 12) = true := by simp; omega
    go_enter Tryd.func11, Tryd.ntmps11
    go_wp2_with fail
    generalize w.alloc (.cells (arr 32 (b8 QD)) 26) = V0 at HLg HRV hV0 b1 ⊢
    refine HLg.out.mono ?_
    rintro e w1 ⟨rfl, rfl⟩
    go_wp2_with fail
    refine (awake_any _ HRV.out hV0).mono ?_
    rintro e w1 ⟨rfl, hb⟩
    have B1 := bss b1.out hb
    go_wp2_with fail
    go_ret
    exact ⟨rfl, B1⟩
  have d3 : decide ((n3 : Int) > 12) = false := by simp; omega
  obtain ⟨h12, hsm⟩ := lg_no hlg'
  have HSM := Lib.hid hsm
  have h12' : len ≤ 12 := by have := HLen.out; omega
  clear hlg hlg' hsm
  go_enter Tryd.func11, Tryd.ntmps11
  go_wp2_with fail
  generalize w.alloc (.cells (arr 32 (b8 QD)) 26) = V0 at HLg HRV hV0 b1 a1 HC HE hR0 ⊢
  obtain ⟨R0, hR⟩ : ∃ R0, R0 = w.heap.size := ⟨_, rfl⟩
  rw [← hR] at a1 hR0 ⊢
  clear hR
  refine HLg.out.mono ?_
  rintro e w1 ⟨rfl, rfl⟩
  go_wp2_with fail
  refine (rnew_any _).mono ?_
  rintro e w1 ⟨rfl, hL1, hb1⟩
  have q0 : Hid (RLOG w1 V0.heap.size V0.heap.size (mea (l.take 0))) := hL1
  have B1 := Lib.hid hb1
  clear hL1 hb1 HLg d1 d2 d3
  go_wp2_with fail
  go_loopw [16] (fun x wr => ∃ i : Nat, i ≤ len ∧ x = .int .i64 i ∧ Hid (RLOG wr V0.heap.size V0.heap.size (mea (l.take i))) ∧ Hid (Below V0.heap.size V0 wr)) (fun x _ => len - (intOf x).toNat)
  case atStart => exact ⟨0, by omega, rfl, q0, B1⟩
  case round =>
    clear q0 B1
    obtain ⟨i, hi, rfl, hq, hb⟩ := hrel
    have hsz := hb.out.size
    by_cases hlt : i < len
    · obtain ⟨b, o, c, rfl, hbl, hc, hm, ht, hs, hr⟩ := (HC.out.below hb.out (Nat.le_refl _)).at hlt
      have z0 : (i : Int) < len := by omega
      have hcs : c.s.size ≤ 1073741824 := by have := (HSM.out c hm).2; omega
      have hbw : b < V0.heap.size := by
        obtain ⟨_, _, _, _, h5⟩ := HC.out
        obtain ⟨b', o', e, hl', _⟩ := h5 (by intro h; subst h; simp at hc)
        injection e with e
        have : b = b' := congrArg Addr.block e
        omega
      have HMS := Lib.hid (mea_succ l i c hc)
      have hml : (mea (l.take i)).length < 256 := by have := mea_len (l.take i); have := List.length_take_le i l; omega
      have S0 := Lib.hid (clc_cells ((World.rangeAt_drew _ _ _ _).2 hr))
      have hr8 := mo_lt c.r 8 (by omega)
      have HCa : Hid (Calls Tryd.prog 25 #[.pointer (some ⟨V0.heap.size, 0, none⟩), .int .i64 ((mo c.r 8 : Nat) : Int), .string c.t, .string c.s] wr.drew fun e w' => e = .returned (.int .i64 (mcode c.t)) ∧ RLOG w' V0.heap.size V0.heap.size (mea (l.take (i + 1))) ∧ Below V0.heap.size wr.drew w') := by
        have := rmeasure_each V0.heap.size V0.heap.size (mo c.r 8) (mea (l.take i)) c.t c.s wr.drew hr8 hml hcs hV0 (hq.out.below ((Below.refl _ _).drew (B := wr.heap.size)) (Nat.le_refl _))
        rw [HMS.out] at this
        exact this
      have hr0 := Lib.hid hr
      clear hr
      go_wp2_with fail
      refine wp_region_pl (fun X => X.cell? ⟨b, o + i * 4, none⟩ = some (.int .i64 c.r) ∧ X.cell? ⟨b, o + i * 4 + 1, none⟩ = some (.string c.t) ∧ X.cell? ⟨b, o + i * 4 + 2, none⟩ = some (.string c.s) ∧ X.cell? ⟨b, o + i * 4 + 3, none⟩ = some (.bool c.raw))
        ((0, 0) :: (1, 0) :: (2, 0) :: (3, 0) :: (4, 0) :: (5, 0) :: (6, 0) :: (7, 0) :: (8, 0) :: (9, 0) :: (10, 0) :: (11, 0) :: (12, 0) :: (13, 0) :: (14, 0) :: (15, 0) :: (16, 0) :: (17, 1) :: []) (by kernel_rfl) (by kernel_rfl) ?_
      iterate 6 (apply wpP_go; (focus rfl); (focus rfl); (focus exact S0.out); (focus (rintro X ⟨s0, s1, s2, s3⟩; go_simp; exact rfl)); intro K hK; go_simp; refine hK _ ?_; clear hK K)
      apply wpP_call
      focus rfl
      focus rfl
      focus exact S0.out
      focus
        rintro X ⟨s0, s1, s2, s3⟩
        go_simp
        exact ⟨rfl, rfl⟩
      focus
        intro X _
        exact mod_any c.r 8 X (by omega) (by omega)
      intro K hK
      go_simp
      refine hK _ ?_
      clear hK K
      iterate 10 (apply wpP_go; (focus rfl); (focus rfl); (focus exact S0.out); (focus (rintro X ⟨s0, s1, s2, s3⟩; go_simp; exact rfl)); intro K hK; go_simp; refine hK _ ?_; clear hK K)
      apply wpP_one
      focus rfl
      intro K hK
      go_simp
      refine HCa.out.mono ?_
      rintro e w2 ⟨rfl, hL2, hb2⟩
      have q2 := Lib.hid hL2
      have B2 : Hid (Below V0.heap.size V0 w2) := hb.out.drew.trans hb2
      have S2 := Lib.hid (clc_cells (rangeAt_below ((World.rangeAt_drew _ _ _ _).2 hr0.out) hb2 hbw))
      clear hL2 hb2 HCa
      refine hK _ _ S2.out ?_
      clear hK K
      refine wpP_done ?_
      go_wp2_with fail
      exact ⟨⟨i + 1, by omega, by go_num, q2, B2⟩, by simp [intOf]; omega⟩
    · have z0 : ¬ (i : Int) < len := by omega
      have hfin : Hid (RLOG wr V0.heap.size V0.heap.size (mea l)) := by
        have h1 := hq.out
        rw [List.take_of_length_le (by have := HC.out.1; omega)] at h1
        exact h1
      have hle : (mea l).length ≤ 12 := by have := mea_len l; omega
      have HBY := Lib.hid (mea_byt l)
      have HOK := Lib.hid (mea_ok l)
      generalize mea l = ea at hfin hle HBY HOK
      clear hq
      go_wp2_with fail
      refine (revents_any V0.heap.size V0.heap.size ea wr hfin.out (by omega)).mono ?_
      rintro e w2 ⟨v2, rfl, hO2, hb2⟩
      have R2 := Lib.hid hO2.rd
      have L2 := Lib.hid (hfin.out.below hb2 (Nat.le_refl _))
      have B2 := Lib.hid (bss hb.out hb2)
      clear hO2 hb2 hfin
      go_wp2_with fail
      refine (rreplay_any v2 ea w2 R2.out (by omega) HBY.out).mono ?_
      rintro e w3 hrep
      obtain ⟨g, rfl, hg, hG, hb3⟩ := hrep.ok HOK.out
      have L3 := Lib.hid (L2.out.below hb3 (Nat.le_refl _))
      have B3 := Lib.hid (bss B2.out hb3)
      have G3 := Lib.hid hG
      clear hb3 hG hrep L2 R2 B2
      obtain ⟨M, hM⟩ : ∃ M : Nat → Int, quoD key (rgl (regs ea)) nonce = M := ⟨_, rfl⟩
      have HQ : Hid (∀ V, RG V g (regs ea) → Calls Tryd.prog 33 #[.string key, .slice (some ⟨g, 0, none⟩) 8 8, .string nonce] V fun e w' => e = .returned (.tuple #[.agg (arr 32 (b8 M)), .int .i64 0]) ∧ Below V.heap.size V w') := fun V h => by
        rw [← hM]; exact rquote_yes key nonce _ (rgl (regs ea)) V h.rd (fun D hD => by obtain ⟨i, _, rfl⟩ := List.mem_map.1 hD; exact regs_byt _ _) (by simp [rgl]) (by omega) (by omega)
      have bM : Hid (Byt M) := by rw [← hM]; exact sumD_byt _
      clear hM
      go_wp2_with fail
      refine (HQ.out w3 G3.out).mono ?_
      rintro e w4 ⟨rfl, hb4⟩
      have B4 : Hid (Below V0.heap.size V0 (w4.alloc (.cells (arr 32 (b8 M)) 26))) := (bss B3.out hb4).alloc (bss B3.out hb4).size _
      have L4 := Lib.hid ((L3.out.below hb4 (Nat.le_refl _)).below ((Below.refl w4.heap.size w4).alloc (Nat.le_refl _) (.cells (arr 32 (b8 M)) 26)) (Nat.le_refl _))
      have r4 : Hid (Row (w4.alloc (.cells (arr 32 (b8 M)) 26)) w4.heap.size 26 32 (b8 M)) := Row.ofList w4 26 _ _ 32 rfl
      have hq4 : V0.heap.size ≤ w4.heap.size := (bss B3.out hb4).size
      clear hb4 L3 G3 B3 HQ
      go_wp2_with fail
      generalize w4.alloc (.cells (arr 32 (b8 M)) 26) = V4 at B4 L4 r4 ⊢
      generalize w4.heap.size = RQ at r4 hq4 ⊢
      have T4 : Hid (TWO V0 V4 R0 RQ QD M) := ⟨a1.out.below B4.out hR0, r4.out, B4.out⟩
      refine (revents_any V0.heap.size V0.heap.size ea V4 L4.out (by omega)).mono ?_
      rintro e V ⟨vx, rfl, hO, hbx⟩
      have T0 := Lib.hid (T4.out.below hbx)
      have hszV := hbx.size
      have hRQ : RQ < V4.heap.size := r4.out.lt
      have hR4 : R0 < V4.heap.size := by have := B4.out.size; omega
      clear L4 B4 r4
      obtain ⟨hOl, ⟨rfl, hz⟩ | ⟨g, cap', cur, rfl, hg, hh, h1, h2, h3, h4⟩⟩ := hO
      · obtain rfl : ea = [] := List.eq_nil_of_length_eq_zero hz
        have RX0 : Hid (RdE V (.slice none 0 0) []) := ⟨none, 0, rfl, fun h => absurd rfl h⟩
        go_wp2_with fail
        obtain ⟨vx, hvx⟩ : ∃ vx : Value, vx = .slice none 0 0 := ⟨_, rfl⟩
        obtain ⟨xs, hxs⟩ : ∃ xs : List Ev, xs = [] := ⟨_, rfl⟩
        rw [← hvx, ← hxs] at RX0
        rw [← hvx]
        have HXB : Hid (∀ e ∈ xs, Byt e.d) := by rw [hxs]; exact fun e he => by cases he
        have hxl : xs.length ≤ 12 := by rw [hxs]; simp
        have RX := RX0
        clear RX0 hvx hxs
        have T1 : Hid (TWO V0 V.drew R0 RQ QD M) := T0.out.drew
        have S1 := Lib.hid T1.out.ld
        have RX1 : Hid (RdE V.drew vx xs) := RX.out
        clear RX
        have HC1 : Hid (∀ X, TWO V0 X R0 RQ QD M → Calls Tryd.prog 34 #[.string key, .slice a3 n3 c3, .string nonce, .agg (arr 32 (b8 QD))] X fun e w' => e = .returned (.bool (vq key es nonce QD)) ∧ Below X.heap.size X w') := fun X h => verify_any key nonce _ es QD X (HE.out.below h.2.2 (Nat.le_refl _)) HEB.out (by omega) bQ.out (by omega) (by omega) (HRV.out.below h.2.2 hV0) (by have := h.2.2.size; omega)
        have HC2 : Hid (∀ X, TWO V0 X R0 RQ QD M → Calls Tryd.prog 35 #[.string key, .slice a3 n3 c3, .string nonce, .agg (arr 32 (b8 QD))] X fun e w' => e = .returned (.bool (vq key es nonce QD)) ∧ Below X.heap.size X w') := fun X h => rverify_any key nonce _ es QD X (HE.out.below h.2.2 (Nat.le_refl _)) HEB.out (by omega) bQ.out (by omega) (by omega)
        have HC3 : Hid (∀ X, TWO V0 X R0 RQ QD M → RdE X vx xs → Calls Tryd.prog 34 #[.string key, vx, .string nonce, .agg (arr 32 (b8 M))] X fun e w' => e = .returned (.bool (vq key xs nonce M)) ∧ Below X.heap.size X w') := fun X h h2 => verify_any key nonce _ xs M X h2 HXB.out (by omega) bM.out (by omega) (by omega) (HRV.out.below h.2.2 hV0) (by have := h.2.2.size; omega)
        have HC4 : Hid (∀ X, TWO V0 X R0 RQ QD M → RdE X vx xs → Calls Tryd.prog 35 #[.string key, vx, .string nonce, .agg (arr 32 (b8 M))] X fun e w' => e = .returned (.bool (vq key xs nonce M)) ∧ Below X.heap.size X w') := fun X h h2 => rverify_any key nonce _ xs M X h2 HXB.out (by omega) bM.out (by omega) (by omega)
        generalize vq key es nonce QD = q1 at HC1 HC2
        generalize vq key xs nonce M = q2 at HC3 HC4
        refine wp_region_pl (fun X => ldN 32 X (.pointer (some ⟨R0, 0, none⟩)) = some (arr 32 (b8 QD)) ∧ ldN 32 X (.pointer (some ⟨RQ, 0, none⟩)) = some (arr 32 (b8 M)))
          ((0, 0) :: (1, 0) :: (2, 0) :: (3, 0) :: (5, 0) :: (6, 0) :: (7, 0) :: (8, 0) :: (4, 1) :: (9, 1) :: (10, 0) :: (11, 0) :: (12, 0) :: (13, 0) :: (14, 0) :: (15, 0) :: (17, 0) :: (18, 0) :: (19, 0) :: (20, 0) :: (16, 1) :: (21, 1) :: (22, 0) :: (23, 0) :: (24, 0) :: (25, 1) :: (26, 0) :: (27, 0) :: []) (by kernel_rfl) (by kernel_rfl) ?_
        iterate 8 (apply wpP_go; (focus rfl); (focus rfl); (focus exact S1.out); (focus (rintro X ⟨s0, s1⟩; go_simp; exact rfl)); intro K hK; go_simp; refine hK _ ?_; clear hK K)
        apply wpP_one
        focus rfl
        intro K hK
        go_simp
        refine (HC1.out _ T1.out).mono ?_
        rintro e w2 ⟨rfl, hb⟩
        have T2 := Lib.hid (T1.out.below hb)
        have RX2 := Lib.hid (RX1.out.below hb (Nat.le_refl _))
        have S2 := Lib.hid T2.out.ld
        clear hb T1 RX1 S1
        refine hK _ _ S2.out ?_
        clear hK K
        apply wpP_one
        focus rfl
        intro K hK
        go_simp
        refine (HC2.out _ T2.out).mono ?_
        rintro e w3 ⟨rfl, hb⟩
        have T3 := Lib.hid (T2.out.below hb)
        have RX3 := Lib.hid (RX2.out.below hb (Nat.le_refl _))
        have S3 := Lib.hid T3.out.ld
        clear hb T2 RX2 S2
        refine hK _ _ S3.out ?_
        clear hK K
        iterate 10 (apply wpP_go; (focus rfl); (focus rfl); (focus exact S3.out); (focus (rintro X ⟨s0, s1⟩; go_simp; exact rfl)); intro K hK; go_simp; refine hK _ ?_; clear hK K)
        apply wpP_one
        focus rfl
        intro K hK
        go_simp
        refine (HC3.out _ T3.out RX3.out).mono ?_
        rintro e w4 ⟨rfl, hb⟩
        have T4 := Lib.hid (T3.out.below hb)
        have RX4 := Lib.hid (RX3.out.below hb (Nat.le_refl _))
        have S4 := Lib.hid T4.out.ld
        clear hb T3 RX3 S3
        refine hK _ _ S4.out ?_
        clear hK K
        apply wpP_one
        focus rfl
        intro K hK
        go_simp
        refine (HC4.out _ T4.out RX4.out).mono ?_
        rintro e w5 ⟨rfl, hb⟩
        have T5 := Lib.hid (T4.out.below hb)
        have RX5 := Lib.hid (RX4.out.below hb (Nat.le_refl _))
        have S5 := Lib.hid T5.out.ld
        clear hb T4 RX4 S4
        refine hK _ _ S5.out ?_
        clear hK K
        iterate 3 (apply wpP_go; (focus rfl); (focus rfl); (focus exact S5.out); (focus (rintro X ⟨s0, s1⟩; go_simp; exact rfl)); intro K hK; go_simp; refine hK _ ?_; clear hK K)
        apply wpP_one
        focus rfl
        intro K hK
        go_simp
        refine (awake_any _ (HRV.out.below T5.out.2.2 hV0) (by have := T5.out.2.2.size; omega)).mono ?_
        rintro e w6 ⟨rfl, hb⟩
        have T6 := Lib.hid (T5.out.below hb)
        have S6 := Lib.hid T6.out.ld
        clear hb T5 RX5 S5
        refine hK _ _ S6.out ?_
        clear hK K
        iterate 2 (apply wpP_go; (focus rfl); (focus rfl); (focus exact S6.out); (focus (rintro X ⟨s0, s1⟩; go_simp; exact rfl)); intro K hK; go_simp; refine hK _ ?_; clear hK K)
        refine wpP_done ?_
        have B9 := bss b1.out T6.out.2.2
        go_wp2_with fail
        go_ret
        exact ⟨rfl, B9⟩
      · have hOE : Hid (OE V V4.heap.size (.slice (some ⟨g, 0, none⟩) ea.length cap') ea) := ⟨hOl, .inr ⟨g, cap', cur, rfl, hg, hh, h1, h2, h3, h4⟩⟩
        have hcap : ea.length ≤ cap' := by
          assumption
        by_cases hea : ea = []
        · subst hea
          have RX0 := Lib.hid hOE.out.rd
          clear hOE hh h1 h2 h3 h4
          go_wp2_with fail
          obtain ⟨vx, hvx⟩ : ∃ vx : Value, vx = .slice (some ⟨g, 0, none⟩) 0 cap' := ⟨_, rfl⟩
          obtain ⟨xs, hxs⟩ : ∃ xs : List Ev, xs = [] := ⟨_, rfl⟩
          have RX1 : Hid (RdE V vx xs) := by rw [hvx, hxs]; exact RX0.out
          have RX := RX1
          rw [← hvx]
          have HXB : Hid (∀ e ∈ xs, Byt e.d) := by rw [hxs]; exact fun e he => by cases he
          have hxl : xs.length ≤ 12 := by rw [hxs]; simp
          clear RX0 RX1 hvx hxs
          have T1 : Hid (TWO V0 V.drew R0 RQ QD M) := T0.out.drew
          have S1 := Lib.hid T1.out.ld
          have RX1 : Hid (RdE V.drew vx xs) := RX.out
          clear RX
          have HC1 : Hid (∀ X, TWO V0 X R0 RQ QD M → Calls Tryd.prog 34 #[.string key, .slice a3 n3 c3, .string nonce, .agg (arr 32 (b8 QD))] X fun e w' => e = .returned (.bool (vq key es nonce QD)) ∧ Below X.heap.size X w') := fun X h => verify_any key nonce _ es QD X (HE.out.below h.2.2 (Nat.le_refl _)) HEB.out (by omega) bQ.out (by omega) (by omega) (HRV.out.below h.2.2 hV0) (by have := h.2.2.size; omega)
          have HC2 : Hid (∀ X, TWO V0 X R0 RQ QD M → Calls Tryd.prog 35 #[.string key, .slice a3 n3 c3, .string nonce, .agg (arr 32 (b8 QD))] X fun e w' => e = .returned (.bool (vq key es nonce QD)) ∧ Below X.heap.size X w') := fun X h => rverify_any key nonce _ es QD X (HE.out.below h.2.2 (Nat.le_refl _)) HEB.out (by omega) bQ.out (by omega) (by omega)
          have HC3 : Hid (∀ X, TWO V0 X R0 RQ QD M → RdE X vx xs → Calls Tryd.prog 34 #[.string key, vx, .string nonce, .agg (arr 32 (b8 M))] X fun e w' => e = .returned (.bool (vq key xs nonce M)) ∧ Below X.heap.size X w') := fun X h h2 => verify_any key nonce _ xs M X h2 HXB.out (by omega) bM.out (by omega) (by omega) (HRV.out.below h.2.2 hV0) (by have := h.2.2.size; omega)
          have HC4 : Hid (∀ X, TWO V0 X R0 RQ QD M → RdE X vx xs → Calls Tryd.prog 35 #[.string key, vx, .string nonce, .agg (arr 32 (b8 M))] X fun e w' => e = .returned (.bool (vq key xs nonce M)) ∧ Below X.heap.size X w') := fun X h h2 => rverify_any key nonce _ xs M X h2 HXB.out (by omega) bM.out (by omega) (by omega)
          generalize vq key es nonce QD = q1 at HC1 HC2
          generalize vq key xs nonce M = q2 at HC3 HC4
          refine wp_region_pl (fun X => ldN 32 X (.pointer (some ⟨R0, 0, none⟩)) = some (arr 32 (b8 QD)) ∧ ldN 32 X (.pointer (some ⟨RQ, 0, none⟩)) = some (arr 32 (b8 M)))
            ((0, 0) :: (1, 0) :: (2, 0) :: (3, 0) :: (5, 0) :: (6, 0) :: (7, 0) :: (8, 0) :: (4, 1) :: (9, 1) :: (10, 0) :: (11, 0) :: (12, 0) :: (13, 0) :: (14, 0) :: (15, 0) :: (17, 0) :: (18, 0) :: (19, 0) :: (20, 0) :: (16, 1) :: (21, 1) :: (22, 0) :: (23, 0) :: (24, 0) :: (25, 1) :: (26, 0) :: (27, 0) :: []) (by kernel_rfl) (by kernel_rfl) ?_
          iterate 8 (apply wpP_go; (focus rfl); (focus rfl); (focus exact S1.out); (focus (rintro X ⟨s0, s1⟩; go_simp; exact rfl)); intro K hK; go_simp; refine hK _ ?_; clear hK K)
          apply wpP_one
          focus rfl
          intro K hK
          go_simp
          refine (HC1.out _ T1.out).mono ?_
          rintro e w2 ⟨rfl, hb⟩
          have T2 := Lib.hid (T1.out.below hb)
          have RX2 := Lib.hid (RX1.out.below hb (Nat.le_refl _))
          have S2 := Lib.hid T2.out.ld
          clear hb T1 RX1 S1
          refine hK _ _ S2.out ?_
          clear hK K
          apply wpP_one
          focus rfl
          intro K hK
          go_simp
          refine (HC2.out _ T2.out).mono ?_
          rintro e w3 ⟨rfl, hb⟩
          have T3 := Lib.hid (T2.out.below hb)
          have RX3 := Lib.hid (RX2.out.below hb (Nat.le_refl _))
          have S3 := Lib.hid T3.out.ld
          clear hb T2 RX2 S2
          refine hK _ _ S3.out ?_
          clear hK K
          iterate 10 (apply wpP_go; (focus rfl); (focus rfl); (focus exact S3.out); (focus (rintro X ⟨s0, s1⟩; go_simp; exact rfl)); intro K hK; go_simp; refine hK _ ?_; clear hK K)
          apply wpP_one
          focus rfl
          intro K hK
          go_simp
          refine (HC3.out _ T3.out RX3.out).mono ?_
          rintro e w4 ⟨rfl, hb⟩
          have T4 := Lib.hid (T3.out.below hb)
          have RX4 := Lib.hid (RX3.out.below hb (Nat.le_refl _))
          have S4 := Lib.hid T4.out.ld
          clear hb T3 RX3 S3
          refine hK _ _ S4.out ?_
          clear hK K
          apply wpP_one
          focus rfl
          intro K hK
          go_simp
          refine (HC4.out _ T4.out RX4.out).mono ?_
          rintro e w5 ⟨rfl, hb⟩
          have T5 := Lib.hid (T4.out.below hb)
          have RX5 := Lib.hid (RX4.out.below hb (Nat.le_refl _))
          have S5 := Lib.hid T5.out.ld
          clear hb T4 RX4 S4
          refine hK _ _ S5.out ?_
          clear hK K
          iterate 3 (apply wpP_go; (focus rfl); (focus rfl); (focus exact S5.out); (focus (rintro X ⟨s0, s1⟩; go_simp; exact rfl)); intro K hK; go_simp; refine hK _ ?_; clear hK K)
          apply wpP_one
          focus rfl
          intro K hK
          go_simp
          refine (awake_any _ (HRV.out.below T5.out.2.2 hV0) (by have := T5.out.2.2.size; omega)).mono ?_
          rintro e w6 ⟨rfl, hb⟩
          have T6 := Lib.hid (T5.out.below hb)
          have S6 := Lib.hid T6.out.ld
          clear hb T5 RX5 S5
          refine hK _ _ S6.out ?_
          clear hK K
          iterate 2 (apply wpP_go; (focus rfl); (focus rfl); (focus exact S6.out); (focus (rintro X ⟨s0, s1⟩; go_simp; exact rfl)); intro K hK; go_simp; refine hK _ ?_; clear hK K)
          refine wpP_done ?_
          have B9 := bss b1.out T6.out.2.2
          go_wp2_with fail
          go_ret
          exact ⟨rfl, B9⟩
        · have hpos : 0 < ea.length := List.length_pos_iff.2 hea
          have hx0 : (0 < (ea.length : Int)) := by omega
          have hx1 : ((ea.length : Int) > 0) := by omega
          have hx2 : ((ea.length : Int) == 0) = false := by simp; omega
          have HM : Hid (∀ V, Calls Tryd.prog 14 #[.int .i64 k, .int .i64 (ea.length : Int)] V fun e w' => e = .returned (.int .i64 ((mo k ea.length : Nat) : Int)) ∧ V = w') := fun V => mod_any k ea.length V (by omega) (by omega)
          have hkl := mo_lt k ea.length (by omega)
          have EVV := Lib.hid (EV.of hOE.out)
          have hgV4 : V4.heap.size ≤ g := hg
          clear hOE hh h1 h2 h3 h4 hOl hea
          have hcapI : (ea.length : Int) ≤ cap' := by omega
          go_wp2_with fail
          refine (HM.out _).mono ?_
          rintro e w1 ⟨rfl, rfl⟩
          generalize mo k ea.length = kk at hkl ⊢
          have hk1 : (kk : Int) < ea.length := by omega
          clear HM
          cases dr
          · have hld := T0.out.ld.1
            have hst : stN 32 V (.pointer (some ⟨g, kk * 34 + 1, none⟩)) (.agg (arr 32 (b8 QD))) = some (g, kk * 34 + 1, arr 32 (b8 QD)) := stN_of (by simp [arr]) (EVV.out.there hkl) (all_one _ _ (fun _ => rfl))
            have EX := Lib.hid (EVV.out.setDig hkl QD)
            have TX : Hid (TWO V0 (V.setCells g (kk * 34 + 1) (arr 32 (b8 QD)).toList) R0 RQ QD M) := by
              obtain ⟨t1, t2, t3⟩ := T0.out
              have hb : Below V4.heap.size V (V.setCells g (kk * 34 + 1) (arr 32 (b8 QD)).toList) := Below.setAll hgV4 _ _ _ (Below.refl _ _)
              exact ⟨t1.below hb hR4, t2.below hb hRQ, t3.trans (hb.mono (by have := T4.out.2.2.size; omega))⟩
            have hsl : (setD ea kk QD).length = ea.length := setD_len _ _ _
            have HXB0 := Lib.hid (setD_byt kk bQ.out HBY.out)
            go_wp2_with fail
            clear hld hst
            generalize V.setCells g (kk * 34 + 1) (arr 32 (b8 QD)).toList = V at EX TX ⊢
            have RX0 := Lib.hid (EX.out.rd cap')
            rw [hsl] at RX0
            generalize setD ea kk QD = xs at RX0 hsl HXB0
            obtain ⟨vx, hvx⟩ : ∃ vx : Value, vx = .slice (some ⟨g, 0, none⟩) ea.length cap' := ⟨_, rfl⟩
            rw [← hvx] at RX0 ⊢
            have RX := RX0
            have HXB := HXB0
            have T0 := TX
            have hxl : xs.length ≤ 12 := by omega
            clear RX0 hvx EX TX EVV HXB0
            have T1 : Hid (TWO V0 V.drew R0 RQ QD M) := T0.out.drew
            have S1 := Lib.hid T1.out.ld
            have RX1 : Hid (RdE V.drew vx xs) := RX.out
            clear RX
            have HC1 : Hid (∀ X, TWO V0 X R0 RQ QD M → Calls Tryd.prog 34 #[.string key, .slice a3 n3 c3, .string nonce, .agg (arr 32 (b8 QD))] X fun e w' => e = .returned (.bool (vq key es nonce QD)) ∧ Below X.heap.size X w') := fun X h => verify_any key nonce _ es QD X (HE.out.below h.2.2 (Nat.le_refl _)) HEB.out (by omega) bQ.out (by omega) (by omega) (HRV.out.below h.2.2 hV0) (by have := h.2.2.size; omega)
            have HC2 : Hid (∀ X, TWO V0 X R0 RQ QD M → Calls Tryd.prog 35 #[.string key, .slice a3 n3 c3, .string nonce, .agg (arr 32 (b8 QD))] X fun e w' => e = .returned (.bool (vq key es nonce QD)) ∧ Below X.heap.size X w') := fun X h => rverify_any key nonce _ es QD X (HE.out.below h.2.2 (Nat.le_refl _)) HEB.out (by omega) bQ.out (by omega) (by omega)
            have HC3 : Hid (∀ X, TWO V0 X R0 RQ QD M → RdE X vx xs → Calls Tryd.prog 34 #[.string key, vx, .string nonce, .agg (arr 32 (b8 M))] X fun e w' => e = .returned (.bool (vq key xs nonce M)) ∧ Below X.heap.size X w') := fun X h h2 => verify_any key nonce _ xs M X h2 HXB.out (by omega) bM.out (by omega) (by omega) (HRV.out.below h.2.2 hV0) (by have := h.2.2.size; omega)
            have HC4 : Hid (∀ X, TWO V0 X R0 RQ QD M → RdE X vx xs → Calls Tryd.prog 35 #[.string key, vx, .string nonce, .agg (arr 32 (b8 M))] X fun e w' => e = .returned (.bool (vq key xs nonce M)) ∧ Below X.heap.size X w') := fun X h h2 => rverify_any key nonce _ xs M X h2 HXB.out (by omega) bM.out (by omega) (by omega)
            generalize vq key es nonce QD = q1 at HC1 HC2
            generalize vq key xs nonce M = q2 at HC3 HC4
            refine wp_region_pl (fun X => ldN 32 X (.pointer (some ⟨R0, 0, none⟩)) = some (arr 32 (b8 QD)) ∧ ldN 32 X (.pointer (some ⟨RQ, 0, none⟩)) = some (arr 32 (b8 M)))
              ((0, 0) :: (1, 0) :: (2, 0) :: (3, 0) :: (5, 0) :: (6, 0) :: (7, 0) :: (8, 0) :: (4, 1) :: (9, 1) :: (10, 0) :: (11, 0) :: (12, 0) :: (13, 0) :: (14, 0) :: (15, 0) :: (17, 0) :: (18, 0) :: (19, 0) :: (20, 0) :: (16, 1) :: (21, 1) :: (22, 0) :: (23, 0) :: (24, 0) :: (25, 1) :: (26, 0) :: (27, 0) :: []) (by kernel_rfl) (by kernel_rfl) ?_
            iterate 8 (apply wpP_go; (focus rfl); (focus rfl); (focus exact S1.out); (focus (rintro X ⟨s0, s1⟩; go_simp; exact rfl)); intro K hK; go_simp; refine hK _ ?_; clear hK K)
            apply wpP_one
            focus rfl
            intro K hK
            go_simp
            refine (HC1.out _ T1.out).mono ?_
            rintro e w2 ⟨rfl, hb⟩
            have T2 := Lib.hid (T1.out.below hb)
            have RX2 := Lib.hid (RX1.out.below hb (Nat.le_refl _))
            have S2 := Lib.hid T2.out.ld
            clear hb T1 RX1 S1
            refine hK _ _ S2.out ?_
            clear hK K
            apply wpP_one
            focus rfl
            intro K hK
            go_simp
            refine (HC2.out _ T2.out).mono ?_
            rintro e w3 ⟨rfl, hb⟩
            have T3 := Lib.hid (T2.out.below hb)
            have RX3 := Lib.hid (RX2.out.below hb (Nat.le_refl _))
            have S3 := Lib.hid T3.out.ld
            clear hb T2 RX2 S2
            refine hK _ _ S3.out ?_
            clear hK K
            iterate 10 (apply wpP_go; (focus rfl); (focus rfl); (focus exact S3.out); (focus (rintro X ⟨s0, s1⟩; go_simp; exact rfl)); intro K hK; go_simp; refine hK _ ?_; clear hK K)
            apply wpP_one
            focus rfl
            intro K hK
            go_simp
            refine (HC3.out _ T3.out RX3.out).mono ?_
            rintro e w4 ⟨rfl, hb⟩
            have T4 := Lib.hid (T3.out.below hb)
            have RX4 := Lib.hid (RX3.out.below hb (Nat.le_refl _))
            have S4 := Lib.hid T4.out.ld
            clear hb T3 RX3 S3
            refine hK _ _ S4.out ?_
            clear hK K
            apply wpP_one
            focus rfl
            intro K hK
            go_simp
            refine (HC4.out _ T4.out RX4.out).mono ?_
            rintro e w5 ⟨rfl, hb⟩
            have T5 := Lib.hid (T4.out.below hb)
            have RX5 := Lib.hid (RX4.out.below hb (Nat.le_refl _))
            have S5 := Lib.hid T5.out.ld
            clear hb T4 RX4 S4
            refine hK _ _ S5.out ?_
            clear hK K
            iterate 3 (apply wpP_go; (focus rfl); (focus rfl); (focus exact S5.out); (focus (rintro X ⟨s0, s1⟩; go_simp; exact rfl)); intro K hK; go_simp; refine hK _ ?_; clear hK K)
            apply wpP_one
            focus rfl
            intro K hK
            go_simp
            refine (awake_any _ (HRV.out.below T5.out.2.2 hV0) (by have := T5.out.2.2.size; omega)).mono ?_
            rintro e w6 ⟨rfl, hb⟩
            have T6 := Lib.hid (T5.out.below hb)
            have S6 := Lib.hid T6.out.ld
            clear hb T5 RX5 S5
            refine hK _ _ S6.out ?_
            clear hK K
            iterate 2 (apply wpP_go; (focus rfl); (focus rfl); (focus exact S6.out); (focus (rintro X ⟨s0, s1⟩; go_simp; exact rfl)); intro K hK; go_simp; refine hK _ ?_; clear hK K)
            refine wpP_done ?_
            have B9 := bss b1.out T6.out.2.2
            go_wp2_with fail
            go_ret
            exact ⟨rfl, B9⟩
          · obtain ⟨ad, had⟩ : ∃ ad : Option Addr, (if cap' = kk + 1 then some ⟨g, 0, none⟩ else some ⟨g, (kk + 1) * 34, none⟩) = ad := ⟨_, rfl⟩
            have hA : ea.length = kk + 1 ∨ ad = some ⟨g, (kk + 1) * 34, none⟩ := by
              by_cases hc : cap' = kk + 1
              · exact .inl (by omega)
              · rw [if_neg hc] at had; exact .inr had.symm
            obtain ⟨g1, cap1, W1, r1, R2, W2, r2, rd2, bl2⟩ := drop_run V4.heap.size g cap' (cap' - (kk + 1)) kk ea V.drew EVV.out hkl (by omega) ad hA
            clear hA
            have hmk : ∀ W, (Instr.buildSlice 46 0 #[]).run Tryd.prog W = .ok (.slice (some ⟨W.heap.size, 0, none⟩) 0 0) (W.alloc (.cells #[] 45)) := fun _ => by kernel_rfl
            have HR1 := Lib.hid r1
            have HR2 := Lib.hid r2
            have RX0 := Lib.hid rd2
            have TX : Hid (TWO V0 W2 R0 RQ QD M) := T0.out.drew.below bl2
            have hsl : (ea.take kk ++ ea.drop (kk + 1)).length ≤ 12 := by simp; omega
            have HXB0 : Hid (∀ e ∈ ea.take kk ++ ea.drop (kk + 1), Byt e.d) := fun e he => by
              rcases List.mem_append.1 he with h | h
              · exact HBY.out e (List.mem_of_mem_take h)
              · exact HBY.out e (List.mem_of_mem_drop h)
            generalize ea.take kk ++ ea.drop (kk + 1) = xs at RX0 hsl HXB0
            clear r1 r2 rd2 bl2
            have hs1 : kk ≤ cap' := by omega
            have hs2 : kk + 1 ≤ ea.length := by omega
            have hs3 : (kk : Int) + 1 ≤ (ea.length : Int) := by omega
            have hs4 : (0 : Int) ≤ (kk : Int) + 1 := by omega
            have hs5 : IntKind.i64.wrap ((kk : Int) + 1) = (kk : Int) + 1 := IntWalk.i64_in _ (by omega)
            have hs6 : ((kk : Int) + 1).toNat = kk + 1 := by omega
            go_wp2_with fail
            refine wp_region_pl (fun _ => True)
              ((1, 0) :: (2, 0) :: (3, 0) :: (5, 0) :: (6, 0) :: (7, 0) :: (8, 0) :: (0, 1) :: (4, 1) :: (9, 1) :: (10, 0) :: []) (by kernel_rfl) (by kernel_rfl) ?_
            iterate 7 (apply wpP_go; (focus rfl); (focus rfl); (focus trivial); (focus (intro X _; (try go_simp); exact rfl)); intro K hK; (try go_simp); refine hK _ ?_; clear hK K)
            apply wpP_one
            focus rfl
            intro K hK
            go_simp
            refine hK _ _ trivial ?_
            clear hK K
            apply wpP_one
            focus rfl
            intro K hK
            rw [if_pos (by rfl)]
            refine wp_append_run (.tmp 89) (.tmp 92) 46 rfl rfl _ _ _ _ rfl rfl (by exact HR1.out) ?_
            simp only [Act.put]
            refine hK _ _ trivial ?_
            clear hK K
            apply wpP_one
            focus rfl
            intro K hK
            rw [if_pos (by rfl)]
            refine wp_append_run (.tmp 93) (.tmp 97) 46 rfl rfl _ _ _ _ rfl rfl (by exact HR2.out) ?_
            simp only [Act.put]
            refine hK _ _ trivial ?_
            clear hK K
            apply wpP_go
            focus rfl
            focus rfl
            focus trivial
            focus
              intro X _
              go_simp
              exact rfl
            intro K hK
            go_simp
            refine hK _ ?_
            clear hK K
            refine wpP_done ?_
            have RX1 := RX0
            obtain ⟨vx, hvx⟩ : ∃ vx : Value, vx = R2 := ⟨_, rfl⟩
            rw [← hvx] at RX1 ⊢
            have T0 := TX
            clear HR1 HR2 hmk RX0 hvx TX EVV
            generalize W2 = V at RX1 T0 ⊢
            have RX := RX1
            have HXB := HXB0
            have hxl := hsl
            clear RX1 HXB0
            go_wp2_with fail
            have T1 : Hid (TWO V0 V.drew R0 RQ QD M) := T0.out.drew
            have S1 := Lib.hid T1.out.ld
            have RX1 : Hid (RdE V.drew vx xs) := RX.out
            clear RX
            have HC1 : Hid (∀ X, TWO V0 X R0 RQ QD M → Calls Tryd.prog 34 #[.string key, .slice a3 n3 c3, .string nonce, .agg (arr 32 (b8 QD))] X fun e w' => e = .returned (.bool (vq key es nonce QD)) ∧ Below X.heap.size X w') := fun X h => verify_any key nonce _ es QD X (HE.out.below h.2.2 (Nat.le_refl _)) HEB.out (by omega) bQ.out (by omega) (by omega) (HRV.out.below h.2.2 hV0) (by have := h.2.2.size; omega)
            have HC2 : Hid (∀ X, TWO V0 X R0 RQ QD M → Calls Tryd.prog 35 #[.string key, .slice a3 n3 c3, .string nonce, .agg (arr 32 (b8 QD))] X fun e w' => e = .returned (.bool (vq key es nonce QD)) ∧ Below X.heap.size X w') := fun X h => rverify_any key nonce _ es QD X (HE.out.below h.2.2 (Nat.le_refl _)) HEB.out (by omega) bQ.out (by omega) (by omega)
            have HC3 : Hid (∀ X, TWO V0 X R0 RQ QD M → RdE X vx xs → Calls Tryd.prog 34 #[.string key, vx, .string nonce, .agg (arr 32 (b8 M))] X fun e w' => e = .returned (.bool (vq key xs nonce M)) ∧ Below X.heap.size X w') := fun X h h2 => verify_any key nonce _ xs M X h2 HXB.out (by omega) bM.out (by omega) (by omega) (HRV.out.below h.2.2 hV0) (by have := h.2.2.size; omega)
            have HC4 : Hid (∀ X, TWO V0 X R0 RQ QD M → RdE X vx xs → Calls Tryd.prog 35 #[.string key, vx, .string nonce, .agg (arr 32 (b8 M))] X fun e w' => e = .returned (.bool (vq key xs nonce M)) ∧ Below X.heap.size X w') := fun X h h2 => rverify_any key nonce _ xs M X h2 HXB.out (by omega) bM.out (by omega) (by omega)
            generalize vq key es nonce QD = q1 at HC1 HC2
            generalize vq key xs nonce M = q2 at HC3 HC4
            refine wp_region_pl (fun X => ldN 32 X (.pointer (some ⟨R0, 0, none⟩)) = some (arr 32 (b8 QD)) ∧ ldN 32 X (.pointer (some ⟨RQ, 0, none⟩)) = some (arr 32 (b8 M)))
              ((0, 0) :: (1, 0) :: (2, 0) :: (3, 0) :: (5, 0) :: (6, 0) :: (7, 0) :: (8, 0) :: (4, 1) :: (9, 1) :: (10, 0) :: (11, 0) :: (12, 0) :: (13, 0) :: (14, 0) :: (15, 0) :: (17, 0) :: (18, 0) :: (19, 0) :: (20, 0) :: (16, 1) :: (21, 1) :: (22, 0) :: (23, 0) :: (24, 0) :: (25, 1) :: (26, 0) :: (27, 0) :: []) (by kernel_rfl) (by kernel_rfl) ?_
            iterate 8 (apply wpP_go; (focus rfl); (focus rfl); (focus exact S1.out); (focus (rintro X ⟨s0, s1⟩; go_simp; exact rfl)); intro K hK; go_simp; refine hK _ ?_; clear hK K)
            apply wpP_one
            focus rfl
            intro K hK
            go_simp
            refine (HC1.out _ T1.out).mono ?_
            rintro e w2 ⟨rfl, hb⟩
            have T2 := Lib.hid (T1.out.below hb)
            have RX2 := Lib.hid (RX1.out.below hb (Nat.le_refl _))
            have S2 := Lib.hid T2.out.ld
            clear hb T1 RX1 S1
            refine hK _ _ S2.out ?_
            clear hK K
            apply wpP_one
            focus rfl
            intro K hK
            go_simp
            refine (HC2.out _ T2.out).mono ?_
            rintro e w3 ⟨rfl, hb⟩
            have T3 := Lib.hid (T2.out.below hb)
            have RX3 := Lib.hid (RX2.out.below hb (Nat.le_refl _))
            have S3 := Lib.hid T3.out.ld
            clear hb T2 RX2 S2
            refine hK _ _ S3.out ?_
            clear hK K
            iterate 10 (apply wpP_go; (focus rfl); (focus rfl); (focus exact S3.out); (focus (rintro X ⟨s0, s1⟩; go_simp; exact rfl)); intro K hK; go_simp; refine hK _ ?_; clear hK K)
            apply wpP_one
            focus rfl
            intro K hK
            go_simp
            refine (HC3.out _ T3.out RX3.out).mono ?_
            rintro e w4 ⟨rfl, hb⟩
            have T4 := Lib.hid (T3.out.below hb)
            have RX4 := Lib.hid (RX3.out.below hb (Nat.le_refl _))
            have S4 := Lib.hid T4.out.ld
            clear hb T3 RX3 S3
            refine hK _ _ S4.out ?_
            clear hK K
            apply wpP_one
            focus rfl
            intro K hK
            go_simp
            refine (HC4.out _ T4.out RX4.out).mono ?_
            rintro e w5 ⟨rfl, hb⟩
            have T5 := Lib.hid (T4.out.below hb)
            have RX5 := Lib.hid (RX4.out.below hb (Nat.le_refl _))
            have S5 := Lib.hid T5.out.ld
            clear hb T4 RX4 S4
            refine hK _ _ S5.out ?_
            clear hK K
            iterate 3 (apply wpP_go; (focus rfl); (focus rfl); (focus exact S5.out); (focus (rintro X ⟨s0, s1⟩; go_simp; exact rfl)); intro K hK; go_simp; refine hK _ ?_; clear hK K)
            apply wpP_one
            focus rfl
            intro K hK
            go_simp
            refine (awake_any _ (HRV.out.below T5.out.2.2 hV0) (by have := T5.out.2.2.size; omega)).mono ?_
            rintro e w6 ⟨rfl, hb⟩
            have T6 := Lib.hid (T5.out.below hb)
            have S6 := Lib.hid T6.out.ld
            clear hb T5 RX5 S5
            refine hK _ _ S6.out ?_
            clear hK K
            iterate 2 (apply wpP_go; (focus rfl); (focus rfl); (focus exact S6.out); (focus (rintro X ⟨s0, s1⟩; go_simp; exact rfl)); intro K hK; go_simp; refine hK _ ?_; clear hK K)
            refine wpP_done ?_
            have B9 := bss b1.out T6.out.2.2
            go_wp2_with fail
            go_ret
            exact ⟨rfl, B9⟩
end Go.Proofs.YtndbbbkdpjkljaaDoor
