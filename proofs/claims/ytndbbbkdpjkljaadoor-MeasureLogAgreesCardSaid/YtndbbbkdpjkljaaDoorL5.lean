/- The walk of MeasureLogAgrees. Condition: the round constants lie in block 0. -/
import Derived.Test.YtndbbbkdpjkljaaDoorAG
namespace Go.Proofs.YtndbbbkdpjkljaaDoor
open Go.RowKit
attribute [local go_sem ↓] alloc26 load26n store26n
attribute [local go_sem] stN_uc stN_b8 set_new fold_drew ldN_drew ldN_drewN stN_drew stN_drewN
set_option maxRecDepth 100000 in
set_option maxHeartbeats 8000000 in
theorem logagrees_walk (a : Option Addr) (len cap : Nat) (l : List Cl) (w : World) (h : CallS w a len cap l) (hr : Rnd w) (h0 : 0 < w.heap.size) :
    Calls Tryd.prog 5 #[.slice a len cap] w fun e w' => e = .returned (.bool true) ∧ Below w.heap.size w w' := by
  have HR := Lib.hid hr
  have HC := Lib.hid h
  have hlen : len ≤ 9223372036854775807 := by have h1 := h.2.1; have h2 := h.2.2.1; unfold maxLen at h2; omega
  have hlc : len ≤ cap := h.2.1
  have HLen := Lib.hid h.1
  clear hr h
  have HLg := Lib.hid (large_any a len cap l w HC.out)
  by_cases hlg : lg l = true
  · rw [hlg] at HLg
    go_enter Tryd.func5, Tryd.ntmps5
    go_wp2_with fail
    refine HLg.out.mono ?_
    rintro e w1 ⟨rfl, rfl⟩
    go_wp2_with fail
    refine (awake_any _ HR.out h0).mono ?_
    rintro e w1 ⟨rfl, hb⟩
    go_wp2_with fail
    go_ret
    exact ⟨rfl, hb⟩
  · have hlg' : lg l = false := by simpa using hlg
    rw [hlg'] at HLg
    obtain ⟨h12, hsm⟩ := lg_no hlg'
    have HSM := Lib.hid hsm
    have h12' : len ≤ 12 := by have := HLen.out; omega
    clear hlg hlg' hsm
    go_enter Tryd.func5, Tryd.ntmps5
    go_wp2_with fail
    refine HLg.out.mono ?_
    rintro e w1 ⟨rfl, rfl⟩
    go_wp2_with fail
    refine (new_any _).mono ?_
    rintro e w1 ⟨rfl, hL1, hb1⟩
    have LA1 := Lib.hid hL1
    have B1 := Lib.hid hb1
    clear hL1 hb1
    go_wp2_with fail
    refine (rnew_any _).mono ?_
    rintro e w2 ⟨rfl, hL2, hb2⟩
    have P2 : Hid (PAIR w2 w.heap.size w.heap.size w1.heap.size (levI (l.take 0)) (levI (l.take 0))) := by
      obtain ⟨_, v, r, o⟩ := hL2
      have hlt := LA1.out.lt
      exact ⟨Nat.le_refl _, B1.out.size, .slice none 0 0, v, LA1.out.below hb2 hlt, ⟨rfl, .inl ⟨rfl, rfl⟩⟩, r, own_down o B1.out.size, fun g hg => by cases hg⟩
    have B2 : Hid (Below w.heap.size w w2) := bss B1.out hb2
    clear hL2 hb2 LA1 B1 HLg
    generalize w1.heap.size = Bb at P2 ⊢
    clear w1
    go_wp2_with fail
    go_loopw [5, 6, 7, 8, 9, 10] (fun x _ _ _ _ _ wr => ∃ i : Nat, i ≤ len ∧ x = .int .i64 i ∧ Hid (PAIR wr w.heap.size w.heap.size Bb (levI (l.take i)) (levI (l.take i))) ∧ Hid (Below w.heap.size w wr)) (fun x _ _ _ _ _ _ => len - (intOf x).toNat)
    case atStart => exact ⟨0, by omega, rfl, P2, B2⟩
    case round =>
      clear P2 B2
      obtain ⟨i, hi, rfl, HP, hb⟩ := hrel
      have hsz := hb.out.size
      by_cases hil : i < len
      · obtain ⟨b, o, c, rfl, hbw, hc, hm, ht, hs, hrg⟩ := HC.out.at hil
        have y0 : (i : Int) < len := by omega
        have hr0 := Lib.hid hrg
        obtain ⟨c0, c1, c2, c3⟩ := clc_cells (rangeAt_below hrg hb.out hbw)
        have HLS := Lib.hid (levI_succ l i c hc)
        have hcs := (HSM.out c hm).2
        have HOB := Lib.hid (levI_ok (l.take i))
        have HNB := Lib.hid (levI_ok (l.take (i + 1)))
        have hel : (levI (l.take i)).length ≤ 12 := by have h1 := levI_len (l.take i); have h2 := List.length_take_le i l; have := HLen.out; rw [List.length_take] at h1; omega
        have hnl : (levI (l.take (i + 1))).length ≤ 12 := by have h1 := levI_len (l.take (i + 1)); have := HLen.out; rw [List.length_take] at h1; omega
        clear hrg hc ht hs
        generalize levI (l.take i) = es at HP HLS HOB hel
        obtain ⟨en, hen⟩ : ∃ en, en = levI (l.take (i + 1)) := ⟨_, rfl⟩
        rw [← hen] at HLS HNB hnl
        have HPe : Hid (∀ w6 : World, Hid (PAIR w6 w.heap.size w.heap.size Bb en en) → Hid (PAIR w6 w.heap.size w.heap.size Bb (levI (l.take (i + 1))) (levI (l.take (i + 1))))) := by
          rw [← hen]; exact fun _ h => h
        clear hen
        have HBY := Lib.hid HNB.out.2
        have HEA : Hid (∀ V : World, ∀ {Ra Rb : Nat} {D : Nat → Int}, SS w w.heap.size Bb en en Ra Rb D D V → Calls Tryd.prog 27 #[.pointer (some ⟨w.heap.size, 0, none⟩)] V (NewE V en)) := fun V _ _ _ h => events_any _ _ en V h.1.log (by omega)
        have HEB : Hid (∀ V : World, ∀ {Ra Rb : Nat} {D : Nat → Int}, SS w w.heap.size Bb en en Ra Rb D D V → Calls Tryd.prog 28 #[.pointer (some ⟨Bb, 0, none⟩)] V (NewE V en)) := fun V _ _ _ h => revents_any _ _ en V h.1.rlog (by omega)
        obtain ⟨ri, hri⟩ : ∃ ri : Int, ri = rrC c := ⟨_, rfl⟩
        have HEN : Hid (es ++ mevI ri c.t c.s = en) := by rw [hri]; exact HLS.out
        cases hraw : c.raw
        all_goals
          rw [hraw] at c3
          have hri2 := hri
          unfold rrC at hri2
          rw [hraw] at hri2
          simp only [if_true, if_false, Bool.false_eq_true] at hri2
          clear hraw HLS hri
          have HRI := Lib.hid hri2
          clear hri2
          go_wp2_with fail
          refine (mod_any c.r 8 _ (by omega) (by omega)).mono ?_
          rintro e w3 ⟨rfl, rfl⟩
          go_wp2_with fail
          rw [← HRI.out]
          clear HRI c0 c1 c2 c3
          obtain ⟨D, hD⟩ : ∃ D : Nat → Int, rgD es ri = D := ⟨_, rfl⟩
          have bD : Hid (Byt D) := by rw [← hD]; exact rgD_byt _ _
          have HCA : Hid (∀ V, PAIR V w.heap.size w.heap.size Bb es es → Calls Tryd.prog 22 #[.pointer (some ⟨w.heap.size, 0, none⟩), .int .i64 ri] V fun e w' => e = .returned (.tuple #[.agg (arr 32 (b8 D)), .int .i64 (rgc ri)]) ∧ Below V.heap.size V w') := fun V h => by
            rw [← hD]; exact preg ri h
          have HCB : Hid (∀ V, PAIR V w.heap.size w.heap.size Bb es es → Calls Tryd.prog 23 #[.pointer (some ⟨Bb, 0, none⟩), .int .i64 ri] V fun e w' => e = .returned (.tuple #[.agg (arr 32 (b8 D)), .int .i64 (rgc ri)]) ∧ Below V.heap.size V w') := fun V h => by
            rw [← hD]; exact prreg ri HOB.out.1 HOB.out.2 (by omega) h
          clear hD
          generalize rgc ri = rc at HCA HCB
          refine (HCA.out wr HP.out).mono ?_
          rintro e w3 ⟨rfl, hb3⟩
          have r3 : Hid (Row (w3.alloc (.cells (arr 32 (b8 D)) 26)) w3.heap.size 26 32 (b8 D)) := Row.ofList w3 26 _ _ 32 rfl
          have P4 := Lib.hid ((HP.out.below hb3).below ((Below.refl w3.heap.size w3).alloc (Nat.le_refl _) (.cells (arr 32 (b8 D)) 26)))
          have bb4 : Hid (Below w.heap.size w (w3.alloc (.cells (arr 32 (b8 D)) 26))) := (bss hb.out hb3).alloc (bss hb.out hb3).size _
          clear hb3 HP hb
          go_wp2_with fail
          generalize w3.alloc (.cells (arr 32 (b8 D)) 26) = V at r3 P4 bb4 ⊢
          generalize w3.heap.size = Ra at r3 ⊢
          refine (HCB.out V P4.out).mono ?_
          rintro e w5 ⟨rfl, hb5⟩
          have r5 := Lib.hid ((r3.out.below hb5 r3.out.lt).alloc (.cells (arr 32 (b8 D)) 26))
          have r6 : Hid (Row (w5.alloc (.cells (arr 32 (b8 D)) 26)) w5.heap.size 26 32 (b8 D)) := Row.ofList w5 26 _ _ 32 rfl
          have P6 := Lib.hid ((P4.out.below hb5).below ((Below.refl w5.heap.size w5).alloc (Nat.le_refl _) (.cells (arr 32 (b8 D)) 26)))
          have bb6 : Hid (Below w.heap.size w (w5.alloc (.cells (arr 32 (b8 D)) 26))) := (bss bb4.out hb5).alloc (bss bb4.out hb5).size _
          clear hb5 P4 bb4 r3 HCA HCB
          have hne : ∀ W, (binOp .neq 26 (.agg (arr 32 (b8 D))) (.agg (arr 32 (b8 D)))).run Tryd.prog W = .ok (.bool false) W := fun W => by
            rw [neD bD.out bD.out]; simp
          go_wp2_with fail
          generalize w5.alloc (.cells (arr 32 (b8 D)) 26) = V2 at r5 r6 P6 bb6 ⊢
          generalize w5.heap.size = Rb at r6 ⊢
          have Q0 : Hid (SS w w.heap.size Bb es es Ra Rb D D V2.drew) := SS.drew ⟨P6.out, r5.out, r6.out, bb6.out⟩
          have S0 := Lib.hid (Q0.out.sr hbw hr0.out)
          clear P6 r5 r6 bb6
          all_goals
            refine wp_region_pl (SRd b (o + i * 4) c Ra Rb D D) ((0, 0) :: (1, 0) :: (2, 0) :: (3, 0) :: (4, 0) :: (5, 0) :: (6, 0) :: (7, 0) :: (8, 0) :: (9, 0) :: (10, 0) :: (11, 0) :: (13, 0) :: (14, 0) :: (15, 0) :: (16, 0) :: (17, 0) :: (18, 0) :: (19, 0) :: (20, 0) :: (21, 0) :: (22, 0) :: (23, 0) :: (24, 0) :: (12, 1) :: (25, 1) :: (26, 0) :: (27, 0) :: (28, 0) :: (29, 0) :: (30, 0) :: (31, 0) :: (32, 0) :: (33, 0) :: (34, 0) :: (35, 0) :: (36, 0) :: (37, 0) :: (38, 0) :: (40, 0) :: (39, 1) :: (41, 1) :: (42, 1) :: (43, 0) :: (44, 0) :: []) (by kernel_rfl) (by kernel_rfl) ?_
            iterate 24 (apply wpP_go; (focus rfl); (focus rfl); (focus exact S0.out); (focus (rintro X ⟨s0, s1, s2, s3, s4, s5⟩; go_simp; exact rfl)); intro K hK; go_simp; refine hK _ ?_; clear hK K)
            apply wpP_one
            focus rfl
            intro K hK
            go_simp
            refine (Q0.out.measure ri c.t c.s (by omega) (by omega) HR.out h0).mono ?_
            rintro e w1 ⟨rfl, hq⟩
            have Q1 := Lib.hid hq
            have S1 := Lib.hid (Q1.out.sr hbw hr0.out)
            clear hq
            refine hK _ _ S1.out ?_
            clear hK K
            apply wpP_one
            focus rfl
            intro K hK
            go_simp
            refine (Q1.out.rmeasure ri c.t c.s (by omega) (by omega)).mono ?_
            rintro e w2 ⟨rfl, hq⟩
            have Q2 := Lib.hid hq
            have S3 := Lib.hid (Q2.out.sr hbw hr0.out)
            clear hq
            refine hK _ _ S3.out ?_
            clear hK K
            have Q3 : Hid (SS w w.heap.size Bb en en Ra Rb D D w2) := by
              show SS w w.heap.size Bb en en Ra Rb D D w2
              rw [← HEN.out]; exact Q2.out
            clear Q2 Q1 Q0 S1 S0
            generalize mcd ri c.t = mc
            iterate 14 (apply wpP_go; (focus rfl); (focus rfl); (focus exact S3.out); (focus (rintro X ⟨s0, s1, s2, s3, s4, s5⟩; go_simp; exact rfl)); intro K hK; go_simp; refine hK _ ?_; clear hK K)
            apply wpP_one
            focus rfl
            intro K hK
            go_simp
            refine (HEA.out _ Q3.out).mono ?_
            rintro e w4 ⟨va, rfl, hO4, hb4⟩
            have Q4 := Lib.hid (Q3.out.below hb4)
            have S4 := Lib.hid (Q4.out.sr hbw hr0.out)
            have E4 := Lib.hid hO4.rd
            clear hO4 hb4
            refine hK _ _ S4.out ?_
            clear hK K
            apply wpP_one
            focus rfl
            intro K hK
            go_simp
            refine (HEB.out _ Q4.out).mono ?_
            rintro e w5 ⟨vb, rfl, hO5, hb5⟩
            have Q5 := Lib.hid (Q4.out.below hb5)
            have S5 := Lib.hid (Q5.out.sr hbw hr0.out)
            have E5 := Lib.hid hO5.rd
            have F5 := Lib.hid (E4.out.below hb5 (Nat.le_refl _))
            clear hO5 hb5 E4
            refine hK _ _ S5.out ?_
            clear hK K
            apply wpP_one
            focus rfl
            intro K hK
            go_simp
            refine (equalE_same va vb en w5 F5.out E5.out (by omega) HBY.out).mono ?_
            rintro e w6 ⟨rfl, hb6⟩
            have Q6 := Lib.hid (Q5.out.below hb6)
            have S6 := Lib.hid (Q6.out.sr hbw hr0.out)
            clear hb6 E5 F5
            refine hK _ _ S6.out ?_
            clear hK K
            iterate 2 (apply wpP_go; (focus rfl); (focus rfl); (focus exact S6.out); (focus (rintro X ⟨s0, s1, s2, s3, s4, s5⟩; go_simp; exact rfl)); intro K hK; go_simp; refine hK _ ?_; clear hK K)
            refine wpP_done ?_
            have P6 := Lib.hid Q6.out.1
            have B6 := Lib.hid Q6.out.2.2.2
            clear Q6 Q5 Q4 Q3 S6 S5 S4 S3
            go_wp2_with fail
            exact ⟨⟨i + 1, by omega, by go_num, HPe.out _ P6, B6⟩, by simp [intOf]; omega⟩
      · have y0 : ¬ (i : Int) < len := by omega
        have HOB := Lib.hid (levI_ok (l.take i))
        have hel : (levI (l.take i)).length ≤ 12 := by have h1 := levI_len (l.take i); have h2 := List.length_take_le i l; have := HLen.out; rw [List.length_take] at h1; omega
        generalize levI (l.take i) = es at HP HOB hel
        go_wp2_with fail
        obtain ⟨wo, rfl⟩ : ∃ wo : World, wo = wr := ⟨_, rfl⟩
        go_loopw [11, 12, 13, 14, 15] (fun y _ _ _ _ wr => ∃ q : Nat, q ≤ 10 ∧ y = .int .i64 ((q : Int) - 1) ∧ Hid (PAIR wr w.heap.size w.heap.size Bb es es) ∧ Hid (Below w.heap.size w wr)) (fun y _ _ _ _ _ => 10 - (intOf y + 1).toNat)
        case atStart => exact ⟨0, by omega, rfl, HP, hb⟩
        case round =>
          clear HP hb
          obtain ⟨q, hq10, rfl, HP, hb⟩ := hrel
          by_cases hq : q < 10
          · have y1 : (q : Int) - 1 ≤ 8 := by omega
            obtain ⟨ri, hri⟩ : ∃ ri : Int, ri = (q : Int) - 1 := ⟨_, rfl⟩
            obtain ⟨D, hD⟩ : ∃ D : Nat → Int, rgD es ((q : Int) - 1) = D := ⟨_, rfl⟩
            have bD : Hid (Byt D) := by rw [← hD]; exact rgD_byt _ _
            have HCA : Hid (∀ V, PAIR V w.heap.size w.heap.size Bb es es → Calls Tryd.prog 22 #[.pointer (some ⟨w.heap.size, 0, none⟩), .int .i64 ((q : Int) - 1)] V fun e w' => e = .returned (.tuple #[.agg (arr 32 (b8 D)), .int .i64 (rgc ((q : Int) - 1))]) ∧ Below V.heap.size V w') := fun V h => by
              rw [← hD]; exact preg _ h
            have HCB : Hid (∀ V, PAIR V w.heap.size w.heap.size Bb es es → Calls Tryd.prog 23 #[.pointer (some ⟨Bb, 0, none⟩), .int .i64 ((q : Int) - 1)] V fun e w' => e = .returned (.tuple #[.agg (arr 32 (b8 D)), .int .i64 (rgc ((q : Int) - 1))]) ∧ Below V.heap.size V w') := fun V h => by
              rw [← hD]; exact prreg _ HOB.out.1 HOB.out.2 (by omega) h
            clear hD
            generalize rgc ((q : Int) - 1) = rc at HCA HCB
            go_wp2_with fail
            refine (HCA.out wr HP.out).mono ?_
            rintro e w3 ⟨rfl, hb3⟩
            have r3 : Hid (Row (w3.alloc (.cells (arr 32 (b8 D)) 26)) w3.heap.size 26 32 (b8 D)) := Row.ofList w3 26 _ _ 32 rfl
            have P4 := Lib.hid ((HP.out.below hb3).below ((Below.refl w3.heap.size w3).alloc (Nat.le_refl _) (.cells (arr 32 (b8 D)) 26)))
            have bb4 : Hid (Below w.heap.size w (w3.alloc (.cells (arr 32 (b8 D)) 26))) := (bss hb.out hb3).alloc (bss hb.out hb3).size _
            clear hb3 HP hb
            go_wp2_with fail
            generalize w3.alloc (.cells (arr 32 (b8 D)) 26) = V at r3 P4 bb4 ⊢
            generalize w3.heap.size = Ra at r3 ⊢
            refine (HCB.out V P4.out).mono ?_
            rintro e w5 ⟨rfl, hb5⟩
            have r5 := Lib.hid ((r3.out.below hb5 r3.out.lt).alloc (.cells (arr 32 (b8 D)) 26))
            have r6 : Hid (Row (w5.alloc (.cells (arr 32 (b8 D)) 26)) w5.heap.size 26 32 (b8 D)) := Row.ofList w5 26 _ _ 32 rfl
            have P6 := Lib.hid ((P4.out.below hb5).below ((Below.refl w5.heap.size w5).alloc (Nat.le_refl _) (.cells (arr 32 (b8 D)) 26)))
            have bb6 : Hid (Below w.heap.size w (w5.alloc (.cells (arr 32 (b8 D)) 26))) := (bss bb4.out hb5).alloc (bss bb4.out hb5).size _
            clear hb5 P4 bb4 r3 HCA HCB
            have lA : ldN 32 (w5.alloc (.cells (arr 32 (b8 D)) 26)) (.pointer (some ⟨Ra, 0, none⟩)) = some (arr 32 (b8 D)) := ldN_of (Row.range0 r5.out) (by simp [arr])
            have lB : ldN 32 (w5.alloc (.cells (arr 32 (b8 D)) 26)) (.pointer (some ⟨w5.heap.size, 0, none⟩)) = some (arr 32 (b8 D)) := ldN_of (Row.range0 r6.out) (by simp [arr])
            have hne : ∀ W, (binOp .neq 26 (.agg (arr 32 (b8 D))) (.agg (arr 32 (b8 D)))).run Tryd.prog W = .ok (.bool false) W := fun W => by
              rw [neD bD.out bD.out]; simp
            go_wp2_with fail
            exact ⟨⟨q + 1, by omega, by go_num, P6, bb6⟩, by simp [intOf]; omega⟩
          · have y1 : ¬ (q : Int) - 1 ≤ 8 := by omega
            go_wp2_with fail
            refine (awake_any _ (HR.out.below hb.out h0) (by have := hb.out.size; omega)).mono ?_
            rintro e w5 ⟨rfl, hb5⟩
            have bb5 := bss hb.out hb5
            go_wp2_with fail
            go_ret
            exact ⟨rfl, bb5⟩
end Go.Proofs.YtndbbbkdpjkljaaDoor
