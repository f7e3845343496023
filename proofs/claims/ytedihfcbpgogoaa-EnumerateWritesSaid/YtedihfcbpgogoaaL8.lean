/- EnumerateWrites answers true. No condition but that the row lies in memory. -/
import Derived.Test.YtedihfcbpgogoaaL7
import Derived.Test.YtedihfcbpgogoaaWD
namespace Go.Proofs.Ytedihfcbpgogoaa
open Go.RowKit
theorem BR.all {w : World} {B n : Nat} {b : Nat → BN} (h : BR w B n b) {i : Nat} (hi : i < n) (x y z : Int) : BR (((w.setCell ⟨B, i * 3, none⟩ (.int .i64 x)).setCell ⟨B, i * 3 + 1, none⟩ (.int .i64 y)).setCell ⟨B, i * 3 + 2, none⟩ (.int .i64 z)) B n (up b i ⟨x, y, z⟩) := by
  have := ((h.bu hi x).se hi y).su hi z
  rw [up_up, up_up, up_same, up_same] at this
  exact this
set_option maxRecDepth 100000 in
set_option maxHeartbeats 8000000 in
theorem lwrites_any {w : World} {a : Option Addr} {len cap : Nat} {T0 : List Fn} {at' bu se su : Int} {chg : Bool} (h : FnS w a len cap T0) :
    Calls Try.prog 8 #[.slice a len cap, .int .i64 at', .agg #[.int .i64 bu, .int .i64 se, .int .i64 su], .bool chg] w fun e w' => e = .returned (.bool true) ∧ Below w.heap.size w w' := by
  have B0 : Hid (Below w.heap.size w (w.alloc (.cells #[.int .i64 bu, .int .i64 se, .int .i64 su] 39))) := (Below.refl _ _).alloc (Nat.le_refl _) _
  have HT := Lib.hid (topo_any (h.below B0.out))
  have hz : w.heap.size < (w.alloc (.cells #[.int .i64 bu, .int .i64 se, .int .i64 su] 39)).heap.size := by simp
  have z0 : Hid ((w.alloc (.cells #[.int .i64 bu, .int .i64 se, .int .i64 su] 39)).cell? ⟨w.heap.size, 0, none⟩ = some (.int .i64 bu) ∧ (w.alloc (.cells #[.int .i64 bu, .int .i64 se, .int .i64 su] 39)).cell? ⟨w.heap.size, 1, none⟩ = some (.int .i64 se) ∧ (w.alloc (.cells #[.int .i64 bu, .int .i64 se, .int .i64 su] 39)).cell? ⟨w.heap.size, 2, none⟩ = some (.int .i64 su)) :=
    ⟨cell_of_row _ _ 0 _ _ _ (heap_alloc_new w _), cell_of_row _ _ 1 _ _ _ (heap_alloc_new w _), cell_of_row _ _ 2 _ _ _ (heap_alloc_new w _)⟩
  clear h
  go_enter Try.func8, Try.ntmps8
  go_wp2_with fail
  obtain ⟨Z, hZ⟩ : ∃ Z, w.heap.size = Z := ⟨_, rfl⟩
  have HZ := Lib.hid hZ
  rw [hZ] at hz z0 ⊢
  clear hZ
  generalize w.alloc (.cells #[.int .i64 bu, .int .i64 se, .int .i64 su] 39) = W0 at *
  refine HT.out.mono ?_
  rintro e w1 ⟨X, vb, vo, Lb, T, Sx, nn, rfl, S, G, hT⟩
  obtain ⟨a1, c1, rfl, H1⟩ := topo_FnS S G
  have H := Lib.hid H1
  have B1 := Lib.hid S.bel
  have V := Lib.hid (G.vld hT)
  have hcc := H1.len.2.1
  have HB := Lib.hid (rbuses_any (n := 256) H1)
  clear H1 S G HT
  go_wp2_with fail
  refine HB.out.mono ?_
  rintro e w2 ⟨b2, ⟨hv, _⟩ | ⟨_, _, _, h3, rfl⟩ | ⟨_, _, _, h3, B, hB, hr, rfl⟩⟩
  · exact absurd ⟨V.out, by omega, by omega⟩ hv
  · have BW : Hid (Below w.heap.size w w2) := bthen B0.out (bthen B1.out b2)
    have HH := Lib.hid (H.out.below b2)
    have BB : Hid (BS w2 none 0 0 b0) := ⟨Nat.le_refl _, by omega, .inl rfl⟩
    clear HB b2 h3 H
    cases chg
    all_goals
      have HA := Lib.hid (awake_any w2)
      go_wp2_with fail
      refine HA.out.mono ?_
      rintro e x1 ⟨rfl, b1⟩
      have C1 : Hid (Below w2.heap.size w2 x1) := Lib.hid b1
      have HW1 := Lib.hid (Writes_any (HH.out.below C1.out) (BB.out.below C1.out))
      clear b1 HA
      go_wp2_with fail
      refine HW1.out.mono ?_
      intro e x2 wp2
      have WP2 := Lib.hid wp2
      obtain ⟨v2, E2, rfl, o2, _, _⟩ := wp2
      have C2 : Hid (Below w2.heap.size w2 x2) := bthen C1.out o2.bel
      have HW2 := Lib.hid (rWrites_any (HH.out.below C2.out) (BB.out.below C2.out))
      clear o2 HW1
      go_wp2_with fail
      refine HW2.out.mono ?_
      intro e x3 wp3
      obtain ⟨v2', v3, E, e2, e3, o2, o3, hE⟩ := WP2.out.both wp3
      injection e2 with e2
      subst e2 e3
      have C3 : Hid (Below w2.heap.size w2 x3) := bthen C2.out o3.bel
      have HE := Lib.hid (equalC_same (w := x3) (o2.step o3.bel) o3 (by omega))
      obtain ⟨p2, q2, rfl, _⟩ := o2.val
      obtain ⟨p3, q3, rfl, _⟩ := o3.val
      clear o2 o3 wp3 WP2 HW2
      go_wp2_with fail
      refine HE.out.mono ?_
      rintro e x4 ⟨rfl, b4⟩
      have C4 : Hid (Below w2.heap.size w2 x4) := bthen C3.out b4
      have NB : Hid (∀ X : World, BS X none 0 0 b0) := fun X => ⟨Nat.le_refl _, by omega, .inl rfl⟩
      have HW4 := Lib.hid (Writes_any (HH.out.below C4.out) (NB.out x4))
      clear b4 HE
      go_wp2_with fail
      refine HW4.out.mono ?_
      intro e x5 wp5
      have WP5 := Lib.hid wp5
      obtain ⟨v5, E5, rfl, o5, _, _⟩ := wp5
      have C5 : Hid (Below w2.heap.size w2 x5) := bthen C4.out o5.bel
      have HW5 := Lib.hid (rWrites_any (HH.out.below C5.out) (NB.out x5))
      clear o5 HW4
      go_wp2_with fail
      refine HW5.out.mono ?_
      intro e x6 wp6
      obtain ⟨v5', v6, E', e5, e6, o5, o6, hE'⟩ := WP5.out.both wp6
      injection e5 with e5
      subst e5 e6
      have C6 : Hid (Below w2.heap.size w2 x6) := bthen C5.out o6.bel
      have HE6 := Lib.hid (equalC_same (w := x6) (o5.step o6.bel) o6 (by omega))
      obtain ⟨p5, q5, rfl, _⟩ := o5.val
      obtain ⟨p6, q6, rfl, _⟩ := o6.val
      clear o5 o6 wp6 WP5 HW5
      go_wp2_with fail
      refine HE6.out.mono ?_
      rintro e x7 ⟨rfl, b7⟩
      have C7 : Hid (Below w.heap.size w x7) := BW.out.trans ((bthen C6.out b7).mono BW.out.size)
      clear b7
      go_wp2_with fail
      go_ret
      exact ⟨rfl, C7.out⟩
  · have BW : Hid (Below w.heap.size w w2) := bthen B0.out (bthen B1.out b2)
    have HH2 := Lib.hid (H.out.below b2)
    have HB21 := Lib.hid b2
    have H11 := H
    have R2 := Lib.hid hr
    have ZC : Hid (∀ Y : World, Ch (fun k => k = B) w2 Y → Y.cell? ⟨Z, 0, none⟩ = some (.int .i64 bu) ∧ Y.cell? ⟨Z, 1, none⟩ = some (.int .i64 se) ∧ Y.cell? ⟨Z, 2, none⟩ = some (.int .i64 su)) := fun Y hY => by
      have h1 : Below W0.heap.size W0 w2 := bthen B1.out b2
      have hzl : Z < w2.heap.size := Nat.lt_of_lt_of_le hz h1.size
      have hne : Z ≠ B := fun e => by have := B1.out.size; omega
      exact ⟨(hY.cell ⟨Z, 0, none⟩ hzl hne).trans ((h1.cell (p := ⟨Z, 0, none⟩) hz).trans z0.out.1), (hY.cell ⟨Z, 1, none⟩ hzl hne).trans ((h1.cell (p := ⟨Z, 1, none⟩) hz).trans z0.out.2.1), (hY.cell ⟨Z, 2, none⟩ hzl hne).trans ((h1.cell (p := ⟨Z, 2, none⟩) hz).trans z0.out.2.2)⟩
    have hB1 : w1.heap.size ≤ B := hB
    have hBw : w.heap.size ≤ B := by have := B1.out.size; have := B0.out.size; omega
    clear HB b2 h3 hr hB H
    obtain ⟨m, hm⟩ : ∃ m, T.length = m := ⟨_, rfl⟩
    rw [hm] at HH2 hT hcc R2 H11 ⊢
    clear hm
    by_cases hcg : chg = true ∧ 0 < m
    · obtain ⟨rfl, hm0⟩ := hcg
      have hm0I : (0 : Int) < m := by omega
      obtain ⟨q, hq⟩ : ∃ q : Nat, moI at' (m : Int) = (q : Int) := ⟨(moI at' (m : Int)).toNat, by have := (moI_lt at' (m : Int) (by omega)).1; omega⟩
      have hqm : q < m := by have := (moI_lt at' (m : Int) (by omega)).2; omega
      have HMo : Hid (∀ Y : World, Calls Try.prog 12 #[.int .i64 at', .int .i64 (m : Int)] Y fun e w' => e = .returned (.int .i64 (q : Int)) ∧ Y = w') := fun Y => (mod_any at' (m : Int) Y (by omega) (by omega)).mono (fun e w' ⟨h3, h4⟩ => ⟨by rw [h3, hq], h4.symm⟩)
      have hqI : (q : Int) < m := by omega
      have S0 := Lib.hid (ZC.out w2.drew ((Ch.refl _ _).drew))
      have d0 : w2.cell? ⟨B, q * 3, none⟩ = some (.int .i64 ((bus T).2 q).bu) := R2.out.cell (r := 0) hqm (by omega)
      have d1 : w2.cell? ⟨B, q * 3 + 1, none⟩ = some (.int .i64 ((bus T).2 q).se) := R2.out.cell (r := 1) hqm (by omega)
      have d2 : w2.cell? ⟨B, q * 3 + 2, none⟩ = some (.int .i64 ((bus T).2 q).su) := R2.out.cell (r := 2) hqm (by omega)
      have f0 : w2.frozen? ⟨B, q * 3, none⟩ = false := Row.frozen R2.out _
      have f1 : w2.frozen? ⟨B, q * 3 + 1, none⟩ = false := Row.frozen R2.out _
      have f2 : w2.frozen? ⟨B, q * 3 + 2, none⟩ = false := Row.frozen R2.out _
      have R3 := Lib.hid (R2.out.all hqm bu se su)
      have C3 : Hid (Ch (fun k => k = B) w2 (((w2.setCell ⟨B, q * 3, none⟩ (.int .i64 bu)).setCell ⟨B, q * 3 + 1, none⟩ (.int .i64 se)).setCell ⟨B, q * 3 + 2, none⟩ (.int .i64 su)).drew) := ((((Ch.refl (fun k => k = B) w2).setCell (p := ⟨B, q * 3, none⟩) (fun _ => rfl) _).setCell (p := ⟨B, q * 3 + 1, none⟩) (fun _ => rfl) _).setCell (p := ⟨B, q * 3 + 2, none⟩) (fun _ => rfl) _).drew
      clear hq
      go_wp2_with fail
      refine wp_region_pl (fun Y => Y.cell? ⟨Z, 0, none⟩ = some (.int .i64 bu) ∧ Y.cell? ⟨Z, 1, none⟩ = some (.int .i64 se) ∧ Y.cell? ⟨Z, 2, none⟩ = some (.int .i64 su)) ((0, 0) :: (1, 0) :: (2, 0) :: (3, 0) :: (4, 0) :: (5, 0) :: (6, 0) :: (7, 1) :: []) (by kernel_rfl) (by kernel_rfl) ?_
      iterate 4 (apply wpP_go; (focus rfl); (focus rfl); (focus exact S0.out); (focus (rintro Y ⟨s0, s1, s2⟩; go_simp; exact rfl)); intro K hK; go_simp; refine hK _ ?_; clear hK K)
      apply wpP_call
      focus rfl
      focus rfl
      focus exact S0.out
      focus (rintro Y ⟨s0, s1, s2⟩; go_simp; exact ⟨rfl, rfl⟩)
      focus (intro Y _; exact HMo.out Y)
      intro K hK
      go_simp
      refine hK _ ?_
      clear hK K
      iterate 2 (apply wpP_go; (focus rfl); (focus rfl); (focus exact S0.out); (focus (rintro Y ⟨s0, s1, s2⟩; go_simp; exact rfl)); intro K hK; go_simp; refine hK _ ?_; clear hK K)
      apply wpP_one
      focus rfl
      intro K hK
      go_simp
      refine hK _ _ (ZC.out _ C3.out) ?_
      clear hK K
      refine wpP_done ?_
      have BB0 : Hid (BR (((w2.setCell ⟨B, q * 3, none⟩ (.int .i64 bu)).setCell ⟨B, q * 3 + 1, none⟩ (.int .i64 se)).setCell ⟨B, q * 3 + 2, none⟩ (.int .i64 su)).drew B m (up (bus T).2 q ⟨bu, se, su⟩)) := R3.out
      clear d0 d1 d2 f0 f1 f2 R3 S0 R2
      generalize (((w2.setCell ⟨B, q * 3, none⟩ (.int .i64 bu)).setCell ⟨B, q * 3 + 1, none⟩ (.int .i64 se)).setCell ⟨B, q * 3 + 2, none⟩ (.int .i64 su)).drew = W3 at *
      have BB : Hid (BS W3 (some ⟨B, 0, none⟩) m m (up (bus T).2 q ⟨bu, se, su⟩)) := ⟨Nat.le_refl _, by omega, .inr ⟨B, rfl, BB0.out⟩⟩
      have BW3 : Hid (Below w.heap.size w W3) := BW.out.trans (C3.out.below BW.out.size (fun k hk => by omega))
      have HH : Hid (FnS W3 a1 m c1 T) := by
        have h1 : Below w1.heap.size w1 w2 := HB21.out
        exact H11.out.below (h1.trans (C3.out.below h1.size (fun k hk => by omega)))
      clear BW
      have BW := BW3
      clear BW3 BB0
      have HA := Lib.hid (awake_any W3)
      go_wp2_with fail
      refine HA.out.mono ?_
      rintro e x1 ⟨rfl, b1⟩
      have C1 : Hid (Below W3.heap.size W3 x1) := Lib.hid b1
      have HW1 := Lib.hid (Writes_any (HH.out.below C1.out) (BB.out.below C1.out))
      clear b1 HA
      go_wp2_with fail
      refine HW1.out.mono ?_
      intro e x2 wp2
      have WP2 := Lib.hid wp2
      obtain ⟨v2, E2, rfl, o2, _, _⟩ := wp2
      have C2 : Hid (Below W3.heap.size W3 x2) := bthen C1.out o2.bel
      have HW2 := Lib.hid (rWrites_any (HH.out.below C2.out) (BB.out.below C2.out))
      clear o2 HW1
      go_wp2_with fail
      refine HW2.out.mono ?_
      intro e x3 wp3
      obtain ⟨v2', v3, E, e2, e3, o2, o3, hE⟩ := WP2.out.both wp3
      injection e2 with e2
      subst e2 e3
      have C3 : Hid (Below W3.heap.size W3 x3) := bthen C2.out o3.bel
      have HE := Lib.hid (equalC_same (w := x3) (o2.step o3.bel) o3 (by omega))
      obtain ⟨p2, q2, rfl, _⟩ := o2.val
      obtain ⟨p3, q3, rfl, _⟩ := o3.val
      clear o2 o3 wp3 WP2 HW2
      go_wp2_with fail
      refine HE.out.mono ?_
      rintro e x4 ⟨rfl, b4⟩
      have C4 : Hid (Below W3.heap.size W3 x4) := bthen C3.out b4
      have NB : Hid (∀ X : World, BS X none 0 0 b0) := fun X => ⟨Nat.le_refl _, by omega, .inl rfl⟩
      have HW4 := Lib.hid (Writes_any (HH.out.below C4.out) (NB.out x4))
      clear b4 HE
      go_wp2_with fail
      refine HW4.out.mono ?_
      intro e x5 wp5
      have WP5 := Lib.hid wp5
      obtain ⟨v5, E5, rfl, o5, _, _⟩ := wp5
      have C5 : Hid (Below W3.heap.size W3 x5) := bthen C4.out o5.bel
      have HW5 := Lib.hid (rWrites_any (HH.out.below C5.out) (NB.out x5))
      clear o5 HW4
      go_wp2_with fail
      refine HW5.out.mono ?_
      intro e x6 wp6
      obtain ⟨v5', v6, E', e5, e6, o5, o6, hE'⟩ := WP5.out.both wp6
      injection e5 with e5
      subst e5 e6
      have C6 : Hid (Below W3.heap.size W3 x6) := bthen C5.out o6.bel
      have HE6 := Lib.hid (equalC_same (w := x6) (o5.step o6.bel) o6 (by omega))
      obtain ⟨p5, q5, rfl, _⟩ := o5.val
      obtain ⟨p6, q6, rfl, _⟩ := o6.val
      clear o5 o6 wp6 WP5 HW5
      go_wp2_with fail
      refine HE6.out.mono ?_
      rintro e x7 ⟨rfl, b7⟩
      have C7 : Hid (Below w.heap.size w x7) := BW.out.trans ((bthen C6.out b7).mono BW.out.size)
      clear b7
      go_wp2_with fail
      go_ret
      exact ⟨rfl, C7.out⟩
    · have BB : Hid (BS w2 (some ⟨B, 0, none⟩) m m (bus T).2) := ⟨Nat.le_refl _, by omega, .inr ⟨B, rfl, R2.out⟩⟩
      have HH := HH2
      cases chg
      · clear hcg HH2 R2
        have HA := Lib.hid (awake_any w2)
        go_wp2_with fail
        refine HA.out.mono ?_
        rintro e x1 ⟨rfl, b1⟩
        have C1 : Hid (Below w2.heap.size w2 x1) := Lib.hid b1
        have HW1 := Lib.hid (Writes_any (HH.out.below C1.out) (BB.out.below C1.out))
        clear b1 HA
        go_wp2_with fail
        refine HW1.out.mono ?_
        intro e x2 wp2
        have WP2 := Lib.hid wp2
        obtain ⟨v2, E2, rfl, o2, _, _⟩ := wp2
        have C2 : Hid (Below w2.heap.size w2 x2) := bthen C1.out o2.bel
        have HW2 := Lib.hid (rWrites_any (HH.out.below C2.out) (BB.out.below C2.out))
        clear o2 HW1
        go_wp2_with fail
        refine HW2.out.mono ?_
        intro e x3 wp3
        obtain ⟨v2', v3, E, e2, e3, o2, o3, hE⟩ := WP2.out.both wp3
        injection e2 with e2
        subst e2 e3
        have C3 : Hid (Below w2.heap.size w2 x3) := bthen C2.out o3.bel
        have HE := Lib.hid (equalC_same (w := x3) (o2.step o3.bel) o3 (by omega))
        obtain ⟨p2, q2, rfl, _⟩ := o2.val
        obtain ⟨p3, q3, rfl, _⟩ := o3.val
        clear o2 o3 wp3 WP2 HW2
        go_wp2_with fail
        refine HE.out.mono ?_
        rintro e x4 ⟨rfl, b4⟩
        have C4 : Hid (Below w2.heap.size w2 x4) := bthen C3.out b4
        have NB : Hid (∀ X : World, BS X none 0 0 b0) := fun X => ⟨Nat.le_refl _, by omega, .inl rfl⟩
        have HW4 := Lib.hid (Writes_any (HH.out.below C4.out) (NB.out x4))
        clear b4 HE
        go_wp2_with fail
        refine HW4.out.mono ?_
        intro e x5 wp5
        have WP5 := Lib.hid wp5
        obtain ⟨v5, E5, rfl, o5, _, _⟩ := wp5
        have C5 : Hid (Below w2.heap.size w2 x5) := bthen C4.out o5.bel
        have HW5 := Lib.hid (rWrites_any (HH.out.below C5.out) (NB.out x5))
        clear o5 HW4
        go_wp2_with fail
        refine HW5.out.mono ?_
        intro e x6 wp6
        obtain ⟨v5', v6, E', e5, e6, o5, o6, hE'⟩ := WP5.out.both wp6
        injection e5 with e5
        subst e5 e6
        have C6 : Hid (Below w2.heap.size w2 x6) := bthen C5.out o6.bel
        have HE6 := Lib.hid (equalC_same (w := x6) (o5.step o6.bel) o6 (by omega))
        obtain ⟨p5, q5, rfl, _⟩ := o5.val
        obtain ⟨p6, q6, rfl, _⟩ := o6.val
        clear o5 o6 wp6 WP5 HW5
        go_wp2_with fail
        refine HE6.out.mono ?_
        rintro e x7 ⟨rfl, b7⟩
        have C7 : Hid (Below w.heap.size w x7) := BW.out.trans ((bthen C6.out b7).mono BW.out.size)
        clear b7
        go_wp2_with fail
        go_ret
        exact ⟨rfl, C7.out⟩
      · have hm0 : m = 0 := by
          rcases Nat.eq_zero_or_pos m with h0 | h0
          · exact h0
          · exact absurd ⟨rfl, h0⟩ hcg
        subst hm0
        clear hcg HH2 R2
        have HA := Lib.hid (awake_any w2)
        go_wp2_with fail
        refine HA.out.mono ?_
        rintro e x1 ⟨rfl, b1⟩
        have C1 : Hid (Below w2.heap.size w2 x1) := Lib.hid b1
        have HW1 := Lib.hid (Writes_any (HH.out.below C1.out) (BB.out.below C1.out))
        clear b1 HA
        go_wp2_with fail
        refine HW1.out.mono ?_
        intro e x2 wp2
        have WP2 := Lib.hid wp2
        obtain ⟨v2, E2, rfl, o2, _, _⟩ := wp2
        have C2 : Hid (Below w2.heap.size w2 x2) := bthen C1.out o2.bel
        have HW2 := Lib.hid (rWrites_any (HH.out.below C2.out) (BB.out.below C2.out))
        clear o2 HW1
        go_wp2_with fail
        refine HW2.out.mono ?_
        intro e x3 wp3
        obtain ⟨v2', v3, E, e2, e3, o2, o3, hE⟩ := WP2.out.both wp3
        injection e2 with e2
        subst e2 e3
        have C3 : Hid (Below w2.heap.size w2 x3) := bthen C2.out o3.bel
        have HE := Lib.hid (equalC_same (w := x3) (o2.step o3.bel) o3 (by omega))
        obtain ⟨p2, q2, rfl, _⟩ := o2.val
        obtain ⟨p3, q3, rfl, _⟩ := o3.val
        clear o2 o3 wp3 WP2 HW2
        go_wp2_with fail
        refine HE.out.mono ?_
        rintro e x4 ⟨rfl, b4⟩
        have C4 : Hid (Below w2.heap.size w2 x4) := bthen C3.out b4
        have NB : Hid (∀ X : World, BS X none 0 0 b0) := fun X => ⟨Nat.le_refl _, by omega, .inl rfl⟩
        have HW4 := Lib.hid (Writes_any (HH.out.below C4.out) (NB.out x4))
        clear b4 HE
        go_wp2_with fail
        refine HW4.out.mono ?_
        intro e x5 wp5
        have WP5 := Lib.hid wp5
        obtain ⟨v5, E5, rfl, o5, _, _⟩ := wp5
        have C5 : Hid (Below w2.heap.size w2 x5) := bthen C4.out o5.bel
        have HW5 := Lib.hid (rWrites_any (HH.out.below C5.out) (NB.out x5))
        clear o5 HW4
        go_wp2_with fail
        refine HW5.out.mono ?_
        intro e x6 wp6
        obtain ⟨v5', v6, E', e5, e6, o5, o6, hE'⟩ := WP5.out.both wp6
        injection e5 with e5
        subst e5 e6
        have C6 : Hid (Below w2.heap.size w2 x6) := bthen C5.out o6.bel
        have HE6 := Lib.hid (equalC_same (w := x6) (o5.step o6.bel) o6 (by omega))
        obtain ⟨p5, q5, rfl, _⟩ := o5.val
        obtain ⟨p6, q6, rfl, _⟩ := o6.val
        clear o5 o6 wp6 WP5 HW5
        go_wp2_with fail
        refine HE6.out.mono ?_
        rintro e x7 ⟨rfl, b7⟩
        have C7 : Hid (Below w.heap.size w x7) := BW.out.trans ((bthen C6.out b7).mono BW.out.size)
        clear b7
        go_wp2_with fail
        go_ret
        exact ⟨rfl, C7.out⟩
end Go.Proofs.Ytedihfcbpgogoaa
