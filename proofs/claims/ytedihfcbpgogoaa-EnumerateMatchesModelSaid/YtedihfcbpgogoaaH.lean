/- enumerate.number. No condition but that the topology is valid. -/
import Derived.Test.YtedihfcbpgogoaaG
import Derived.Test.YtedihfcbpgogoaaD
namespace Go.Proofs.Ytedihfcbpgogoaa
open Go.RowKit
set_option maxRecDepth 100000 in
set_option maxHeartbeats 4000000 in
theorem number_any {w0 : World} {a : Option Addr} {len cap : Nat} {T : List Fn} (V : VT T) (H0 : FnS w0 a len cap T) (hl : len ≤ 1000) {B cap2 : Nat} (hB : w0.heap.size ≤ B) (_hc2 : len ≤ cap2) :
    ∀ (f : Nat) (p bus last : Int) (b : Nat → BN) (w : World), -1 ≤ p → (T.length : Int) - p ≤ f → 0 ≤ bus → bus ≤ last → last + f * 33001 ≤ 1000000000 → Below w0.heap.size w0 w → BR w B len b →
      Calls Try.prog 35 #[.slice a len cap, .int .i64 p, .int .i64 bus, .int .i64 last, .slice (some ⟨B, 0, none⟩) len cap2] w fun e w' => e = .returned (.int .i64 (num T f p bus last b).1) ∧ BR w' B len (num T f p bus last b).2 ∧ Ch (fun k => k = B) w w' := by
  intro f
  induction f with
  | zero =>
    intro p bus last b w hp hf hbus hbl hbd hbel hbr
    have HF := H0.below (show Below w0.heap.size w0 w from hbel)
    have hk : kids T p = [] := List.eq_nil_iff_forall_not_mem.2 fun k hk => by
      obtain ⟨h1, h2⟩ := (mem_kids V).1 hk
      have := (Dn.kid h1 h2).gt V; omega
    have HC := Lib.hid (on_any (p := p) V HF hl)
    have hki : kidsI T p = [] := by unfold kidsI; rw [hk]; rfl
    rw [hki] at HC
    have HBR := Lib.hid hbr
    clear HF hbr
    go_enter Try.func35, Try.ntmps35
    go_wp2_with fail
    refine HC.out.mono ?_
    rintro e w1 ⟨v, rfl, O⟩
    obtain ⟨a1, cap1, hv, _, _⟩ := O.row.form
    subst hv
    have HO := Lib.hid O
    clear O HC
    go_wp2_with fail
    go_loopw [3, 17] (fun l z wr => l = .int .i64 last ∧ z = .int .i64 0 ∧ w1 = wr) (fun _ _ _ => 0)
    case atStart => exact ⟨rfl, rfl, rfl⟩
    case round =>
      obtain ⟨rfl, rfl, rfl⟩ := hrel
      go_wp2_with fail
      go_ret
      exact ⟨rfl, HBR.out.ch (Ch.of_below HO.out.bel (fun k => k = k + 1)) (by omega), Ch.of_below HO.out.bel _⟩
  | succ f ih =>
    intro p bus last b w hp hf hbus hbl hbd hbel hbr
    have HIH := Lib.hid ih
    clear ih
    have HF := H0.below (show Below w0.heap.size w0 w from hbel)
    have HC := Lib.hid (on_any (p := p) V HF hl)
    have HBR := Lib.hid hbr
    have hBw := hbr.lt
    have HBel := Lib.hid hbel
    have hT := H0.len
    obtain ⟨hT1, hT2, hT3⟩ := hT
    clear HF hbr hbel
    go_enter Try.func35, Try.ntmps35
    go_wp2_with fail
    refine HC.out.mono ?_
    rintro e w1 ⟨v, rfl, O⟩
    have N0 : Hid (NS w w1 B len (numJ T f p bus last b 0).2 v (kidsI T p)) := ⟨HBR.out.ch (Ch.of_below O.bel (fun k => k = k + 1)) (by omega), O.row, (fun e => by have := O.new _ e; omega), Ch.of_below O.bel _⟩
    have hlJ : (kidsI T p).length = (kids T p).length := by unfold kidsI; rw [List.length_map]
    obtain ⟨a1, cap1, hv, hcap, _⟩ := O.row.form
    rw [hlJ] at hv hcap
    subst hv
    have hkl : (kids T p).length ≤ 33000 := by
      have h1 := kI_len T p 32 0
      rw [kI_done, hlJ] at h1
      have h2 : 32 * T.length ≤ 32 * 1000 := Nat.mul_le_mul (Nat.le_refl _) (by omega)
      omega
    clear O HC
    have HF := Lib.hid H0
    obtain ⟨m, hm⟩ : ∃ m, (kids T p).length = m := ⟨_, rfl⟩
    rw [hm] at N0 hcap hkl ⊢
    go_wp2_with fail
    go_loopw [3, 12, 17] (fun l _ z wr => ∃ j : Nat, j ≤ m ∧ z = .int .i64 (j : Int) ∧ l = .int .i64 (numJ T f p bus last b j).1 ∧ Hid (NS w wr B len (numJ T f p bus last b j).2 (.slice a1 m cap1) (kidsI T p))) (fun _ _ z _ => m - (intOf z).toNat)
    case atStart => exact ⟨0, by omega, rfl, rfl, N0⟩
    case round =>
      clear N0
      obtain ⟨j, hj, rfl, rfl, NN⟩ := hrel
      by_cases hjm : j < m
      · have y0 : (j : Int) < m := by omega
        have hj' : j < (kids T p).length := by omega
        have hle := numJ_le V (f := f) (p := p) (bus := bus) (last := last) (b := b) (j := j) hf hbl
        have hsucc := Lib.hid (numJ_succ (T := T) (f := f) (p := p) (bus := bus) (last := last) (b := b) hj')
        obtain ⟨k, hk⟩ : ∃ k, (kids T p)[j] = k := ⟨_, rfl⟩
        obtain ⟨hk1, hk2⟩ := (mem_kids V).1 (show k ∈ kids T p by rw [← hk]; exact List.getElem_mem hj')
        have hkp := (Dn.kid hk1 hk2).gt V
        have hkl' : k < len := by omega
        rw [hk] at hsucc
        obtain ⟨_, _, hvv, _, hcell⟩ := NN.out.row.form
        obtain ⟨g, hg, _, hcj⟩ := hcell j (by omega)
        rw [kidsI_at hj', hk] at hcj
        rw [hlJ, hm] at hvv
        injection hvv with e1 e2 e3
        rw [← e1] at hg
        subst hg
        clear hcell e1 e2 e3
        generalize numJ T f p bus last b j = sj at *
        obtain ⟨l1, b1⟩ := sj
        simp only at hle NN ⊢
        obtain ⟨bT, oT, rfl, hbT, _, _, hr⟩ := HF.out.at hkl'
        have hBel2 : Below w0.heap.size w0 wr := HBel.out.trans (NN.out.ch.below HBel.out.size (fun i hi => by omega))
        have c4 : wr.cell? ⟨bT, oT + k * 11 + 4, none⟩ = some (.bool (fAt T k).br) := (hBel2.cell (p := ⟨bT, oT + k * 11 + 4, none⟩) hbT).trans (rangeAt.cell hr (j := 4) rfl)
        have c7 : wr.cell? ⟨bT, oT + k * 11 + 7, none⟩ = some (.int .i64 (fAt T k).sp) := (hBel2.cell (p := ⟨bT, oT + k * 11 + 7, none⟩) hbT).trans (rangeAt.cell hr (j := 7) rfl)
        have hne : bT ≠ B := by omega
        have hne2 : B ≠ bT := by omega
        have b0 : wr.cell? ⟨B, k * 3, none⟩ = some (.int .i64 (b1 k).bu) := NN.out.br.cell (i := k) (r := 0) hkl' (by omega)
        have b1' : wr.cell? ⟨B, k * 3 + 1, none⟩ = some (.int .i64 (b1 k).se) := NN.out.br.cell (i := k) (r := 1) hkl' (by omega)
        have f0 : wr.frozen? ⟨B, k * 3, none⟩ = false := Row.frozen NN.out.br _
        have f1 : wr.frozen? ⟨B, k * 3 + 1, none⟩ = false := Row.frozen NN.out.br _
        have hkI : (k : Int) < len := by omega
        have N1 := Lib.hid (NN.out.set (p := ⟨B, k * 3, none⟩) (u := .int .i64 bus) rfl (NN.out.br.bu hkl' bus))
        have hsp := V.sp k hk1
        cases hbr : (fAt T k).br
        · have hs2 : Hid (numJ T f p bus last b (j + 1) = (l1, up b1 k { b1 k with bu := bus })) := by
            show numJ T f p bus last b (j + 1) = _
            rw [hsucc.out]; unfold numK; rw [hbr]; rfl
          rw [hbr] at c4
          clear hr hBel2 NN b1' f1 c7
          go_wp2_with fail
          go_roundw
          case rel => exact ⟨j + 1, by omega, by go_num, by rw [hs2.out], by rw [hs2.out]; exact N1⟩
          case measure => simp [intOf]; omega
        · rw [hbr] at c4
          have hw1 : IntKind.i64.wrap (l1 + 1) = l1 + 1 := IntWalk.i64_in _ (by omega)
          have N2 := Lib.hid (N1.out.set (p := ⟨B, k * 3 + 1, none⟩) (u := .int .i64 (l1 + 1)) rfl (N1.out.br.se hkl' (l1 + 1)))
          rw [up_up, up_same] at N2
          have hs2 : Hid (numJ T f p bus last b (j + 1) = ((num T f (k : Int) (l1 + 1) (l1 + 1) (up b1 k ⟨bus, l1 + 1, (b1 k).su⟩)).1 + (fAt T k).sp, up (num T f (k : Int) (l1 + 1) (l1 + 1) (up b1 k ⟨bus, l1 + 1, (b1 k).su⟩)).2 k { (num T f (k : Int) (l1 + 1) (l1 + 1) (up b1 k ⟨bus, l1 + 1, (b1 k).su⟩)).2 k with su := (num T f (k : Int) (l1 + 1) (l1 + 1) (up b1 k ⟨bus, l1 + 1, (b1 k).su⟩)).1 + (fAt T k).sp })) := by
            show numJ T f p bus last b (j + 1) = _
            rw [hsucc.out]; unfold numK; rw [if_pos hbr]
          have hnb : (num T f (k : Int) (l1 + 1) (l1 + 1) (up b1 k ⟨bus, l1 + 1, (b1 k).su⟩)).1 ≤ l1 + 1 + 33 * T.length ∧ l1 + 1 ≤ (num T f (k : Int) (l1 + 1) (l1 + 1) (up b1 k ⟨bus, l1 + 1, (b1 k).su⟩)).1 := by
            have h1 := (num_spec V f (k : Int) (l1 + 1) (l1 + 1) (up b1 k ⟨bus, l1 + 1, (b1 k).su⟩) (by omega) (by omega) (Int.le_refl _)).1
            have h2 := ws_le T V (Dn T (k : Int)) T.length (Nat.le_refl _)
            have h3 := h1.tot
            omega
          clear hsucc
          go_wp2_with fail
          generalize (wr.setCell ⟨B, k * 3, none⟩ (.int .i64 bus)).setCell ⟨B, k * 3 + 1, none⟩ (.int .i64 (l1 + 1)) = W2 at N2 ⊢
          have hB3 : Below w0.heap.size w0 W2.drew := (HBel.out.trans (N2.out.ch.below HBel.out.size (fun i hi => by omega))).drew
          have S0 : Hid (W2.drew.cell? ⟨bT, oT + k * 11 + 7, none⟩ = some (.int .i64 (fAt T k).sp)) := (hB3.cell (p := ⟨bT, oT + k * 11 + 7, none⟩) hbT).trans (rangeAt.cell hr (j := 7) rfl)
          have HC := Lib.hid (HIH.out (k : Int) (l1 + 1) (l1 + 1) (up b1 k ⟨bus, l1 + 1, (b1 k).su⟩) W2.drew (by omega) (by omega) (by omega) (Int.le_refl _) (by omega) hB3 N2.out.br)
          generalize num T f (k : Int) (l1 + 1) (l1 + 1) (up b1 k ⟨bus, l1 + 1, (b1 k).su⟩) = r at *
          obtain ⟨r1, r2⟩ := r
          simp only at hnb HC
          have hw2 : IntKind.i64.wrap (r1 + (fAt T k).sp) = r1 + (fAt T k).sp := IntWalk.i64_in _ (by omega)
          clear c4 c7 b0 b1' f0 f1 hcj N1 NN hBel2
          refine wp_region_pl (fun X => X.cell? ⟨bT, oT + k * 11 + 7, none⟩ = some (.int .i64 (fAt T k).sp))
            ((0, 0) :: (1, 0) :: (2, 0) :: (3, 0) :: (4, 0) :: (5, 0) :: (6, 0) :: (8, 0) :: (9, 0) :: (10, 0) :: (11, 0) :: (12, 0) :: (7, 1) :: (13, 0) :: (14, 0) :: []) (by kernel_rfl) (by kernel_rfl) ?_
          iterate 12 (apply wpP_go; (focus rfl); (focus rfl); (focus exact S0.out); (focus (rintro X s0; go_simp; exact rfl)); intro K hK; go_simp; refine hK _ ?_; clear hK K)
          apply wpP_one
          focus rfl
          intro K hK
          go_simp
          refine HC.out.mono ?_
          rintro e w3 ⟨rfl, hbr3, hch3⟩
          have hB4 : Below w0.heap.size w0 w3 := hB3.trans (hch3.below hB3.size (fun i hi => by omega))
          have S1 : Hid (w3.cell? ⟨bT, oT + k * 11 + 7, none⟩ = some (.int .i64 (fAt T k).sp)) := (hB4.cell (p := ⟨bT, oT + k * 11 + 7, none⟩) hbT).trans (rangeAt.cell hr (j := 7) rfl)
          refine hK _ _ S1.out ?_
          clear hK K
          iterate 2 (apply wpP_go; (focus rfl); (focus rfl); (focus exact S1.out); (focus (rintro X s0; go_simp; exact rfl)); intro K hK; go_simp; refine hK _ ?_; clear hK K)
          refine wpP_done ?_
          have N3 : NS w w3 B len r2 (Value.slice (some ⟨g, 0, none⟩) m cap1) (kidsI T p) := N2.out.call (((Ch.refl _ W2).drew).trans hch3) hbr3
          have N4 := Lib.hid (N3.set (p := ⟨B, k * 3 + 2, none⟩) (u := .int .i64 (r1 + (fAt T k).sp)) rfl (hbr3.su hkl' (r1 + (fAt T k).sp)))
          have b2 : w3.cell? ⟨B, k * 3 + 2, none⟩ = some (.int .i64 (r2 k).su) := hbr3.cell (i := k) (r := 2) hkl' (by omega)
          have f2 : w3.frozen? ⟨B, k * 3 + 2, none⟩ = false := Row.frozen hbr3 _
          clear N3 HC S0 S1 hB3 hB4 hch3 hbr3 N2 hr
          go_wp2_with fail
          go_roundw
          case rel => exact ⟨j + 1, by omega, by go_num, by rw [hs2.out], by rw [hs2.out]; exact N4⟩
          case measure => simp [intOf]; omega
      · have y0 : ¬ (j : Int) < m := by omega
        have hj2 : j = (kids T p).length := by omega
        have he := numJ_end (T := T) (f := f) (p := p) (bus := bus) (last := last) (b := b)
        rw [hj2, he] at NN ⊢
        have hjI : ¬ (((kids T p).length : Nat) : Int) < m := by omega
        go_wp2_with fail
        go_ret
        exact ⟨rfl, NN.out.br, NN.out.ch⟩
end Go.Proofs.Ytedihfcbpgogoaa
