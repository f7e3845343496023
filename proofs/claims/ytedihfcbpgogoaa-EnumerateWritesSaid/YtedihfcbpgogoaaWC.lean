/- ref.writes. No condition but that the topology is valid. -/
import Derived.Test.YtedihfcbpgogoaaWB
namespace Go.Proofs.Ytedihfcbpgogoaa
open Go.RowKit
def RWrP (w : World) (E : List CO) (e : Ending) (w' : World) : Prop := ∃ v', e = .returned v' ∧ OG cO 44 5 w w' v' E
theorem cO_one (l : List CO) : ∀ u ∈ l.flatMap cO, u.oneCell' = true := fun u hu => by
  obtain ⟨x, _, hx⟩ := List.mem_flatMap.1 hu
  simp only [cO, List.mem_cons, List.not_mem_nil, or_false] at hx
  rcases hx with rfl | rfl | rfl | rfl | rfl <;> rfl
set_option maxRecDepth 100000 in
set_option maxHeartbeats 4000000 in
theorem rwrites_any {w0 : World} {a : Option Addr} {len cap : Nat} {T : List Fn} (V : VT T) (H0 : FnS w0 a len cap T) (hl : len ≤ 1000) {a' : Option Addr} {cap' : Nat} {b : Nat → BN} (HB00 : BS w0 a' len cap' b) :
    ∀ (f : Nat) (p : Int) (w : World), -1 ≤ p → (T.length : Int) - p ≤ f → Below w0.heap.size w0 w →
      Calls Try.prog 37 #[.slice a len cap, .slice a' len cap', .int .i64 p] w (RWrP w (wrt T b f p)) := by
  intro f
  induction f with
  | zero =>
    intro p w hp hf B0
    have HF := H0.below (show Below w0.heap.size w0 w from B0)
    have hk : kids T p = [] := List.eq_nil_iff_forall_not_mem.2 fun k hk => by
      obtain ⟨h1, h2⟩ := (mem_kids V).1 hk
      have := (Dn.kid h1 h2).gt V; omega
    have HC := Lib.hid (below_any (p := p) HF hl)
    have hki : kidsI T p = [] := by unfold kidsI; rw [hk]; rfl
    rw [hki] at HC
    have HB0 := Lib.hid B0
    clear HF hki hk B0
    go_enter Try.func37, Try.ntmps37
    go_wp2_with fail
    refine HC.out.mono ?_
    rintro e w1 ⟨vk, rfl, O1⟩
    obtain ⟨a1, cap1, hv, _, _⟩ := O1.row.form
    subst hv
    have HO1 := Lib.hid O1
    clear O1 HC
    go_wp2_with fail
    go_loopw [7, 9, 10] (fun l z _ wr => l = .slice none 0 0 ∧ z = .int .i64 0 ∧ w1 = wr) (fun _ _ _ _ => 0)
    case atStart => exact ⟨rfl, rfl, rfl⟩
    case round =>
      obtain ⟨rfl, rfl, rfl⟩ := hrel
      go_wp2_with fail
      go_ret
      refine ⟨_, rfl, ?_⟩
      have e : wrt T b 0 p = [] := by simp [wrt]
      rw [e]
      exact ⟨World.ownsRow_nil _ _ _ _, (fun g hg => by cases hg), HO1.out.bel⟩
  | succ f ih =>
    intro p w hp hf B0
    have HIH := Lib.hid ih
    clear ih
    have HF := H0.below (show Below w0.heap.size w0 w from B0)
    have HC := Lib.hid (below_any (p := p) HF hl)
    have HB0 := Lib.hid B0
    have hT := H0.len
    obtain ⟨hT1, hT2, hT3⟩ := hT
    obtain ⟨i0, hi0, hz0, hz1, hz2⟩ := info_parts Try.info44
    clear HF B0
    go_enter Try.func37, Try.ntmps37
    go_wp2_with fail
    refine HC.out.mono ?_
    rintro e w1 ⟨vk, rfl, O⟩
    have N0 : Hid (VG cO 44 5 w w1 w1 (.slice none 0 0) (.slice none 0 0) (wrtJ T b f p 0) vk (kidsI T p)) := by
      have e : wrtJ T b f p 0 = [] := by simp [wrtJ]
      show VG _ _ _ _ _ _ _ _ _ _ _
      rw [e]
      exact ⟨⟨World.ownsRow_nil _ _ _ _, (fun g hg => by cases hg), O.bel⟩, O.row, (fun g hg e => by cases e), Ch.refl _ _, fun g hg => .inl hg⟩
    have hB1 : Hid (Below w0.heap.size w0 w1) := bthen HB0.out O.bel
    have hlJ : (kidsI T p).length = (kids T p).length := by unfold kidsI; rw [List.length_map]
    obtain ⟨a1, cap1, hv, hcap, _⟩ := O.row.form
    rw [hlJ] at hv hcap
    subst hv
    have hkl : (kids T p).length ≤ 33000 := by
      have h1 := kI_len T p 32 0
      rw [kI_done, hlJ] at h1
      have h2 : 32 * T.length ≤ 32 * 1000 := Nat.mul_le_mul (Nat.le_refl _) (by omega)
      omega
    clear O HC
    have HF := Lib.hid H0
    have HBS := Lib.hid HB00
    obtain ⟨m, hm⟩ : ∃ m, (kids T p).length = m := ⟨_, rfl⟩
    rw [hm] at N0 hcap hkl ⊢
    go_wp2_with fail
    go_loopw [7, 9, 10] (fun l z _ wr => ∃ j : Nat, j ≤ m ∧ z = .int .i64 (j : Int) ∧ Hid (VG cO 44 5 w w1 wr (.slice none 0 0) l (wrtJ T b f p j) (.slice a1 m cap1) (kidsI T p))) (fun _ z _ _ => m - (intOf z).toNat)
    case atStart => exact ⟨0, by omega, rfl, N0⟩
    case round =>
      clear N0
      obtain ⟨j, hj, rfl, NN⟩ := hrel
      by_cases hjm : j < m
      · have y0 : (j : Int) < m := by omega
        have hj' : j < (kids T p).length := by omega
        have hsucc := Lib.hid (wrtJ_succ (T := T) (b := b) (f := f) (p := p) hj')
        have hle := wrtJ_le T b f p (j + 1)
        obtain ⟨k, hk⟩ : ∃ k, (kids T p)[j] = k := ⟨_, rfl⟩
        obtain ⟨hk1, hk2⟩ := (mem_kids V).1 (show k ∈ kids T p by rw [← hk]; exact List.getElem_mem hj')
        have hkp := (Dn.kid hk1 hk2).gt V
        have hkl' : k < len := by omega
        rw [hk] at hsucc
        obtain ⟨_, _, hvv, _, hcell⟩ := NN.out.row.form
        obtain ⟨g, hg, _, hcj⟩ := hcell j (by omega)
        rw [kidsI_at hj', hk] at hcj
        rw [hlJ, hm] at hvv
        injection hvv with e1 e2 e3
        rw [← e1] at hg
        subst hg
        clear hcell e1 e2 e3
        obtain ⟨bT, oT, rfl, hbT, _, _, hr⟩ := HF.out.at hkl'
        have hcT : Hid (∀ W, Below w0.heap.size w0 W → W.cell? ⟨bT, oT + k * 11 + 4, none⟩ = some (.bool (fAt T k).br)) := fun W hW => (hW.cell (p := ⟨bT, oT + k * 11 + 4, none⟩) hbT).trans (rangeAt.cell hr (j := 4) rfl)
        have hkI : (k : Int) < len := by omega
        obtain ⟨EJ, hEJ⟩ : ∃ EJ, wrtJ T b f p j = EJ := ⟨_, rfl⟩
        rw [hEJ] at NN
        have c4 := hcT.out wr (bthen HB0.out NN.out.ow.bel)
        obtain ⟨av, cv, hvr, hcv⟩ := NN.out.ow.val
        subst hvr
        cases hbr : (fAt T k).br
        · have hEs2 : Hid (wrtJ T b f p (j + 1) = EJ) := by
            show _ = _
            rw [hsucc.out, hbr, ← hEJ]; simp
          rw [hbr] at c4
          clear hsucc hEJ hle hr
          go_wp2_with fail
          go_roundw
          case rel => exact ⟨j + 1, by omega, by go_num, by rw [hEs2.out]; exact NN⟩
          case measure => simp [intOf]; omega
        · rw [hbr] at c4
          have hEs : Hid (wrtJ T b f p (j + 1) = EJ ++ w3 b k ++ wrt T b f (k : Int) ++ w1' b k) := by
            show _ = _
            rw [hsucc.out, hbr, if_pos rfl, ← hEJ]; simp [List.append_assoc]
          have hEl : EJ.length + 3 + (wrt T b f (k : Int)).length + 1 ≤ 100000 := by
            have hwl := wrt_len V b (f + 1) p
            rw [hsucc.out, hbr, if_pos rfl] at hle
            rw [← hEJ]
            simp only [List.length_append, w3, w1', List.length_cons, List.length_nil] at hle ⊢
            omega
          clear hsucc hEJ hle hr
          have CB : Hid (∀ W, Below w0.heap.size w0 W → ∃ B, a' = some ⟨B, 0, none⟩ ∧ W.cell? ⟨B, k * 3, none⟩ = some (.int .i64 (b k).bu) ∧ W.cell? ⟨B, k * 3 + 1, none⟩ = some (.int .i64 (b k).se) ∧ W.cell? ⟨B, k * 3 + 2, none⟩ = some (.int .i64 (b k).su)) := fun W hW => by
            obtain ⟨B, e', _, d0, d1, d2⟩ := (HBS.out.below hW).at hkl'
            exact ⟨B, e', d0, d1, d2⟩
          obtain ⟨B, rfl, d0, d1, d2⟩ := CB.out wr (bthen HB0.out NN.out.ow.bel)
          have CB2 : Hid (∀ W, Below w0.heap.size w0 W → W.cell? ⟨B, k * 3, none⟩ = some (.int .i64 (b k).bu) ∧ W.cell? ⟨B, k * 3 + 1, none⟩ = some (.int .i64 (b k).se) ∧ W.cell? ⟨B, k * 3 + 2, none⟩ = some (.int .i64 (b k).su)) := fun W hW => by
            obtain ⟨B', e', d0, d1, d2⟩ := CB.out W hW
            injection e' with e'
            injection e' with e' _ _
            subst e'
            exact ⟨d0, d1, d2⟩
          have hBl : ∀ W : World, Below w0.heap.size w0 W → B < W.heap.size := fun W hW => by
            obtain ⟨B', e', hl, _⟩ := (HBS.out.below hW).at hkl'
            injection e' with e'
            injection e' with e' _ _
            rw [e']; exact hl
          have W3 : Hid (w3 b k = [⟨(k : Int), 24, u6 (b k).bu⟩, ⟨(k : Int), 25, u6 (b k).se⟩, ⟨(k : Int), 26, 255⟩]) := rfl
          have W1 : Hid (w1' b k = [⟨(k : Int), 26, u6 (b k).su⟩]) := rfl
          clear CB d0 d1 d2
          generalize (b k).bu = bu at *
          generalize (b k).se = se at *
          generalize (b k).su = su at *
          have NN4 := Lib.hid (NN.out.below (Below.refl _ wr).drew)
          have S0 : Hid (wr.drew.cell? ⟨B, k * 3, none⟩ = some (.int .i64 bu) ∧ wr.drew.cell? ⟨B, k * 3 + 1, none⟩ = some (.int .i64 se)) := ⟨(CB2.out wr.drew (bthen HB0.out NN4.out.ow.bel)).1, (CB2.out wr.drew (bthen HB0.out NN4.out.ow.bel)).2.1⟩
          clear NN
          go_wp2_with fail
          refine wp_region_pl (fun Z => Z.cell? ⟨B, k * 3, none⟩ = some (.int .i64 bu) ∧ Z.cell? ⟨B, k * 3 + 1, none⟩ = some (.int .i64 se)) ((0, 0) :: (1, 0) :: (2, 0) :: (3, 0) :: (4, 0) :: (5, 0) :: (6, 0) :: (7, 0) :: (8, 0) :: (9, 0) :: (10, 0) :: (11, 0) :: (12, 0) :: (13, 0) :: (14, 0) :: (15, 0) :: (16, 0) :: (17, 0) :: (18, 0) :: (19, 1) :: (20, 1) :: (21, 0) :: []) (by kernel_rfl) (by kernel_rfl) ?_
          iterate 19 (apply wpP_go; (focus rfl); (focus rfl); (focus exact S0.out); (focus (rintro Z ⟨s0, s1⟩; go_simp; exact rfl)); intro K hK; go_simp; refine hK _ ?_; clear hK K)
          apply wpP_one
          focus rfl
          intro K hK
          go_simp
          refine hK _ _ (by exact ⟨((Below.refl _ wr).alloc (Nat.le_refl _) _ |>.drew.cell (p := ⟨B, k * 3, none⟩) (by exact hBl wr.drew (bthen HB0.out NN4.out.ow.bel))).trans S0.out.1, ((Below.refl _ wr).alloc (Nat.le_refl _) _ |>.drew.cell (p := ⟨B, k * 3 + 1, none⟩) (by exact hBl wr.drew (bthen HB0.out NN4.out.ow.bel))).trans S0.out.2⟩) ?_
          clear hK K
          have HP := Lib.hid (OG.push1 NN4.out.ow (cs := [.int .i64 (k : Int), .int .i64 24, .int .i64 1, .bool true, .int .u64 (u6 bu), .int .i64 (k : Int), .int .i64 25, .int .i64 1, .bool true, .int .u64 (u6 se), .int .i64 (k : Int), .int .i64 26, .int .i64 1, .bool true, .int .u64 255]))
          apply wpP_one
          focus rfl
          intro K hK
          refine step_append_lies _ rfl _ _ 45 rfl 0 44 i0 _ 5 40 Try.underlying45 hi0 hz0 hz1 hz2 rfl (by omega) (.slice av EJ.length cv) EJ.length (EJ.flatMap cO) rfl (by exact HP.out.2) ⟨wr.heap.size, 0, none⟩ 3 3 [.int .i64 (k : Int), .int .i64 24, .int .i64 1, .bool true, .int .u64 (u6 bu), .int .i64 (k : Int), .int .i64 25, .int .i64 1, .bool true, .int .u64 (u6 se), .int .i64 (k : Int), .int .i64 26, .int .i64 1, .bool true, .int .u64 255] rfl rfl (by exact HP.out.1) (by simp [Value.oneCell']) (by omega) (by simp only [maxLen]; omega) (by omega) (Nat.zero_le _) (wr.heap.size + 1) (by simp) ?_
          intro g2 cap2 w6 ho hgr hat hbel
          have S6 : Hid (w6.cell? ⟨B, k * 3, none⟩ = some (.int .i64 bu) ∧ w6.cell? ⟨B, k * 3 + 1, none⟩ = some (.int .i64 se)) := by
            have hbw : Below w0.heap.size w0 w6 := bthen HB0.out (NN4.out.lit (N := w3 b k) ho hgr hat (by rw [W3.out]; rfl) (by rw [W3.out]; rfl)).ow.bel
            exact ⟨(CB2.out w6 hbw).1, (CB2.out w6 hbw).2.1⟩
          refine hK _ _ S6.out ?_
          clear hK K
          iterate 1 (apply wpP_go; (focus rfl); (focus rfl); (focus exact S6.out); (focus (rintro Z ⟨s0, s1⟩; go_simp; exact rfl)); intro K hK; go_simp; refine hK _ ?_; clear hK K)
          refine wpP_done ?_
          clear S0 S6 HP
          have N2 := Lib.hid (NN4.out.lit (N := w3 b k) ho hgr hat (by rw [W3.out]; rfl) (by rw [W3.out]; rfl))
          clear ho hgr hat NN4
          have HC := Lib.hid (HIH.out (k : Int) w6 (by omega) (by omega) (bthen HB0.out N2.out.ow.bel))
          have hl3 : (EJ ++ w3 b k).length = EJ.length + 3 := by rw [List.length_append, W3.out]; rfl
          go_wp2_with fail
          refine HC.out.mono ?_
          rintro e w7 ⟨v7, rfl, o7⟩
          have O7 := Lib.hid o7
          have N7 := Lib.hid (N2.out.below o7.bel)
          obtain ⟨v8, w8, hrun, hown8, hgr8, hat8⟩ := run_append_rows (P := Try.prog) w7 45 45 44 i0 _ 5 40 Try.underlying45 hi0 hz0 hz1 hz2 rfl (by omega) _ _ _ _ _ _ N7.out.ow.row o7.row (cO_one _) (by simp only [maxLen, hl3]; omega) (by simp only [hl3]; omega)
          have N8 : Hid (VG cO 44 5 w w1 w8 (.slice none 0 0) v8 (EJ ++ w3 b k ++ wrt T b f (k : Int)) (.slice (some ⟨g, 0, none⟩) m cap1) (kidsI T p)) := by
            obtain ⟨x1, x2, x3⟩ := N7.out.ow.app (N := wrt T b f (k : Int)) hown8 hgr8 hat8 rfl rfl
            exact N7.out.step x1 x2 x3
          obtain ⟨av7, cv7, hv7, hcv7⟩ := o7.val
          subst hv7
          clear o7 hown8 hgr8 hat8 HC N2 N7 c4
          go_upto_region 10 with (at_builtin; refine wpList_append_run rfl _ _ 45 rfl _ _ _ rfl rfl hrun ?_)
          obtain ⟨av8, cv8, hv8, hcv8⟩ := N8.out.ow.val
          obtain ⟨_, _, d2⟩ := CB2.out w8 (bthen HB0.out N8.out.ow.bel)
          obtain ⟨E7, hE7⟩ : ∃ E7, EJ ++ w3 b k ++ wrt T b f (k : Int) = E7 := ⟨_, rfl⟩
          have hE7l : E7.length ≤ 100000 := by rw [← hE7]; simp only [List.length_append, W3.out, List.length_cons, List.length_nil]; omega
          rw [hE7] at N8 hEs hv8 hcv8
          subst hv8
          clear hE7 hrun
          have HP := Lib.hid (OG.push1 N8.out.ow (cs := [.int .i64 (k : Int), .int .i64 26, .int .i64 1, .bool true, .int .u64 (u6 su)]))
          go_wp2_with (at_builtin; refine wpList_append_lies _ rfl _ _ 45 rfl 0 44 i0 _ 5 40 Try.underlying45 hi0 hz0 hz1 hz2 rfl (by omega) (.slice av8 E7.length cv8) E7.length (E7.flatMap cO) rfl (by exact HP.out.2) ⟨w8.heap.size, 0, none⟩ 1 1 [.int .i64 (k : Int), .int .i64 26, .int .i64 1, .bool true, .int .u64 (u6 su)] rfl rfl (by exact HP.out.1) (by simp [Value.oneCell']) (by omega) (by simp only [maxLen]; omega) (by omega) (Nat.zero_le _) (w8.heap.size + 1) (by simp) ?_)
          intro g9 cap9 w9 ho hgr hat hbel
          have N9 := Lib.hid (N8.out.lit (N := w1' b k) ho hgr hat (by rw [W1.out]; rfl) (by rw [W1.out]; rfl))
          clear ho hgr hat HP N8
          go_wp2_with fail
          go_roundw
          case rel => exact ⟨j + 1, by omega, by go_num, by rw [hEs.out]; exact N9⟩
          case measure => simp [intOf]; omega
      · have y0 : ¬ (j : Int) < m := by omega
        have hj2 : j = (kids T p).length := by omega
        have he := wrtJ_end (T := T) (b := b) (f := f) (p := p)
        rw [hj2, he] at NN
        go_wp2_with fail
        go_ret
        exact ⟨_, rfl, NN.out.ow⟩
end Go.Proofs.Ytedihfcbpgogoaa
