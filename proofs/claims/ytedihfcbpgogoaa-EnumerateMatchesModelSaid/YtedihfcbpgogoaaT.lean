/- ref.visit; Visit: program and reference. No condition but that the topology is valid (visit). -/
import Derived.Test.YtedihfcbpgogoaaS
namespace Go.Proofs.Ytedihfcbpgogoaa
open Go.RowKit
theorem IR.app {w : World} {v : Value} {A B : List Int} (h : w.ownsRow 0 3 1 v (A.length + B.length) (A.map (Value.int .i64) ++ B.map (Value.int .i64))) : IR w v (A ++ B) := by
  unfold IR; rw [List.length_append, List.map_append]; exact h
def RVisP (w : World) (E : List Int) (e : Ending) (w' : World) : Prop := ∃ v', e = .returned v' ∧ OW w w' v' E
set_option maxRecDepth 100000 in
set_option maxHeartbeats 4000000 in
theorem rvisit_any {w0 : World} {a : Option Addr} {len cap : Nat} {T : List Fn} (V : VT T) (H0 : FnS w0 a len cap T) (hl : len ≤ 1000) :
    ∀ (f : Nat) (p : Int) (w : World), -1 ≤ p → (T.length : Int) - p ≤ f → Below w0.heap.size w0 w →
      Calls Try.prog 41 #[.slice a len cap, .int .i64 p] w (RVisP w (toI (vis T f p))) := by
  intro f
  induction f with
  | zero =>
    intro p w hp hf B0
    have HF := H0.below (show Below w0.heap.size w0 w from B0)
    have hk : kids T p = [] := List.eq_nil_iff_forall_not_mem.2 fun k hk => by
      obtain ⟨h1, h2⟩ := (mem_kids V).1 hk
      have := (Dn.kid h1 h2).gt V; omega
    have HC := Lib.hid (below_any (p := p) HF hl)
    have hki : kidsI T p = [] := by unfold kidsI; rw [hk]; rfl
    rw [hki] at HC
    have HB0 := Lib.hid B0
    clear HF hki hk B0
    go_enter Try.func41, Try.ntmps41
    go_wp2_with fail
    refine HC.out.mono ?_
    rintro e w1 ⟨vk, rfl, O1⟩
    obtain ⟨a1, cap1, hv, _, _⟩ := O1.row.form
    subst hv
    have HO1 := Lib.hid O1
    clear O1 HC
    go_wp2_with fail
    go_loopw [5, 7] (fun l z wr => l = .slice none 0 0 ∧ z = .int .i64 0 ∧ w1 = wr) (fun _ _ _ => 0)
    case atStart => exact ⟨rfl, rfl, rfl⟩
    case round =>
      obtain ⟨rfl, rfl, rfl⟩ := hrel
      go_wp2_with fail
      go_ret
      refine ⟨_, rfl, ?_⟩
      have e : toI (vis T 0 p) = [] := by simp [vis, toI]
      rw [e]
      exact ⟨IR.nil _, (fun g hg => by cases hg), HO1.out.bel⟩
  | succ f ih =>
    intro p w hp hf B0
    have HIH := Lib.hid ih
    clear ih
    have HF := H0.below (show Below w0.heap.size w0 w from B0)
    have HC := Lib.hid (below_any (p := p) HF hl)
    have HB0 := Lib.hid B0
    have hT := H0.len
    obtain ⟨hT1, hT2, hT3⟩ := hT
    obtain ⟨i0, hi0, hz0, hz1, hz2⟩ := info_parts Try.info3
    clear HF B0
    go_enter Try.func41, Try.ntmps41
    go_wp2_with fail
    refine HC.out.mono ?_
    rintro e w1 ⟨vk, rfl, O⟩
    have N0 : Hid (VS w w1 w1 (.slice none 0 0) (.slice none 0 0) (toI (visJ T f p 0)) vk (kidsI T p)) := by
      have e : toI (visJ T f p 0) = [] := by simp [visJ, toI]
      show VS _ _ _ _ _ _ _ _
      rw [e]
      exact ⟨⟨IR.nil _, (fun g hg => by cases hg), O.bel⟩, O.row, (fun g hg e => by cases e), Ch.refl _ _, fun g hg => .inl hg⟩
    have hB1 : Hid (Below w0.heap.size w0 w1) := bthen HB0.out O.bel
    have hlJ : (kidsI T p).length = (kids T p).length := by unfold kidsI; rw [List.length_map]
    obtain ⟨a1, cap1, hv, hcap, _⟩ := O.row.form
    rw [hlJ] at hv hcap
    subst hv
    have hkl : (kids T p).length ≤ 33000 := by
      have h1 := kI_len T p 32 0
      rw [kI_done, hlJ] at h1
      have h2 : 32 * T.length ≤ 32 * 1000 := Nat.mul_le_mul (Nat.le_refl _) (by omega)
      omega
    clear O HC
    have HF := Lib.hid H0
    obtain ⟨m, hm⟩ : ∃ m, (kids T p).length = m := ⟨_, rfl⟩
    rw [hm] at N0 hcap hkl ⊢
    go_wp2_with fail
    go_loopw [5, 7] (fun l z wr => ∃ j : Nat, j ≤ m ∧ z = .int .i64 (j : Int) ∧ Hid (VS w w1 wr (.slice none 0 0) l (toI (visJ T f p j)) (.slice a1 m cap1) (kidsI T p))) (fun _ z _ => m - (intOf z).toNat)
    case atStart => exact ⟨0, by omega, rfl, N0⟩
    case round =>
      clear N0
      obtain ⟨j, hj, rfl, NN⟩ := hrel
      by_cases hjm : j < m
      · have y0 : (j : Int) < m := by omega
        have hj' : j < (kids T p).length := by omega
        have hsucc := Lib.hid (visJ_succ (T := T) (f := f) (p := p) hj')
        have hle := visJ_le T f p (j + 1)
        obtain ⟨k, hk⟩ : ∃ k, (kids T p)[j] = k := ⟨_, rfl⟩
        obtain ⟨hk1, hk2⟩ := (mem_kids V).1 (show k ∈ kids T p by rw [← hk]; exact List.getElem_mem hj')
        have hkp := (Dn.kid hk1 hk2).gt V
        have hkl' : k < len := by omega
        rw [hk] at hsucc
        obtain ⟨_, _, hvv, _, hcell⟩ := NN.out.row.form
        obtain ⟨g, hg, _, hcj⟩ := hcell j (by omega)
        rw [kidsI_at hj', hk] at hcj
        rw [hlJ, hm] at hvv
        injection hvv with e1 e2 e3
        rw [← e1] at hg
        subst hg
        clear hcell e1 e2 e3
        have hle0 : (visJ T f p j).length + 1 + (if (fAt T k).br = true then vis T f (k : Int) else []).length ≤ (vis T (f + 1) p).length := by
          rw [hsucc.out] at hle
          simp only [List.length_append, List.length_cons] at hle
          omega
        clear hle
        obtain ⟨bT, oT, rfl, hbT, _, _, hr⟩ := HF.out.at hkl'
        have hcT : Hid (∀ W, Below w0.heap.size w0 W → W.cell? ⟨bT, oT + k * 11 + 4, none⟩ = some (.bool (fAt T k).br)) := fun W hW => (hW.cell (p := ⟨bT, oT + k * 11 + 4, none⟩) hbT).trans (rangeAt.cell hr (j := 4) rfl)
        have hkI : (k : Int) < len := by omega
        obtain ⟨EJ, hEJ⟩ : ∃ EJ, toI (visJ T f p j) = EJ := ⟨_, rfl⟩
        have hEl : EJ.length + 1 + (if (fAt T k).br = true then vis T f (k : Int) else []).length ≤ 100000 := by
          rw [← hEJ, toI_len]; have := vis_len V (f + 1) p; omega
        have hEs : Hid (toI (visJ T f p (j + 1)) = EJ ++ [(k : Int)] ++ toI (if (fAt T k).br = true then vis T f (k : Int) else [])) := by
          show _ = _
          rw [hsucc.out, toI_app, hEJ, List.append_assoc]
          rfl
        rw [hEJ] at NN
        have hEl2 : EJ.length ≤ 100000 := by omega
        clear hsucc hEJ hle0 hr
        have HP := Lib.hid (IR.push NN.out.ow.row (k : Int))
        go_wp2_with (at_builtin; refine wpList_append_lies _ rfl _ _ 49 rfl 0 3 i0 _ 1 8 Try.underlying49 hi0 hz0 hz1 hz2 rfl (by omega) u5 EJ.length (EJ.map (Value.int .i64)) rfl (by exact HP.out.2) ⟨wr.heap.size, 0, none⟩ 1 1 [.int .i64 (k : Int)] rfl rfl (by exact HP.out.1) (by simp [Value.oneCell']) (by omega) (by simp only [maxLen]; omega) (by omega) (Nat.zero_le _) (wr.heap.size + 1) (by simp) ?_)
        intro g2 cap2 w4 ho hgr hat hbel
        obtain ⟨t1, t2, t3⟩ := NN.out.ow.take3 ho hgr hat
        have N2 := Lib.hid (NN.out.step t1 t2 t3)
        clear ho hgr hat t1 t2 t3 HP NN
        have c4 := hcT.out w4 (bthen HB0.out N2.out.ow.bel)
        have c5 : w4.cell? ⟨g, j, none⟩ = some (.int .i64 (k : Int)) := by
          obtain ⟨a9, c9, hvv, _, hcell⟩ := N2.out.row.form
          obtain ⟨g', hg', _, hcj'⟩ := hcell j (by omega)
          rw [kidsI_at hj', hk] at hcj'
          injection hvv with e1 e2 e3
          rw [← e1] at hg'
          injection hg' with hg'
          injection hg' with hg' _ _
          rw [hg']; exact hcj'
        cases hbr : (fAt T k).br
        · have hEs2 : Hid (toI (visJ T f p (j + 1)) = EJ ++ [(k : Int)]) := by
            show _ = _
            rw [hEs.out, hbr]; simp [toI]
          rw [hbr] at c4
          go_wp2_with fail
          go_roundw
          case rel => exact ⟨j + 1, by omega, by go_num, by rw [hEs2.out]; exact N2⟩
          case measure => simp [intOf]; omega
        · rw [hbr] at c4 hEs hEl
          have HC := Lib.hid (HIH.out (k : Int) w4 (by omega) (by omega) (bthen HB0.out N2.out.ow.bel))
          go_wp2_with fail
          refine HC.out.mono ?_
          rintro e w5 ⟨v5, rfl, o5⟩
          have HO5 := Lib.hid o5
          simp only [if_true] at hEl hEs
          have r5 : IR w5 (.slice (some ⟨g2, 0, none⟩) (EJ.length + 1) cap2) (EJ ++ [(k : Int)]) := N2.out.ow.row.ch (Ch.of_below o5.bel (fun _ => False)) (fun _ _ h => h)
          obtain ⟨v6, w6, hrun, hown6, hgr6, hat6⟩ := run_append_rows (P := Try.prog) w5 49 49 3 i0 _ 1 8 Try.underlying49 hi0 hz0 hz1 hz2 rfl (by omega) _ _ _ _ _ _ r5 o5.row (by simp [Value.oneCell']) (by simp only [maxLen, List.length_append, List.length_cons, List.length_nil, toI_len]; omega) (by simp only [List.length_append, List.length_cons, List.length_nil, toI_len]; omega)
          have N3 : Hid (VS w w1 w6 (.slice none 0 0) v6 (EJ ++ [(k : Int)] ++ toI (vis T f (k : Int))) (.slice (some ⟨g, 0, none⟩) m cap1) (kidsI T p)) := by
            have hb5 : Below w4.heap.size w4 w5 := o5.bel
            refine N2.out.step (wr := w4) ⟨?_, ?_, ?_⟩ ?_ ?_
            · exact IR.app hown6
            · intro g' hg'
              rcases hat6 with h1 | h1
              · exact N2.out.ow.new g' (by rw [← h1, hg'])
              · rw [h1] at hg'
                injection hg' with hg'
                have := hb5.size
                have := N2.out.ow.bel.size
                omega
            · exact Below.grown (bthen N2.out.ow.bel hb5) hgr6 (by have := hb5.size; have := N2.out.ow.bel.size; omega) (fun k hk => N2.out.ow.new k hk)
            · exact (Ch.of_below hb5 _).andThen (Ch.of_grown hgr6 (C := fun k => (Value.slice (some ⟨g2, 0, none⟩) (EJ.length + 1) cap2).ownBlock = some k) (fun k hk _ => hk)) (fun i hi _ => hi)
            · intro g' hg'
              rcases hat6 with h1 | h1
              · exact .inl (by rw [← h1, hg'])
              · rw [h1] at hg'
                injection hg' with hg'
                have := hb5.size
                exact .inr (by omega)
          obtain ⟨a5, cp5, hv5, hc5⟩ := HO5.out.val
          subst hv5
          clear o5 r5 hown6 hgr6 hat6 HC N2 c4 c5
          go_wp2_with (at_builtin; refine wpList_append_run rfl _ _ 49 rfl _ _ _ rfl rfl hrun ?_)
          go_wp2_with fail
          go_roundw
          case rel => exact ⟨j + 1, by omega, by go_num, by rw [hEs.out]; exact N3⟩
          case measure => simp [intOf]; omega
      · have y0 : ¬ (j : Int) < m := by omega
        have hj2 : j = (kids T p).length := by omega
        have he := visJ_end (T := T) (f := f) (p := p)
        rw [hj2, he] at NN
        go_wp2_with fail
        go_ret
        exact ⟨_, rfl, NN.out.ow⟩
end Go.Proofs.Ytedihfcbpgogoaa
