/- visit, Visit: program and reference. No condition but that the topology is valid (visit). -/
import Derived.Test.YtedihfcbpgogoaaR
namespace Go.Proofs.Ytedihfcbpgogoaa
open Go.RowKit
def Far (w : World) (v v' : Value) : Prop := ∀ g, v'.ownBlock = some g → v.ownBlock = some g ∨ w.heap.size ≤ g
/-- Rows under way beside a row of children. -/
structure VS (w0 w wr : World) (v vr : Value) (E : List Int) (vk : Value) (K : List Int) : Prop where
  ow : OW w0 wr vr E
  row : IR wr vk K
  ne : ∀ g, vk.ownBlock = some g → vr.ownBlock ≠ some g
  ch : Ch (fun k => v.ownBlock = some k) w wr
  far : Far w v vr
theorem IR.lt {w : World} {v : Value} {E : List Int} (h : IR w v E) : ∀ g, v.ownBlock = some g → g < w.heap.size := fun g hg => (World.ownsRow.lt h g hg).2
theorem VS.step {w0 w wr w' : World} {v vr v2 : Value} {E E2 : List Int} {vk : Value} {K : List Int} (h : VS w0 w wr v vr E vk K) (o : OW w0 w' v2 E2) (c : Ch (fun k => vr.ownBlock = some k) wr w') (f : Far wr vr v2) : VS w0 w w' v v2 E2 vk K where
  ow := o
  row := h.row.ch c (fun g hg => h.ne g hg)
  ne g hg e := by
    rcases f g e with h1 | h1
    · exact h.ne g hg h1
    · have := h.row.lt g hg; omega
  ch := h.ch.andThen c (fun i hi hl => by
    rcases h.far i hi with h1 | h1
    · exact h1
    · omega)
  far g hg := by
    rcases f g hg with h1 | h1
    · exact h.far g h1
    · have := h.ch.size; exact .inr (by omega)
theorem OW.take3 {w0 wr w3 : World} {v : Value} {E : List Int} {x : Int} {g cap : Nat} (h : OW w0 wr v E)
    (ho : w3.ownsRow 0 3 1 (.slice (some ⟨g, 0, none⟩) (E.length + 1) cap) (E.length + 1) (E.map (Value.int .i64) ++ [.int .i64 x])) (hg3 : (wr.alloc (.cells #[.int .i64 x] 3)).grownBy w3 v.ownBlock) (hat : v.ownBlock = some g ∨ g = wr.heap.size + 1) :
    OW w0 w3 (.slice (some ⟨g, 0, none⟩) (E.length + 1) cap) (E ++ [x]) ∧ Ch (fun k => v.ownBlock = some k) wr w3 ∧ Far wr v (.slice (some ⟨g, 0, none⟩) (E.length + 1) cap) :=
  ⟨h.take ho hg3 hat, (((Ch.refl _ wr).alloc _).andThen (Ch.of_grown hg3 (C := fun k => v.ownBlock = some k) (fun k hk _ => hk)) (fun i hi _ => hi)), fun k hk => by
    have e : g = k := by simpa [Value.ownBlock] using hk
    subst e
    rcases hat with h1 | h1
    · exact .inl h1
    · exact .inr (by omega)⟩
def VisP (w0 w : World) (v : Value) (E : List Int) (e : Ending) (w' : World) : Prop := ∃ v', e = .returned v' ∧ OW w0 w' v' E ∧ Ch (fun k => v.ownBlock = some k) w w' ∧ Far w v v'
theorem OW.val {w0 w : World} {v : Value} {E : List Int} (h : OW w0 w v E) : ∃ a cap, v = .slice a E.length cap ∧ E.length ≤ cap := by
  obtain ⟨a, c, e, h, _⟩ := h.row.form
  exact ⟨a, c, e, h⟩
set_option maxRecDepth 100000 in
set_option maxHeartbeats 4000000 in
theorem visit_any {w0 : World} {a : Option Addr} {len cap : Nat} {T : List Fn} (V : VT T) (H0 : FnS w0 a len cap T) (hl : len ≤ 1000) :
    ∀ (f : Nat) (p : Int) (E : List Int) (v : Value) (w : World), -1 ≤ p → (T.length : Int) - p ≤ f → OW w0 w v E → E.length + (vis T f p).length ≤ 100000 →
      Calls Try.prog 39 #[.slice a len cap, .int .i64 p, v] w (VisP w0 w v (E ++ toI (vis T f p))) := by
  intro f
  induction f with
  | zero =>
    intro p E v w hp hf O hbd
    have HF := H0.below (show Below w0.heap.size w0 w from O.bel)
    have hk : kids T p = [] := List.eq_nil_iff_forall_not_mem.2 fun k hk => by
      obtain ⟨h1, h2⟩ := (mem_kids V).1 hk
      have := (Dn.kid h1 h2).gt V; omega
    have HC := Lib.hid (on_any (p := p) V HF hl)
    have hki : kidsI T p = [] := by unfold kidsI; rw [hk]; rfl
    rw [hki] at HC
    have HO := Lib.hid O
    clear HF hki hk O
    go_enter Try.func39, Try.ntmps39
    go_wp2_with fail
    refine HC.out.mono ?_
    rintro e w1 ⟨vk, rfl, O1⟩
    obtain ⟨a1, cap1, hv, _, _⟩ := O1.row.form
    subst hv
    have HO1 := Lib.hid O1
    clear O1 HC
    go_wp2_with fail
    go_loopw [2, 8, 13] (fun l _ z wr => l = v ∧ z = .int .i64 0 ∧ w1 = wr) (fun _ _ _ _ => 0)
    case atStart => exact ⟨rfl, rfl, rfl⟩
    case round =>
      obtain ⟨rfl, rfl, rfl⟩ := hrel
      go_wp2_with fail
      go_ret
      refine ⟨_, rfl, ?_, Ch.of_below HO1.out.bel _, fun g hg => .inl hg⟩
      have e : E ++ toI (vis T 0 p) = E := by simp [vis, toI]
      rw [e]
      exact HO.out.step HO1.out.bel
  | succ f ih =>
    intro p E v w hp hf O hbd
    have HIH := Lib.hid ih
    clear ih
    have HF := H0.below (show Below w0.heap.size w0 w from O.bel)
    have HC := Lib.hid (on_any (p := p) V HF hl)
    have HO := Lib.hid O
    have hT := H0.len
    obtain ⟨hT1, hT2, hT3⟩ := hT
    obtain ⟨i0, hi0, hz0, hz1, hz2⟩ := info_parts Try.info3
    clear HF O
    go_enter Try.func39, Try.ntmps39
    go_wp2_with fail
    refine HC.out.mono ?_
    rintro e w1 ⟨vk, rfl, O⟩
    have N0 : Hid (VS w0 w w1 v v (E ++ toI (visJ T f p 0)) vk (kidsI T p)) := by
      have e : E ++ toI (visJ T f p 0) = E := by simp [visJ, toI]
      show VS _ _ _ _ _ _ _ _
      rw [e]
      exact ⟨HO.out.step O.bel, O.row, (fun g hg e => by have := O.new g hg; have := HO.out.row.lt g e; omega), Ch.of_below O.bel _, fun g hg => .inl hg⟩
    have hlJ : (kidsI T p).length = (kids T p).length := by unfold kidsI; rw [List.length_map]
    obtain ⟨a1, cap1, hv, hcap, _⟩ := O.row.form
    rw [hlJ] at hv hcap
    subst hv
    have hkl : (kids T p).length ≤ 33000 := by
      have h1 := kI_len T p 32 0
      rw [kI_done, hlJ] at h1
      have h2 : 32 * T.length ≤ 32 * 1000 := Nat.mul_le_mul (Nat.le_refl _) (by omega)
      omega
    clear O HC
    have HF := Lib.hid H0
    obtain ⟨m, hm⟩ : ∃ m, (kids T p).length = m := ⟨_, rfl⟩
    rw [hm] at N0 hcap hkl ⊢
    go_wp2_with fail
    go_loopw [2, 8, 13] (fun l _ z wr => ∃ j : Nat, j ≤ m ∧ z = .int .i64 (j : Int) ∧ Hid (VS w0 w wr v l (E ++ toI (visJ T f p j)) (.slice a1 m cap1) (kidsI T p))) (fun _ _ z _ => m - (intOf z).toNat)
    case atStart => exact ⟨0, by omega, rfl, N0⟩
    case round =>
      clear N0
      obtain ⟨j, hj, rfl, NN⟩ := hrel
      by_cases hjm : j < m
      · have y0 : (j : Int) < m := by omega
        have hj' : j < (kids T p).length := by omega
        have hsucc := Lib.hid (visJ_succ (T := T) (f := f) (p := p) hj')
        have hle := visJ_le T f p (j + 1)
        obtain ⟨k, hk⟩ : ∃ k, (kids T p)[j] = k := ⟨_, rfl⟩
        obtain ⟨hk1, hk2⟩ := (mem_kids V).1 (show k ∈ kids T p by rw [← hk]; exact List.getElem_mem hj')
        have hkp := (Dn.kid hk1 hk2).gt V
        have hkl' : k < len := by omega
        rw [hk] at hsucc
        obtain ⟨_, _, hvv, _, hcell⟩ := NN.out.row.form
        obtain ⟨g, hg, _, hcj⟩ := hcell j (by omega)
        rw [kidsI_at hj', hk] at hcj
        rw [hlJ, hm] at hvv
        injection hvv with e1 e2 e3
        rw [← e1] at hg
        subst hg
        clear hcell e1 e2 e3
        have hle0 : (visJ T f p j).length + 1 + (if (fAt T k).br = true then vis T f (k : Int) else []).length ≤ (vis T (f + 1) p).length := by
          rw [hsucc.out] at hle
          simp only [List.length_append, List.length_cons] at hle
          omega
        clear hle
        obtain ⟨bT, oT, rfl, hbT, _, _, hr⟩ := HF.out.at hkl'
        have hcT : Hid (∀ W, Below w0.heap.size w0 W → W.cell? ⟨bT, oT + k * 11 + 4, none⟩ = some (.bool (fAt T k).br)) := fun W hW => (hW.cell (p := ⟨bT, oT + k * 11 + 4, none⟩) hbT).trans (rangeAt.cell hr (j := 4) rfl)
        have hkI : (k : Int) < len := by omega
        obtain ⟨EJ, hEJ⟩ : ∃ EJ, E ++ toI (visJ T f p j) = EJ := ⟨_, rfl⟩
        have hEl : EJ.length + 1 + (if (fAt T k).br = true then vis T f (k : Int) else []).length ≤ 100000 := by
          rw [← hEJ, List.length_append, toI_len]; omega
        have hEs : Hid (E ++ toI (visJ T f p (j + 1)) = EJ ++ [(k : Int)] ++ toI (if (fAt T k).br = true then vis T f (k : Int) else [])) := by
          show _ = _
          rw [hsucc.out, toI_app, ← List.append_assoc, hEJ, List.append_assoc]
          rfl
        rw [hEJ] at NN
        have hEl2 : EJ.length ≤ 100000 := by omega
        clear hsucc hEJ hle0 hr
        have HP := Lib.hid (IR.push NN.out.ow.row (k : Int))
        go_wp2_with (at_builtin; refine wpList_append_lies _ rfl _ _ 49 rfl 0 3 i0 _ 1 8 Try.underlying49 hi0 hz0 hz1 hz2 rfl (by omega) u2 EJ.length (EJ.map (Value.int .i64)) rfl (by exact HP.out.2) ⟨wr.heap.size, 0, none⟩ 1 1 [.int .i64 (k : Int)] rfl rfl (by exact HP.out.1) (by simp [Value.oneCell']) (by omega) (by simp only [maxLen]; omega) (by omega) (Nat.zero_le _) (wr.heap.size + 1) (by simp) ?_)
        intro g2 cap2 w4 ho hgr hat hbel
        obtain ⟨t1, t2, t3⟩ := NN.out.ow.take3 ho hgr hat
        have N2 := Lib.hid (NN.out.step t1 t2 t3)
        clear ho hgr hat t1 t2 t3 HP NN
        have c4 := hcT.out w4 N2.out.ow.bel
        cases hbr : (fAt T k).br
        · have hEs2 : Hid (E ++ toI (visJ T f p (j + 1)) = EJ ++ [(k : Int)]) := by
            show _ = _
            rw [hEs.out, hbr]; simp [toI]
          rw [hbr] at c4
          go_wp2_with fail
          go_roundw
          case rel => exact ⟨j + 1, by omega, by go_num, by rw [hEs2.out]; exact N2⟩
          case measure => simp [intOf]; omega
        · rw [hbr] at c4 hEs hEl
          have HC := Lib.hid (HIH.out (k : Int) (EJ ++ [(k : Int)]) _ w4 (by omega) (by omega) N2.out.ow (by
            rw [List.length_append]; simp only [if_true, List.length_cons, List.length_nil] at hEl ⊢; omega))
          go_wp2_with fail
          refine HC.out.mono ?_
          rintro e w5 ⟨v5, rfl, o5, c5, f5⟩
          have N3 := Lib.hid (N2.out.step o5 c5 f5)
          clear o5 c5 f5 HC N2 c4
          go_wp2_with fail
          go_roundw
          case rel => exact ⟨j + 1, by omega, by go_num, by rw [hEs.out]; exact N3⟩
          case measure => simp [intOf]; omega
      · have y0 : ¬ (j : Int) < m := by omega
        have hj2 : j = (kids T p).length := by omega
        have he := visJ_end (T := T) (f := f) (p := p)
        rw [hj2, he] at NN
        go_wp2_with fail
        go_ret
        exact ⟨_, rfl, NN.out.ow, NN.out.ch, NN.out.far⟩
end Go.Proofs.Ytedihfcbpgogoaa
