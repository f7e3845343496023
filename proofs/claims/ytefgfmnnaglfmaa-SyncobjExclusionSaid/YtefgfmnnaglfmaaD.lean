/- wait, free. Condition: numbers fit. -/
import Derived.Test.YtefgfmnnaglfmaaC
namespace Go.Proofs.Ytefgfmnnaglfmaa
open Go.RowKit
def dlv (now to : Int) : Int := if IntKind.u64.wrap (now + to) < now then 18446744073709551615 else IntKind.u64.wrap (now + to)
def waitS (s : LK) (i id now to : Int) : Int × LK :=
  if to = 0 then (3, s.upT i fun t => { t with st := 3 })
  else (2, (s.upT i fun t => { t with st := 2, ob := id, en := decide (65535 ≤ to), dl := dlv now to }).upO id fun x => { x with q := x.q ++ [i] })
section
variable {w : World} {F : Nat → Prop} {L n : Nat} {s : LK} {y : Lay}
set_option maxRecDepth 100000 in
set_option maxHeartbeats 2000000 in
theorem wait_any {i id now to : Int} {x : Ob} (h : OK w F L n s y) (hi : InI i) (hid : InI id) (hn : n < 1000000) (hs : s.o id = some x) (hl : x.q.length ≤ 1000) :
    Calls Try.prog 33 #[ptr L, .int .i64 i, .int .i64 id, .int .u64 now, .int .u64 to] w fun e w' => e = .returned (.int .i64 (waitS s i id now to).1) ∧ PO w F L (n + 1) (waitS s i id now to).2 w' := by
  have hlk := Lib.hid (h.drew.lookO hid)
  have S0 : Hid (w.drew.cell? ⟨L, 0, none⟩ = some (.map (some y.mo)) ∧ (Instr.lookup 53 (.map (some y.mo)) (.int .i64 id) false).run Try.prog w.drew = .ok (ptr (y.ob id)) w.drew) := ⟨h.drew.c0, by rw [← fo_some (y := y) hs]; exact hlk.out⟩
  have HS := Lib.hid (state_any h.drew hi hn)
  clear hlk
  obtain ⟨rc, hrc⟩ : ∃ rc, (waitS s i id now to).1 = rc := ⟨_, rfl⟩
  obtain ⟨sf, hsf⟩ : ∃ sf, (waitS s i id now to).2 = sf := ⟨_, rfl⟩
  rw [hrc, hsf]
  go_enter Try.func33, Try.ntmps33
  go_wp2_with fail
  refine wp_region_pl (fun X => X.cell? ⟨L, 0, none⟩ = some (.map (some y.mo)) ∧ (Instr.lookup 53 (.map (some y.mo)) (.int .i64 id) false).run Try.prog X = .ok (ptr (y.ob id)) X)
    ((0, 0) :: (1, 0) :: (2, 0) :: (3, 0) :: (4, 0) :: (5, 0) :: (6, 0) :: (7, 0) :: (8, 1) :: (9, 0) :: (10, 0) :: []) (by kernel_rfl) (by kernel_rfl) ?_
  iterate 8 (apply wpP_go; (focus rfl); (focus rfl); (focus exact S0.out); (focus (rintro X ⟨s0, s1⟩; go_simp; exact rfl)); intro K hK; go_simp; refine hK _ ?_; clear hK K)
  apply wpP_one
  focus rfl
  intro K hK
  go_simp
  refine HS.out.mono ?_
  rintro e w1 ⟨y1, rfl, h1, e1, e2, hb1⟩
  have hs1 : (stS s i).o id = some x := hs
  have S1 : Hid (w1.cell? ⟨L, 0, none⟩ = some (.map (some y.mo)) ∧ (Instr.lookup 53 (.map (some y.mo)) (.int .i64 id) false).run Try.prog w1 = .ok (ptr (y.ob id)) w1) := by
    have a := h1.c0
    have b := h1.lookO hid
    rw [fo_some hs1, e1] at b
    rw [e2] at a b
    exact ⟨a, b⟩
  refine hK _ _ S1.out ?_
  clear hK K
  iterate 2 (apply wpP_go; (focus rfl); (focus rfl); (focus exact S1.out); (focus (rintro X ⟨s0, s1⟩; go_simp; exact rfl)); intro K hK; go_simp; refine hK _ ?_; clear hK K)
  refine wpP_done ?_
  have hB1 : Hid (Keep F w w1) := (Keep.refl _ _).drew.trans hb1
  clear S0 S1 HS hb1 h
  have hT1 : (stS s i).t i = some (stT s i) := by simp [stS, LK.setT]
  have hot : y1.ob id ≠ y1.th i := h1.ot hs1 hT1
  obtain ⟨lO, rO, _⟩ := h1.obj _ _ hs1
  obtain ⟨lT, rT, qT, _⟩ := h1.thr _ _ hT1
  rw [e1] at rO hot lO
  obtain ⟨t0, ht0⟩ : ∃ t0, stT s i = t0 := ⟨_, rfl⟩
  rw [ht0] at hT1 rT qT
  have o4 : w1.cell? ⟨y.ob id, 4, none⟩ = some (y1.qv id) := Row.cell rO (i := 4) (by omega)
  have f4 : w1.frozen? ⟨y.ob id, 4, none⟩ = false := Row.frozen rO 4
  have t00 : w1.cell? ⟨y1.th i, 0, none⟩ = some (.int .i64 t0.st) := Row.cell rT (i := 0) (by omega)
  have t01 : w1.cell? ⟨y1.th i, 1, none⟩ = some (.int .i64 t0.ob) := Row.cell rT (i := 1) (by omega)
  have t02 : w1.cell? ⟨y1.th i, 2, none⟩ = some (.bool t0.en) := Row.cell rT (i := 2) (by omega)
  have t03 : w1.cell? ⟨y1.th i, 3, none⟩ = some (.int .u64 t0.dl) := Row.cell rT (i := 3) (by omega)
  have g0 : w1.frozen? ⟨y1.th i, 0, none⟩ = false := Row.frozen rT 0
  have g1 : w1.frozen? ⟨y1.th i, 1, none⟩ = false := Row.frozen rT 1
  have g2 : w1.frozen? ⟨y1.th i, 2, none⟩ = false := Row.frozen rT 2
  have g3 : w1.frozen? ⟨y1.th i, 3, none⟩ = false := Row.frozen rT 3
  clear rO rT qT
  by_cases hto : to = 0
  · subst hto
    have hF : PO w F L (n + 1) sf (w1.setCell ⟨y1.th i, 0, none⟩ (.int .i64 3)) := by
      have A := h1.sSt hT1 3
      have e : sf = (stS s i).setT i (some { t0 with st := 3 }) := by
        rw [← hsf]; unfold waitS; rw [if_pos rfl]
        unfold LK.upT stS
        rw [setT_setT, ht0]
      rw [e]
      exact ⟨⟨_, A⟩, hB1.out.trans ((Keep.refl _ _).setCell (p := ⟨y1.th i, 0, none⟩) lT _)⟩
    have HF := Lib.hid hF
    obtain rfl : (3 : Int) = rc := by rw [← hrc]; unfold waitS; rw [if_pos rfl]
    clear hF h1
    go_wp2_with fail
    go_ret
    exact ⟨rfl, HF.out⟩
  · have d0 : (to == 0) = false := by simpa using hto
    obtain rfl : (2 : Int) = rc := by rw [← hrc]; unfold waitS; rw [if_neg hto]
    have A := (((h1.sSt hT1 2).sTo (LK.at_t _ _ _) id).sEn (LK.at_t _ _ _) (decide (65535 ≤ to))).sDl (LK.at_t _ _ _) (IntKind.u64.wrap (now + to))
    rw [setT_setT, setT_setT, setT_setT] at A
    obtain ⟨i0, hi0, hz0, hz1, hz2⟩ := info_parts Try.info3
    have B := (((((Keep.refl F w1).setCell (p := ⟨y1.th i, 0, none⟩) lT (.int .i64 2)).setCell (p := ⟨y1.th i, 1, none⟩) lT (.int .i64 id)).setCell (p := ⟨y1.th i, 2, none⟩) lT (.bool (decide (65535 ≤ to)))).setCell (p := ⟨y1.th i, 3, none⟩) lT (.int .u64 (IntKind.u64.wrap (now + to))))
    have hge : decide (to ≥ 65535) = decide (65535 ≤ to) := rfl
    generalize hD : IntKind.u64.wrap (now + to) = D at A B
    have A0 := A
    have B0 := B
    clear A B
    by_cases hw : D < now
    · have d1 : decide (D < now) = true := by simpa using hw
      have A := A0.sDl (LK.at_t _ _ _) 18446744073709551615
      rw [setT_setT] at A
      have B := B0.setCell (p := ⟨y1.th i, 3, none⟩) lT (.int .u64 18446744073709551615)
      have hdl : dlv now to = 18446744073709551615 := by unfold dlv; rw [hD, if_pos hw]
      have hz : (((((w1.setCell ⟨y1.th i, 0, none⟩ (.int .i64 2)).setCell ⟨y1.th i, 1, none⟩ (.int .i64 id)).setCell ⟨y1.th i, 2, none⟩ (.bool (decide (65535 ≤ to)))).setCell ⟨y1.th i, 3, none⟩ (.int .u64 D)).setCell ⟨y1.th i, 3, none⟩ (.int .u64 18446744073709551615)).heap.size = w1.heap.size := by simp [World.setCell]
      obtain ⟨hN, hAL, hNz, hzA, hT⟩ := A.pushO (i := id) (x := x) hs1 i w1.heap.size hz
      have HN := Lib.hid hN
      have HAL := Lib.hid hAL
      have hsf2 : sf = (((stS s i).setT i (some { t0 with st := 2, ob := id, en := decide (65535 ≤ to), dl := dlv now to })).setO id (some { x with q := x.q ++ [i] })) := by
        rw [← hsf]; unfold waitS; rw [if_neg hto]
        show ((s.upT i _).upO id _) = _
        unfold LK.upO LK.upT stS
        rw [setT_setT, ht0]
        show (s.setT i _).setO id ((s.o id).map _) = _
        rw [hs]; rfl
      have HT : Hid (∀ g cap w', w'.ownsRow 0 3 1 (.slice (some ⟨g, 0, none⟩) (x.q.length + 1) cap) (x.q.length + 1) (x.q.map (Value.int .i64) ++ [.int .i64 i]) → ((((((w1.setCell ⟨y1.th i, 0, none⟩ (.int .i64 2)).setCell ⟨y1.th i, 1, none⟩ (.int .i64 id)).setCell ⟨y1.th i, 2, none⟩ (.bool (decide (65535 ≤ to)))).setCell ⟨y1.th i, 3, none⟩ (.int .u64 D)).setCell ⟨y1.th i, 3, none⟩ (.int .u64 18446744073709551615)).alloc (.cells #[.int .i64 i] 3)).grownBy w' (y1.qv id).ownBlock → ((y1.qv id).ownBlock = some g ∨ g = w1.heap.size + 1) →
          PO w F L (n + 1) sf (w'.setCell ⟨y.ob id, 4, none⟩ (.slice (some ⟨g, 0, none⟩) (x.q.length + 1) cap)) ∧ w'.cell? ⟨y.ob id, 4, none⟩ = some (y1.qv id) ∧ w'.frozen? ⟨y.ob id, 4, none⟩ = false ∧ w'.cell? ⟨y1.th i, 0, none⟩ = some (.int .i64 2)) := by
        intro g cap w' a b c
        obtain ⟨hok, c4, f4', hb⟩ := hT g cap w' a b c
        have hth : w'.cell? ⟨y1.th i, 0, none⟩ = some (.int .i64 2) := by
          have hr := (hok.thr i _ (LK.at_t (stS s i) i _)).2.1
          have h1' := Row.cell hr (i := 0) (by omega)
          have h2' : (w'.setCell ⟨y1.ob id, 4, none⟩ (.slice (some ⟨g, 0, none⟩) (x.q.length + 1) cap)).cell? ⟨y1.th i, 0, none⟩ = w'.cell? ⟨y1.th i, 0, none⟩ := World.cell?_setCell_other _ _ _ _ (by intro h; have := congrArg Addr.off h; simp at this)
          exact h2'.symm.trans h1'
        rw [e1] at hok c4 f4' hb
        rw [hsf2, hdl]
        exact ⟨⟨⟨_, hok⟩, hB1.out.trans (B.trans hb)⟩, c4, f4', hth⟩
      clear A A0 B0 B hN hAL hT h1 hsf2
      go_wp2_with (at_builtin; refine wpList_append_lies _ rfl _ _ 22 rfl 0 3 i0 _ 1 8 Try.underlying22 hi0 hz0 hz1 hz2 rfl (by omega) (y1.qv id) x.q.length (x.q.map (Value.int .i64)) rfl (by exact HAL.out) ⟨w1.heap.size, 0, none⟩ 1 1 [.int .i64 i] rfl rfl (by exact HN.out) (by simp [Value.oneCell']) (by omega) (by simp only [maxLen]; omega) (by omega) (by exact hNz) (w1.heap.size + 1) (by exact hzA) ?_)
      intro g cap w4 ho hg hat _
      obtain ⟨hF, c4, f4', c0⟩ := HT.out g cap w4 ho hg hat
      have HF := Lib.hid hF
      clear HT HN HAL ho hg hat hF
      go_wp2_with fail
      go_ret
      exact ⟨rfl, HF.out⟩
    · have d1 : decide (D < now) = false := by simpa using hw
      have A := A0
      have B := B0
      have hdl : dlv now to = D := by unfold dlv; rw [hD, if_neg hw]
      have hz : ((((w1.setCell ⟨y1.th i, 0, none⟩ (.int .i64 2)).setCell ⟨y1.th i, 1, none⟩ (.int .i64 id)).setCell ⟨y1.th i, 2, none⟩ (.bool (decide (65535 ≤ to)))).setCell ⟨y1.th i, 3, none⟩ (.int .u64 D)).heap.size = w1.heap.size := by simp [World.setCell]
      obtain ⟨hN, hAL, hNz, hzA, hT⟩ := A.pushO (i := id) (x := x) hs1 i w1.heap.size hz
      have HN := Lib.hid hN
      have HAL := Lib.hid hAL
      have hsf2 : sf = (((stS s i).setT i (some { t0 with st := 2, ob := id, en := decide (65535 ≤ to), dl := dlv now to })).setO id (some { x with q := x.q ++ [i] })) := by
        rw [← hsf]; unfold waitS; rw [if_neg hto]
        show ((s.upT i _).upO id _) = _
        unfold LK.upO LK.upT stS
        rw [setT_setT, ht0]
        show (s.setT i _).setO id ((s.o id).map _) = _
        rw [hs]; rfl
      have HT : Hid (∀ g cap w', w'.ownsRow 0 3 1 (.slice (some ⟨g, 0, none⟩) (x.q.length + 1) cap) (x.q.length + 1) (x.q.map (Value.int .i64) ++ [.int .i64 i]) → (((((w1.setCell ⟨y1.th i, 0, none⟩ (.int .i64 2)).setCell ⟨y1.th i, 1, none⟩ (.int .i64 id)).setCell ⟨y1.th i, 2, none⟩ (.bool (decide (65535 ≤ to)))).setCell ⟨y1.th i, 3, none⟩ (.int .u64 D)).alloc (.cells #[.int .i64 i] 3)).grownBy w' (y1.qv id).ownBlock → ((y1.qv id).ownBlock = some g ∨ g = w1.heap.size + 1) →
          PO w F L (n + 1) sf (w'.setCell ⟨y.ob id, 4, none⟩ (.slice (some ⟨g, 0, none⟩) (x.q.length + 1) cap)) ∧ w'.cell? ⟨y.ob id, 4, none⟩ = some (y1.qv id) ∧ w'.frozen? ⟨y.ob id, 4, none⟩ = false ∧ w'.cell? ⟨y1.th i, 0, none⟩ = some (.int .i64 2)) := by
        intro g cap w' a b c
        obtain ⟨hok, c4, f4', hb⟩ := hT g cap w' a b c
        have hth : w'.cell? ⟨y1.th i, 0, none⟩ = some (.int .i64 2) := by
          have hr := (hok.thr i _ (LK.at_t (stS s i) i _)).2.1
          have h1' := Row.cell hr (i := 0) (by omega)
          have h2' : (w'.setCell ⟨y1.ob id, 4, none⟩ (.slice (some ⟨g, 0, none⟩) (x.q.length + 1) cap)).cell? ⟨y1.th i, 0, none⟩ = w'.cell? ⟨y1.th i, 0, none⟩ := World.cell?_setCell_other _ _ _ _ (by intro h; have := congrArg Addr.off h; simp at this)
          exact h2'.symm.trans h1'
        rw [e1] at hok c4 f4' hb
        rw [hsf2, hdl]
        exact ⟨⟨⟨_, hok⟩, hB1.out.trans (B.trans hb)⟩, c4, f4', hth⟩
      clear A A0 B0 B hN hAL hT h1 hsf2
      go_wp2_with (at_builtin; refine wpList_append_lies _ rfl _ _ 22 rfl 0 3 i0 _ 1 8 Try.underlying22 hi0 hz0 hz1 hz2 rfl (by omega) (y1.qv id) x.q.length (x.q.map (Value.int .i64)) rfl (by exact HAL.out) ⟨w1.heap.size, 0, none⟩ 1 1 [.int .i64 i] rfl rfl (by exact HN.out) (by simp [Value.oneCell']) (by omega) (by simp only [maxLen]; omega) (by omega) (by exact hNz) (w1.heap.size + 1) (by exact hzA) ?_)
      intro g cap w4 ho hg hat _
      obtain ⟨hF, c4, f4', c0⟩ := HT.out g cap w4 ho hg hat
      have HF := Lib.hid hF
      clear HT HN HAL ho hg hat hF
      go_wp2_with fail
      go_ret
      exact ⟨rfl, HF.out⟩
end
end Go.Proofs.Ytefgfmnnaglfmaa
