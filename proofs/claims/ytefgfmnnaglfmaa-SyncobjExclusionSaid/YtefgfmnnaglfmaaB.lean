/- state, own, ownsAbove, wait, next. Condition: numbers fit. -/
import Derived.Test.YtefgfmnnaglfmaaU
import Derived.Test.YtefgfmnnaglfmaaSh
import Derived.Deep.AppendLies
import Derived.OwnWalk
namespace Go.Proofs.Ytefgfmnnaglfmaa
open Go.RowKit
def th0 : Th := ⟨0, 0, false, 0, []⟩
def stT (s : LK) (i : Int) : Th := (s.t i).getD th0
def stS (s : LK) (i : Int) : LK := s.setT i (some (stT s i))
def LK.upT (s : LK) (i : Int) (f : Th → Th) : LK := s.setT i (some (f (stT s i)))
def LK.upO (s : LK) (i : Int) (f : Ob → Ob) : LK := s.setO i ((s.o i).map f)
theorem setT_same {s : LK} {i : Int} {x : Th} (h : s.t i = some x) : s.setT i (some x) = s := by
  unfold LK.setT
  have : (fun j => if j = i then some x else s.t j) = s.t := by
    funext j
    by_cases e : j = i
    · rw [if_pos e, e, h]
    · rw [if_neg e]
  rw [this]
section
variable {w : World} {F : Nat → Prop} {L n : Nat} {s : LK} {y : Lay}
theorem state_any {i : Int} (h : OK w F L n s y) (hi : InI i) (hn : n < 1000000) : Calls Try.prog 30 #[ptr L, .int .i64 i] w fun e w' => ∃ y', e = .returned (ptr (y'.th i)) ∧ OK w' F L (n + 1) (stS s i) y' ∧ y'.ob = y.ob ∧ y'.mo = y.mo ∧ Keep F w w' := by
  have c1 := h.c1
  have hl := h.lookT hi
  rcases hs : s.t i with _ | x
  · rw [ft_none hs] at hl
    have hb : Below w.heap.size w (w.alloc (.cells #[.int .i64 0, .int .i64 0, .bool false, .int .u64 0, .slice none 0 0] 64)) := (Below.refl _ _).alloc (Nat.le_refl _) _
    have hr : Row (w.alloc (.cells #[.int .i64 0, .int .i64 0, .bool false, .int .u64 0, .slice none 0 0] 64)) w.heap.size 64 5 (thc th0 (.slice none 0 0)) := Row.ofList w 64 _ _ 5 rfl
    obtain ⟨w', hrun, hm, hc⟩ := (h.below hb).mt.store Try.underlying3 Try.underlying54 hn hi (ptr w.heap.size) (by intro h; injection h with h; cases h)
    have hc2 : Ch (fun k => k = y.mt) w w' := (Ch.of_below hb _).andThen hc (fun _ hk _ => hk)
    have hmB : w.heap.size ≠ y.mt := by have := h.mt.lt; omega
    have e : stS s i = s.setT i (some th0) := by simp [stS, stT, hs]
    have HF : Hid (OK w' F L (n + 1) (stS s i) (y.newT i w.heap.size w.heap.size) ∧ Keep F w w') := by
      rw [e]
      exact ⟨h.addThr rfl (Nat.le_refl _) hs hc2 (hr.ch hc hmB) hm, h.bel hc2 (fun k hk => .inr (by rw [hk]; exact h.lt))⟩
    have c1' : (w.alloc (.cells #[.int .i64 0, .int .i64 0, .bool false, .int .u64 0, .slice none 0 0] 64)).cell? ⟨L, 1, none⟩ = some (.map (some y.mt)) := (h.below hb).c1
    clear h hb hr hm hc hc2 e
    go_enter Try.func30, Try.ntmps30
    go_wp2_with fail
    go_ret
    exact ⟨_, by simp [Lay.newT], HF.out.1, rfl, rfl, HF.out.2⟩
  · rw [ft_some hs] at hl
    have HF : Hid (OK w F L (n + 1) (stS s i) y) := by
      have e : stS s i = s := by unfold stS stT; rw [hs]; exact setT_same hs
      rw [e]; exact h.mono (Nat.le_succ n)
    clear h
    go_enter Try.func30, Try.ntmps30
    go_wp2_with fail
    go_ret
    exact ⟨y, rfl, HF.out, rfl, rfl, Keep.refl _ _⟩
theorem Try.info3 : (Try.prog.info? 3).map (fun i => (i.zero, i.size, i.bytes)) = some (some (.int .i64 0), 1, 8) := by kernel_rfl
def ownS (s : LK) (i id : Int) : LK := (s.upO id fun x => { x with ow := i, ct := 1 }).upT i fun t => { t with st := 1, hd := t.hd ++ [id] }
set_option maxRecDepth 100000 in
set_option maxHeartbeats 1000000 in
theorem own_any {i id : Int} {x : Ob} (h : OK w F L n s y) (hi : InI i) (hid : InI id) (hn : n < 1000000) (hs : s.o id = some x) (hl : (stT s i).hd.length ≤ 1000) : Calls Try.prog 32 #[ptr L, .int .i64 i, .int .i64 id] w fun e w' => e = .returned (.tuple #[]) ∧ PO w F L (n + 1) (ownS s i id) w' := by
  have hlk := Lib.hid (h.drew.lookO hid)
  have S0 : Hid (w.drew.cell? ⟨L, 0, none⟩ = some (.map (some y.mo)) ∧ (Instr.lookup 53 (.map (some y.mo)) (.int .i64 id) false).run Try.prog w.drew = .ok (ptr (y.ob id)) w.drew) := ⟨h.drew.c0, by rw [← fo_some (y := y) hs]; exact hlk.out⟩
  have HS := Lib.hid (state_any h.drew hi hn)
  clear hlk
  go_enter Try.func32, Try.ntmps32
  go_wp2_with fail
  refine wp_region_pl (fun X => X.cell? ⟨L, 0, none⟩ = some (.map (some y.mo)) ∧ (Instr.lookup 53 (.map (some y.mo)) (.int .i64 id) false).run Try.prog X = .ok (ptr (y.ob id)) X)
    ((0, 0) :: (1, 0) :: (2, 0) :: (3, 0) :: (4, 0) :: (5, 0) :: (6, 0) :: (7, 0) :: (8, 1) :: (9, 0) :: (10, 0) :: []) (by kernel_rfl) (by kernel_rfl) ?_
  iterate 8 (apply wpP_go; (focus rfl); (focus rfl); (focus exact S0.out); (focus (rintro X ⟨s0, s1⟩; go_simp; exact rfl)); intro K hK; go_simp; refine hK _ ?_; clear hK K)
  apply wpP_one
  focus rfl
  intro K hK
  go_simp
  refine HS.out.mono ?_
  rintro e w1 ⟨y1, rfl, h1, e1, e2, hb1⟩
  have hs1 : (stS s i).o id = some x := hs
  have S1 : Hid (w1.cell? ⟨L, 0, none⟩ = some (.map (some y.mo)) ∧ (Instr.lookup 53 (.map (some y.mo)) (.int .i64 id) false).run Try.prog w1 = .ok (ptr (y.ob id)) w1) := by
    have a := h1.c0
    have b := h1.lookO hid
    rw [fo_some hs1, e1] at b
    rw [e2] at a b
    exact ⟨a, b⟩
  refine hK _ _ S1.out ?_
  clear hK K
  iterate 2 (apply wpP_go; (focus rfl); (focus rfl); (focus exact S1.out); (focus (rintro X ⟨s0, s1⟩; go_simp; exact rfl)); intro K hK; go_simp; refine hK _ ?_; clear hK K)
  refine wpP_done ?_
  have hB1 : Hid (Keep F w w1) := (Keep.refl _ _).drew.trans hb1
  clear S0 S1 HS hb1 h
  have hT1 : (stS s i).t i = some (stT s i) := by simp [stS, LK.setT]
  generalize stT s i = t0 at *
  have bel1 := hB1
  have A2 := (h1.sOw hs1 i).sCt (LK.at_o _ _ _) 1
  rw [setO_setO] at A2
  have A3 := A2.sSt (i := i) (x := t0) hT1 1
  have hot : y1.ob id ≠ y1.th i := h1.ot hs1 hT1
  obtain ⟨lO, rO, _⟩ := h1.obj _ _ hs1
  obtain ⟨lT, rT, qT, _⟩ := h1.thr _ _ hT1
  rw [e1] at rO hot
  have o2 : w1.cell? ⟨y.ob id, 2, none⟩ = some (.int .i64 x.ow) := Row.cell rO (i := 2) (by omega)
  have o3 : w1.cell? ⟨y.ob id, 3, none⟩ = some (.int .i64 x.ct) := Row.cell rO (i := 3) (by omega)
  have f2 : w1.frozen? ⟨y.ob id, 2, none⟩ = false := Row.frozen rO 2
  have f3 : w1.frozen? ⟨y.ob id, 3, none⟩ = false := Row.frozen rO 3
  have t00 : w1.cell? ⟨y1.th i, 0, none⟩ = some (.int .i64 t0.st) := Row.cell rT (i := 0) (by omega)
  have t04 : w1.cell? ⟨y1.th i, 4, none⟩ = some (y1.hv i) := Row.cell rT (i := 4) (by omega)
  have g0 : w1.frozen? ⟨y1.th i, 0, none⟩ = false := Row.frozen rT 0
  have g4 : w1.frozen? ⟨y1.th i, 4, none⟩ = false := Row.frozen rT 4
  clear A2 rO rT h1 qT
  have HA := Lib.hid A3
  have hlT : (((stS s i).setO id (some { x with ow := i, ct := 1 })).setT i (some { t0 with st := 1 })).t i = _ := LK.at_t _ _ _
  have hz3 : (((w1.setCell ⟨y1.ob id, 2, none⟩ (.int .i64 i)).setCell ⟨y1.ob id, 3, none⟩ (.int .i64 1)).setCell ⟨y1.th i, 0, none⟩ (.int .i64 1)).heap.size = w1.heap.size := by simp [World.setCell]
  obtain ⟨hN, hAL, hNz, hzA, hT⟩ := A3.pushT hlT id w1.heap.size hz3
  have B3 : Keep F w1 (((w1.setCell ⟨y1.ob id, 2, none⟩ (.int .i64 i)).setCell ⟨y1.ob id, 3, none⟩ (.int .i64 1)).setCell ⟨y1.th i, 0, none⟩ (.int .i64 1)) := (((Keep.refl _ _).setCell (p := ⟨y1.ob id, 2, none⟩) lO _).setCell (p := ⟨y1.ob id, 3, none⟩) lO _).setCell (p := ⟨y1.th i, 0, none⟩) lT _
  rw [e1] at HA hN hAL hNz hzA hT B3
  have HN := Lib.hid hN
  have HAL := Lib.hid hAL
  have HT := Lib.hid hT
  have HB3 := Lib.hid B3
  clear A3 hN hAL hT B3
  obtain ⟨i0, hi0, hz0, hz1, hz2⟩ := info_parts Try.info3
  go_wp2_with (at_builtin; refine wpList_append_lies _ rfl _ _ 22 rfl 0 3 i0 _ 1 8 Try.underlying22 hi0 hz0 hz1 hz2 rfl (by omega) (y1.hv i) t0.hd.length (t0.hd.map (Value.int .i64)) rfl (by exact HAL.out) ⟨w1.heap.size, 0, none⟩ 1 1 [.int .i64 id] rfl rfl (by exact HN.out) (by simp [Value.oneCell']) (by omega) (by simp only [maxLen]; omega) (by omega) (by exact hNz) (w1.heap.size + 1) (by exact hzA) ?_)
  intro g cap w4 ho hg hat _
  obtain ⟨hok, c4, f4, hb4⟩ := HT.out g cap w4 ho hg hat
  have hF : PO w F L (n + 1) (ownS s i id) (w4.setCell ⟨y1.th i, 4, none⟩ (.slice (some ⟨g, 0, none⟩) (t0.hd.length + 1) cap)) := by
    have e : ownS s i id = ((((stS s i).setO id (some { x with ow := i, ct := 1 })).setT i (some { t0 with st := 1 })).setT i (some { ({ t0 with st := 1 } : Th) with hd := t0.hd ++ [id] })) := by
      have et : stT s i = t0 := by have := hT1; simpa [stS, LK.setT] using this
      rw [setT_setT]
      unfold ownS LK.upO LK.upT stS
      rw [hs]
      show (s.setO id _).setT i (some _) = ((s.setO id _).setT i _).setT i _
      rw [setT_setT]
      show (s.setO id _).setT i (some { stT s i with st := 1, hd := (stT s i).hd ++ [id] }) = _
      rw [et]
      rfl
    rw [e]
    exact ⟨⟨_, hok⟩, Keep.trans hB1.out (Keep.trans HB3.out hb4)⟩
  have HF := Lib.hid hF
  clear HT HN HAL HB3 hok hb4 ho hg hat HA hF
  go_wp2_with fail
  go_end0
  exact ⟨rfl, HF.out⟩
end
end Go.Proofs.Ytefgfmnnaglfmaa
