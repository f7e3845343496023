/- stop: the wait of a thread ended. Condition: numbers fit. -/
import Derived.Test.YtefgfmnnaglfmaaP3
namespace Go.Proofs.Ytefgfmnnaglfmaa
open Go.RowKit
def stopS (s : LK) (i st : Int) : LK := (s.upO (stT s i).ob fun x => { x with q := x.q.erase i }).upT i fun t => { t with st := st }
theorem idx_none {l : List Int} {a : Int} (h : a ∉ l) : Lib.idxOf l a = -1 := by
  unfold Lib.idxOf
  generalize 0 = k
  induction l generalizing k with
  | nil => rfl
  | cons b r ih =>
    have h1 : b ≠ a := fun e => h (by rw [e]; simp)
    have h2 : a ∉ r := fun e => h (List.mem_cons_of_mem _ e)
    simp [Lib.idxFrom, h1, ih h2]
section
variable {w : World} {F : Nat → Prop} {L n : Nat} {s : LK} {y : Lay}
set_option maxRecDepth 100000 in
set_option maxHeartbeats 1000000 in
theorem stop_any {i st : Int} {t : Th} {x : Ob} (h : OK w F L n s y) (hi : InI i) (ht : s.t i = some t) (hI : InI t.ob) (hs : s.o t.ob = some x) (hl : x.q.length ≤ 1000) :
    Calls Try.prog 38 #[ptr L, .int .i64 i, .int .i64 st] w fun e w' => e = .returned (.tuple #[]) ∧ PO w F L n (stopS s i st) w' := by
  have c1 := h.c1
  have hlt := h.lookT hi
  rw [ft_some ht] at hlt
  obtain ⟨lO, rO, qO, _⟩ := h.obj _ _ hs
  obtain ⟨lT, rT, qT, _⟩ := h.thr _ _ ht
  have hot : y.ob t.ob ≠ y.th i := h.ot hs ht
  have S1 : Hid (w.drew.cell? ⟨L, 0, none⟩ = some (.map (some y.mo)) ∧ w.drew.cell? ⟨y.th i, 1, none⟩ = some (.int .i64 t.ob) ∧ (Instr.lookup 53 (.map (some y.mo)) (.int .i64 t.ob) false).run Try.prog w.drew = .ok (ptr (y.ob t.ob)) w.drew) := ⟨h.drew.c0, Row.cell rT (i := 1) (by omega), by rw [← fo_some (y := y) hs]; exact h.drew.lookO hI⟩
  have H1 := h.drew
  have hbw : Keep F w w.drew := (Keep.refl _ _).drew
  have o4 : w.drew.cell? ⟨y.ob t.ob, 4, none⟩ = some (y.qv t.ob) := Row.cell rO (i := 4) (by omega)
  have t0 : w.drew.cell? ⟨y.th i, 0, none⟩ = some (.int .i64 t.st) := Row.cell rT (i := 0) (by omega)
  have g0 : w.drew.frozen? ⟨y.th i, 0, none⟩ = false := Row.frozen rT 0
  have qO1 : QR w.drew F (y.qv t.ob) x.q := qO
  have esT : stT s i = t := by unfold stT; rw [ht]; rfl
  by_cases hm : i ∈ x.q
  · obtain ⟨k, hk, hix, her⟩ := idx_mem hm
    rcases qO1.cases with ⟨_, e⟩ | ⟨g, cap, e⟩
    · rw [e] at hm; cases hm
    have HDO := Lib.hid fun q => H1.delO hs e hk q
    rw [e] at qO1 o4
    have HIX : Hid (Calls Try.prog 58 #[.slice (some ⟨g, 0, none⟩) x.q.length cap, .int .i64 i] w.drew fun e w' => e = .returned (.int .i64 (k : Int)) ∧ w.drew = w') := by
      have := idx_call (w := w.drew) (a := i) qO1
      rw [hix] at this
      exact this
    have HDC := Lib.hid (del_call (w := w.drew) (k := k) qO1 hk)
    have hkI : (k : Int) ≤ 1000 := by omega
    obtain ⟨vs, hvs⟩ : ∃ vs, (x.q.take k ++ x.q.drop (k + 1) ++ [0]).map (Value.int .i64) = vs := ⟨_, rfl⟩
    rw [hvs] at HDC HDO
    rw [her] at HDO
    have hsf : stopS s i st = (s.setO t.ob (some { x with q := x.q.erase i })).setT i (some { t with st := st }) := by
      unfold stopS LK.upO LK.upT
      rw [esT, hs]
      show (s.setO t.ob _).setT i (some { stT s i with st := st }) = _
      rw [esT]; rfl
    obtain ⟨m, hm'⟩ : ∃ m, x.q.length = m := ⟨_, rfl⟩
    rw [hm'] at HIX HDC HDO o4 hl
    clear h rO rT qT qO qO1 hvs her hix esT
    go_enter Try.func38, Try.ntmps38
    go_wp2_with fail
    refine wp_region_pl (fun X => X.cell? ⟨L, 0, none⟩ = some (.map (some y.mo)) ∧ X.cell? ⟨y.th i, 1, none⟩ = some (.int .i64 t.ob) ∧ (Instr.lookup 53 (.map (some y.mo)) (.int .i64 t.ob) false).run Try.prog X = .ok (ptr (y.ob t.ob)) X)
      ((0, 0) :: (1, 0) :: (2, 0) :: (3, 0) :: (4, 0) :: (5, 0) :: (6, 0) :: (7, 0) :: (8, 0) :: (9, 0) :: []) (by kernel_rfl) (by kernel_rfl) ?_
    iterate 10 (apply wpP_go; (focus rfl); (focus rfl); (focus exact S1.out); (focus (rintro X ⟨s0, s1, s2⟩; go_simp; exact rfl)); intro K hK; go_simp; refine hK _ ?_; clear hK K)
    refine wpP_done ?_
    clear S1 c1 hlt
    generalize w.drew = V at *
    go_wp2_with fail
    refine HIX.out.mono ?_
    rintro e1 w1 ⟨rfl, rfl⟩
    have hk0 : ¬ (k : Int) < 0 := by omega
    go_wp2_with fail
    refine HDC.out.mono ?_
    rintro e1 w1 ⟨rfl, q, rfl⟩
    obtain ⟨hok, c4, f4, hb⟩ := HDO.out q
    rw [e, hm'] at c4
    have htA : (s.setO t.ob (some { x with q := x.q.erase i })).t i = some t := ht
    have A := hok.sSt htA st
    obtain ⟨_, rT2, _⟩ := hok.thr _ _ htA
    have p0 := Row.cell rT2 (i := 0) (by omega)
    have pf := Row.frozen rT2 0
    have e2 : (y.setQ t.ob (.slice (some ⟨g, 0, none⟩) (m - 1) cap) V.heap.size).th i = y.th i := rfl
    rw [e2] at p0 pf A
    rw [World.frozen?_setCell] at pf
    have p0' : ((V.drewN q).setCells g 0 vs).cell? ⟨y.th i, 0, none⟩ = some (.int .i64 t.st) := by
      have h1 : (((V.drewN q).setCells g 0 vs).setCell ⟨y.ob t.ob, 4, none⟩ (.slice (some ⟨g, 0, none⟩) (m - 1) cap)).cell? ⟨y.th i, 0, none⟩ = ((V.drewN q).setCells g 0 vs).cell? ⟨y.th i, 0, none⟩ := World.cell?_setCell_other _ _ _ _ (by intro h; exact hot (congrArg Addr.block h))
      exact h1.symm.trans p0
    have hF : PO w F L n (stopS s i st) (((((V.drewN q).setCells g 0 vs).setCell ⟨y.ob t.ob, 4, none⟩ (.slice (some ⟨g, 0, none⟩) (m - 1) cap))).setCell ⟨y.th i, 0, none⟩ (.int .i64 st)) := by
      rw [hsf]
      exact ⟨⟨_, A⟩, (hbw.trans hb).trans ((Keep.refl _ _).setCell (p := ⟨y.th i, 0, none⟩) lT _)⟩
    have HF := Lib.hid hF
    clear hok hb A rT2 p0 hF HDO HDC HIX e2
    generalize (V.drewN q).setCells g 0 vs = W0 at *
    go_wp2_with fail
    go_end0
    exact ⟨rfl, HF.out⟩
  · have hsf : stopS s i st = (s.setT i (some { t with st := st })) := by
      unfold stopS LK.upO LK.upT
      rw [esT, hs, Option.map_some, List.erase_of_not_mem hm]
      have e1 : s.setO t.ob (some x) = s := by
        unfold LK.setO
        have : (fun j => if j = t.ob then some x else s.o j) = s.o := by
          funext j
          by_cases e : j = t.ob
          · rw [if_pos e, e, hs]
          · rw [if_neg e]
        rw [this]
      show (s.setO t.ob (some x)).setT i (some { stT (s.setO t.ob (some x)) i with st := st }) = _
      rw [e1, esT]
    have HIX : Hid (Calls Try.prog 58 #[y.qv t.ob, .int .i64 i] w.drew fun e w' => e = .returned (.int .i64 (-1)) ∧ w.drew = w') := by
      rcases qO1.cases with ⟨e, e2⟩ | ⟨g, cap, e⟩
      · rw [e]
        have := Try.slices_Index_int_empty none 0 i w.drew
        exact this.mono fun e w' ⟨h1, h2⟩ => ⟨h1, h2.symm⟩
      · rw [e] at qO1 ⊢
        have := idx_call (w := w.drew) (a := i) qO1
        rw [idx_none hm] at this
        exact this
    have A := H1.sSt ht st
    have hF : PO w F L n (stopS s i st) (w.drew.setCell ⟨y.th i, 0, none⟩ (.int .i64 st)) := by
      rw [hsf]
      exact ⟨⟨_, A⟩, hbw.trans ((Keep.refl _ _).setCell (p := ⟨y.th i, 0, none⟩) lT _)⟩
    have HF := Lib.hid hF
    clear h rO rT qT qO qO1 esT hF A
    go_enter Try.func38, Try.ntmps38
    go_wp2_with fail
    refine wp_region_pl (fun X => X.cell? ⟨L, 0, none⟩ = some (.map (some y.mo)) ∧ X.cell? ⟨y.th i, 1, none⟩ = some (.int .i64 t.ob) ∧ (Instr.lookup 53 (.map (some y.mo)) (.int .i64 t.ob) false).run Try.prog X = .ok (ptr (y.ob t.ob)) X)
      ((0, 0) :: (1, 0) :: (2, 0) :: (3, 0) :: (4, 0) :: (5, 0) :: (6, 0) :: (7, 0) :: (8, 0) :: (9, 0) :: []) (by kernel_rfl) (by kernel_rfl) ?_
    iterate 10 (apply wpP_go; (focus rfl); (focus rfl); (focus exact S1.out); (focus (rintro X ⟨s0, s1, s2⟩; go_simp; exact rfl)); intro K hK; go_simp; refine hK _ ?_; clear hK K)
    refine wpP_done ?_
    clear S1 c1 hlt
    generalize w.drew = V at *
    go_wp2_with fail
    refine HIX.out.mono ?_
    rintro e1 w1 ⟨rfl, rfl⟩
    go_wp2_with fail
    go_end0
    exact ⟨rfl, HF.out⟩
end
end Go.Proofs.Ytefgfmnnaglfmaa
