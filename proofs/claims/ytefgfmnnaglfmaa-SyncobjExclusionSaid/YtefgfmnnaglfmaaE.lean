/- free. Condition: numbers fit. -/
import Derived.Test.YtefgfmnnaglfmaaD
namespace Go.Proofs.Ytefgfmnnaglfmaa
open Go.RowKit
theorem idx_mem {l : List Int} {a : Int} (h : a ∈ l) : ∃ k, k < l.length ∧ Lib.idxOf l a = (k : Int) ∧ l.eraseIdx k = l.erase a := by
  have hk := List.idxOf_lt_length_of_mem h
  refine ⟨l.idxOf a, hk, ?_, (List.erase_eq_eraseIdx_of_idxOf rfl).symm⟩
  have := Lib.idxFrom_hit a l (l.idxOf a) 0 hk (by rw [List.getD_eq_getElem?_getD, List.getElem?_eq_getElem hk]; exact List.getElem_idxOf hk) (fun j hj e => by
    rw [List.getD_eq_getElem?_getD, List.getElem?_eq_getElem (by omega)] at e
    have h1 := List.not_of_lt_findIdx (p := fun b => b == a) hj
    rw [beq_eq_false_iff_ne] at h1
    exact h1 e)
  rw [Nat.zero_add] at this
  exact this
theorem idx_call {w : World} {F : Nat → Prop} {g cap : Nat} {l : List Int} {a : Int} (hq : QR w F (.slice (some ⟨g, 0, none⟩) l.length cap) l) : Calls Try.prog 58 #[.slice (some ⟨g, 0, none⟩) l.length cap, .int .i64 a] w fun e w' => e = .returned (.int .i64 (Lib.idxOf l a)) ∧ w = w' := by
  obtain ⟨_, q1, q2, q3, q4⟩ := hq.cell
  have := Try.slices_Index_int g 0 l.length cap l a w (Nat.le_refl _) (by unfold maxLen at q2; omega) q3
  rw [List.take_length] at this
  exact this.mono fun e w' ⟨h1, h2⟩ => ⟨h1, h2.symm⟩
/-- The mutex id is taken from its owner and given to the first that waits. -/
def takeS (s : LK) (id : Int) (x : Ob) : LK := (s.upT x.ow fun t => { t with hd := t.hd.erase id }).setO id (some { x with ow := 0, ct := 0 })
def giveS (s : LK) (id : Int) (x : Ob) : LK := match x.q with
  | [] => s
  | a :: r => ownS (s.setO id (some { x with q := r })) a id
def freeS (s : LK) (id : Int) : LK := match s.o id with
  | some x => giveS (takeS s id x) id { x with ow := 0, ct := 0 }
  | none => s
section
variable {w : World} {F : Nat → Prop} {L n : Nat} {s : LK} {y : Lay}
set_option maxRecDepth 100000 in
set_option maxHeartbeats 2000000 in
theorem free_any {id : Int} {x : Ob} {t : Th} (h : OK w F L n s y) (hid : InI id) (hn : n < 1000000) (hs : s.o id = some x) (ht : s.t x.ow = some t) (hI : InI x.ow) (hm : id ∈ t.hd) (hql : x.q.length ≤ 1000) (hqI : ∀ a ∈ x.q, InI a)
    (hcap : ∀ i t, s.t i = some t → t.hd.length ≤ 1000) : Calls Try.prog 34 #[ptr L, .int .i64 id] w fun e w' => e = .returned (.tuple #[]) ∧ PO w F L (n + 1) (freeS s id) w' := by
  have hlo := h.lookO hid
  rw [fo_some hs] at hlo
  have c0 := h.c0
  obtain ⟨lO, rO, qO, _⟩ := h.obj _ _ hs
  obtain ⟨lT, rT, qT, _⟩ := h.thr _ _ ht
  have hot : y.ob id ≠ y.th x.ow := h.ot hs ht
  rcases qT.cases with ⟨_, e⟩ | ⟨g, cap, e⟩
  · rw [e] at hm; cases hm
  obtain ⟨k, hk, hix, her⟩ := idx_mem hm
  have S1 : Hid (w.drew.cell? ⟨L, 1, none⟩ = some (.map (some y.mt)) ∧ w.drew.cell? ⟨y.ob id, 2, none⟩ = some (.int .i64 x.ow) ∧ (Instr.lookup 54 (.map (some y.mt)) (.int .i64 x.ow) false).run Try.prog w.drew = .ok (ptr (y.th x.ow)) w.drew) := ⟨h.drew.c1, Row.cell rO (i := 2) (by omega), by rw [← ft_some (y := y) ht]; exact h.drew.lookT hI⟩
  have H1 := h.drew
  rw [e] at qT
  have HIX : Hid (Calls Try.prog 58 #[.slice (some ⟨g, 0, none⟩) t.hd.length cap, .int .i64 id] w.drew fun e w' => e = .returned (.int .i64 (k : Int)) ∧ w.drew = w') := by
    have := idx_call (w := w.drew) (a := id) qT
    rw [hix] at this
    exact this
  have HDC := Lib.hid (del_call (w := w.drew) (k := k) qT hk)
  have HDO := Lib.hid fun q => H1.delT ht e hk q
  have t4 : w.drew.cell? ⟨y.th x.ow, 4, none⟩ = some (.slice (some ⟨g, 0, none⟩) t.hd.length cap) := by rw [← e]; exact Row.cell rT (i := 4) (by omega)
  have hkI : (k : Int) ≤ 1000 := by have := hcap _ _ ht; omega
  have hbw : Keep F w w.drew := (Keep.refl _ _).drew
  obtain ⟨vs, hvs⟩ : ∃ vs, (t.hd.take k ++ t.hd.drop (k + 1) ++ [0]).map (Value.int .i64) = vs := ⟨_, rfl⟩
  rw [hvs] at HDC HDO
  rw [her] at HDO
  have hcl := hcap _ _ ht
  obtain ⟨m, hm'⟩ : ∃ m, t.hd.length = m := ⟨_, rfl⟩
  rw [hm'] at HIX HDC HDO t4 hcl
  clear h rO rT qT qO hvs her hix
  go_enter Try.func34, Try.ntmps34
  go_wp2_with fail
  refine wp_region_pl (fun X => X.cell? ⟨L, 1, none⟩ = some (.map (some y.mt)) ∧ X.cell? ⟨y.ob id, 2, none⟩ = some (.int .i64 x.ow) ∧ (Instr.lookup 54 (.map (some y.mt)) (.int .i64 x.ow) false).run Try.prog X = .ok (ptr (y.th x.ow)) X)
    ((0, 0) :: (1, 0) :: (2, 0) :: (3, 0) :: (4, 0) :: (5, 0) :: (6, 0) :: (7, 0) :: (8, 0) :: (9, 0) :: []) (by kernel_rfl) (by kernel_rfl) ?_
  iterate 10 (apply wpP_go; (focus rfl); (focus rfl); (focus exact S1.out); (focus (rintro X ⟨s0, s1, s2⟩; go_simp; exact rfl)); intro K hK; go_simp; refine hK _ ?_; clear hK K)
  refine wpP_done ?_
  clear S1 c0 hlo
  generalize w.drew = V at *
  go_wp2_with fail
  refine HIX.out.mono ?_
  rintro e1 w1 ⟨rfl, rfl⟩
  go_wp2_with fail
  refine HDC.out.mono ?_
  rintro e1 w1 ⟨rfl, q, rfl⟩
  obtain ⟨hok, c4, f4, hb⟩ := HDO.out q
  rw [e] at c4
  have s1o : (s.setT x.ow (some { t with hd := t.hd.erase id })).o id = some x := hs
  have A := (hok.sOw s1o 0).sCt (LK.at_o _ _ _) 0
  rw [setO_setO] at A
  obtain ⟨lO2, rO2, _⟩ := hok.obj _ _ s1o
  have oth : ∀ W0 : World, ∀ u, ∀ j, (W0.setCell ⟨y.th x.ow, 4, none⟩ u).cell? ⟨y.ob id, j, none⟩ = W0.cell? ⟨y.ob id, j, none⟩ := fun W0 u j => World.cell?_setCell_other _ _ _ _ (by intro h; exact hot (congrArg Addr.block h).symm)
  have o2 := Row.cell rO2 (i := 2) (by omega)
  have o3 := Row.cell rO2 (i := 3) (by omega)
  have p2 := Row.frozen rO2 2
  have p3 := Row.frozen rO2 3
  have e2 : (y.setH x.ow (.slice (some ⟨g, 0, none⟩) (m - 1) cap) V.heap.size).ob id = y.ob id := rfl
  rw [e2] at o2 o3 p2 p3 A
  rw [oth] at o2 o3
  rw [World.frozen?_setCell] at p2 p3
  have o2' : ((V.drewN q).setCells g 0 vs).cell? ⟨y.ob id, 2, none⟩ = some (.int .i64 x.ow) := o2
  have o3' : ((V.drewN q).setCells g 0 vs).cell? ⟨y.ob id, 3, none⟩ = some (.int .i64 x.ct) := o3
  have bA : Keep F w ((((V.drewN q).setCells g 0 vs).setCell ⟨y.th x.ow, 4, none⟩ (.slice (some ⟨g, 0, none⟩) (m - 1) cap)).setCell ⟨y.ob id, 2, none⟩ (.int .i64 0) |>.setCell ⟨y.ob id, 3, none⟩ (.int .i64 0)) := ((hbw.trans hb).setCell (p := ⟨y.ob id, 2, none⟩) lO _).setCell (p := ⟨y.ob id, 3, none⟩) lO _
  have hsA : ((s.setT x.ow (some { t with hd := t.hd.erase id })).setO id (some { x with ow := 0, ct := 0 })).o id = some { x with ow := 0, ct := 0 } := LK.at_o _ _ _
  have htk : takeS s id x = (s.setT x.ow (some { t with hd := t.hd.erase id })).setO id (some { x with ow := 0, ct := 0 }) := by
    unfold takeS LK.upT stT
    rw [ht]; rfl
  have hfr : freeS s id = giveS (takeS s id x) id { x with ow := 0, ct := 0 } := by unfold freeS; rw [hs]
  rw [htk] at hfr
  have hcapA : ∀ i t', ((s.setT x.ow (some { t with hd := t.hd.erase id })).setO id (some { x with ow := 0, ct := 0 })).t i = some t' → t'.hd.length ≤ 1000 := fun i t' h => by
    by_cases ei : i = x.ow
    · subst ei
      have : ({ t with hd := t.hd.erase id } : Th) = t' := by simpa [LK.setO, LK.setT] using h
      rw [← this]
      have h1 := List.length_erase_le (a := id) (l := t.hd)
      have h2 := hcap _ _ ht
      show (t.hd.erase id).length ≤ 1000
      omega
    · exact hcap i t' (by simpa [LK.setO, LK.setT, ei] using h)
  generalize (s.setT x.ow (some { t with hd := t.hd.erase id })).setO id (some { x with ow := 0, ct := 0 }) = sA at A hsA hfr hcapA
  have HA := Lib.hid A
  have HBA := Lib.hid bA
  clear o2 o3 rO2 hok hb oth A bA e2
  generalize (V.drewN q).setCells g 0 vs = W0 at *
  rcases hxq : x.q with _ | ⟨a, r⟩
  · have HC := Lib.hid (next_nil HA.out hsA hxq)
    have hfr2 : freeS s id = sA := by rw [hfr]; unfold giveS; show (match x.q with | [] => sA | a :: r => _) = sA; rw [hxq]
    clear HIX HDC HDO
    go_wp2_with fail
    refine HC.out.mono ?_
    rintro e1 w1 ⟨rfl, rfl⟩
    have hF : PO w F L (n + 1) sA _ := ⟨⟨_, HA.out.mono (Nat.le_succ n)⟩, HBA.out⟩
    rw [← hfr2] at hF
    have HF := Lib.hid hF
    clear hF
    clear HC
    go_wp2_with fail
    go_end0
    exact ⟨rfl, HF.out⟩
  · have HC := Lib.hid (next_cons HA.out hsA hxq (by exact hql))
    have hfr2 : freeS s id = ownS (sA.setO id (some { ({ x with ow := 0, ct := 0 } : Ob) with q := r })) a id := by rw [hfr]; unfold giveS; show (match x.q with | [] => sA | a :: r => _) = _; rw [hxq]
    have haI : InI a := hqI a (by rw [hxq]; simp)
    clear HIX HDC HDO
    go_wp2_with fail
    refine HC.out.mono ?_
    rintro e1 w1 ⟨rfl, ⟨y2, h2, _, _⟩, hb2⟩
    have HO := Lib.hid (own_any h2 haI hid hn (LK.at_o _ _ _) (by
      unfold stT
      rcases hst : sA.t a with _ | ta
      · show ((sA.t a).getD th0).hd.length ≤ 1000
        rw [hst]; show ([] : List Int).length ≤ 1000; simp
      · show ((sA.t a).getD th0).hd.length ≤ 1000
        rw [hst]; exact hcapA a ta hst))
    have HB2 : Hid (Keep F w w1) := HBA.out.trans hb2
    clear HC h2 hb2 HA HBA
    go_wp2_with fail
    refine HO.out.mono ?_
    rintro e1 w2 ⟨rfl, hy, hb3⟩
    have hF : PO w F L (n + 1) (freeS s id) w2 := by rw [hfr2]; exact ⟨hy, Keep.trans HB2.out hb3⟩
    have HF := Lib.hid hF
    clear HO hy hb3 hF
    go_wp2_with fail
    go_end0
    exact ⟨rfl, HF.out⟩
end
end Go.Proofs.Ytefgfmnnaglfmaa
