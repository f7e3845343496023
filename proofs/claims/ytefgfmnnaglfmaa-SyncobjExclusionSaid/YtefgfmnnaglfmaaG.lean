/- Release, Signal, Reset, Wait. Condition: numbers fit; what a thread holds is there. -/
import Derived.Test.YtefgfmnnaglfmaaF
namespace Go.Proofs.Ytefgfmnnaglfmaa
open Go.RowKit
def sigS (s : LK) (id : Int) : Int × LK := match s.o id with
  | none => (6, s)
  | some x => if x.mx = true then (6, s) else match x.q with
    | a :: r => (0, (s.setO id (some { x with q := r })).upT a fun t => { t with st := 1 })
    | [] => if 255 ≤ x.ct then (11, s) else (0, s.setO id (some { x with ct := x.ct + 1 }))
def rstS (s : LK) (id : Int) : Int × LK := match s.o id with
  | none => (6, s)
  | some x => if x.mx = true then (6, s) else (0, s.setO id (some { x with ct := 0 }))
def wtS (s : LK) (i id now to : Int) : Int × Int × LK := match s.o id with
  | none => (0, 6, s)
  | some x => if x.mx = true then (0, 6, s) else if stat s i = 2 then (0, 9, s) else if 0 < x.ct then (1, 0, (s.setO id (some { x with ct := x.ct - 1 })).upT i fun t => { t with st := 1 })
    else ((waitS s i id now to).1, 0, (waitS s i id now to).2)
section
variable {w : World} {F : Nat → Prop} {L n : Nat} {s : LK} {y : Lay}
set_option maxRecDepth 100000 in
set_option maxHeartbeats 2000000 in
theorem release_any {i id : Int} (h : OK w F L n s y) (hi : InI i) (hid : InI id) (hn : n < 1000000) (hq : ∀ x, s.o id = some x → x.q.length ≤ 1000 ∧ 0 ≤ x.ct ∧ x.ct ≤ 255 ∧ ∀ a ∈ x.q, InI a) (hh : ∀ k ∈ (stT s i).hd, InI k ∧ (s.o k).isSome = true)
    (hcap : ∀ i t, s.t i = some t → t.hd.length ≤ 1000) (hown : ∀ x, s.o id = some x → x.mx = true → 0 < x.ct → x.ow = i → ∃ t, s.t i = some t ∧ id ∈ t.hd) :
    Calls Try.prog 14 #[ptr L, .int .i64 i, .int .i64 id] w fun e w' => e = .returned (.int .i64 (relS s i id).1) ∧ PO w F L (n + 1) (relS s i id).2 w' := by
  have P0 := Lib.hid (PO.same h (Nat.le_succ n))
  have hlen : (stT s i).hd.length ≤ 1000 := by
    unfold stT
    rcases hst : s.t i with _ | t
    · show ([] : List Int).length ≤ 1000; simp
    · exact hcap i t hst
  obtain ⟨r, hr⟩ : ∃ r, relS s i id = r := ⟨_, rfl⟩
  rw [hr]
  by_cases hmx : ∀ x, s.o id = some x → x.mx ≠ true
  · have HF := Lib.hid (find_no h hid hmx)
    have e : r = (6, s) := by
      rw [← hr]; unfold relS
      rcases hs : s.o id with _ | x
      · rfl
      · show (if x.mx = false then _ else _) = _
        rw [if_pos (by simpa using hmx x hs)]
    subst e
    clear h hr
    go_enter Try.func14, Try.ntmps14
    go_wp2_with fail
    refine HF.out.mono ?_
    rintro e w1 ⟨rfl, rfl⟩
    go_wp2_with fail
    go_ret
    exact ⟨rfl, P0.out⟩
  obtain ⟨x, hs, hx⟩ : ∃ x, s.o id = some x ∧ x.mx = true := by
    apply Classical.byContradiction
    intro hno
    exact hmx fun x h1 h2 => hno ⟨x, h1, h2⟩
  have HF := Lib.hid (find_yes h hid hs)
  rw [hx] at HF
  unfold relS at hr
  rw [hs] at hr
  have hr' : (if x.mx = false then ((6, s) : Int × LK) else if x.ct = 0 ∨ x.ow ≠ i ∨ above s i x.lv = true then (13, s) else if x.ct = 1 then (0, freeS (s.setO id (some { x with ct := x.ct - 1 })) id) else (0, s.setO id (some { x with ct := x.ct - 1 }))) = r := hr
  clear hr
  rw [if_neg (by rw [hx]; simp)] at hr'
  obtain ⟨lO, rO, qO, _⟩ := h.obj _ _ hs
  have o1 : w.cell? ⟨y.ob id, 1, none⟩ = some (.int .i64 x.lv) := Row.cell rO (i := 1) (by omega)
  have o2 : w.cell? ⟨y.ob id, 2, none⟩ = some (.int .i64 x.ow) := Row.cell rO (i := 2) (by omega)
  have o3 : w.cell? ⟨y.ob id, 3, none⟩ = some (.int .i64 x.ct) := Row.cell rO (i := 3) (by omega)
  have f3 : w.frozen? ⟨y.ob id, 3, none⟩ = false := Row.frozen rO 3
  obtain ⟨hql, hct0, hct1, hqI⟩ := hq x hs
  by_cases h1 : x.ct = 0
  · rw [if_pos (.inl h1)] at hr'
    subst hr'
    rw [h1] at o3
    clear h rO qO
    go_enter Try.func14, Try.ntmps14
    go_wp2_with fail
    refine HF.out.mono ?_
    rintro e w1 ⟨rfl, rfl⟩
    go_wp2_with fail
    go_ret
    exact ⟨rfl, P0.out⟩
  have d1 : (x.ct == 0) = false := by simpa using h1
  by_cases h2 : x.ow = i
  case neg =>
    rw [if_pos (.inr (.inl h2))] at hr'
    subst hr'
    have d2 : (x.ow != i) = true := by simpa using h2
    have d2' : (x.ow == i) = false := by simpa using h2
    clear h rO qO
    generalize x.ct = ct at *
    generalize x.ow = ow at *
    go_enter Try.func14, Try.ntmps14
    go_wp2_with fail
    refine HF.out.mono ?_
    rintro e w1 ⟨rfl, rfl⟩
    go_wp2_with fail
    go_ret
    exact ⟨rfl, P0.out⟩
  have d2 : (x.ow != i) = false := by simpa using h2
  have d2' : (x.ow == i) = true := by simpa using h2
  have HA := Lib.hid (ownsAbove_any (lv := x.lv) h hi hh hlen)
  by_cases h3 : above s i x.lv = true
  · rw [if_pos (.inr (.inr h3))] at hr'
    subst hr'
    rw [h3] at HA
    clear h rO qO h2
    generalize x.ct = ct at *
    generalize x.ow = ow at *
    go_enter Try.func14, Try.ntmps14
    go_wp2_with fail
    refine HF.out.mono ?_
    rintro e w1 ⟨rfl, rfl⟩
    go_wp2_with fail
    refine HA.out.mono ?_
    rintro e w1 ⟨rfl, rfl⟩
    go_wp2_with fail
    go_ret
    exact ⟨rfl, P0.out⟩
  have h3' : above s i x.lv = false := by simpa using h3
  rw [h3'] at HA
  rw [if_neg (by rintro (h | h | h); exact h1 h; exact h h2; exact h3 h)] at hr'
  have hw1 : IntKind.i64.wrap (x.ct - 1) = x.ct - 1 := IntWalk.i64_in _ (by omega)
  have A := h.sCt hs (x.ct - 1)
  have BA : Hid (Keep F w (w.setCell ⟨y.ob id, 3, none⟩ (.int .i64 (x.ct - 1)))) := (Keep.refl _ _).setCell (p := ⟨y.ob id, 3, none⟩) lO _
  by_cases h4 : x.ct = 1
  · rw [if_pos h4] at hr'
    subst hr'
    obtain ⟨t, ht, hm⟩ := hown x hs hx (by omega) h2
    have HFR := Lib.hid (free_any (x := { x with ct := x.ct - 1 }) (t := t) A hid hn (LK.at_o _ _ _) (by show s.t x.ow = some t; rw [h2]; exact ht) (by show InI x.ow; rw [h2]; exact hi) hm hql hqI hcap)
    have d4 : (x.ct - 1 == 0) = true := by rw [h4]; rfl
    have d4' : x.ct - 1 = 0 := by omega
    obtain ⟨sF, hsF⟩ : ∃ sF, freeS (s.setO id (some { x with ct := x.ct - 1 })) id = sF := ⟨_, rfl⟩
    rw [hsF] at HFR ⊢
    rw [d4'] at HFR BA hw1
    have o3' : w.cell? ⟨y.ob id, 3, none⟩ = some (.int .i64 1) := by rw [← h4]; exact o3
    clear h rO qO h2 A hsF o3 hw1 d4 d4' d1 h1
    generalize x.ct = ct at *
    generalize x.ow = ow at *
    go_enter Try.func14, Try.ntmps14
    go_wp2_with fail
    refine HF.out.mono ?_
    rintro e w1 ⟨rfl, rfl⟩
    go_wp2_with fail
    refine HA.out.mono ?_
    rintro e w1 ⟨rfl, rfl⟩
    go_wp2_with fail
    refine HFR.out.mono ?_
    rintro e w1 ⟨rfl, hy, hb⟩
    have HP : Hid (PO w F L (n + 1) sF w1) := ⟨hy, BA.out.trans hb⟩
    clear hy hb HFR
    go_wp2_with fail
    go_ret
    exact ⟨rfl, HP.out⟩
  · rw [if_neg h4] at hr'
    subst hr'
    have d4 : (x.ct - 1 == 0) = false := by rw [beq_eq_false_iff_ne]; omega
    have hF : PO w F L (n + 1) (s.setO id (some { x with ct := x.ct - 1 })) (w.setCell ⟨y.ob id, 3, none⟩ (.int .i64 (x.ct - 1))) := ⟨⟨_, A.mono (Nat.le_succ n)⟩, BA.out⟩
    have HP := Lib.hid hF
    clear h rO qO h2 A hF BA
    generalize s.setO id (some { x with ct := x.ct - 1 }) = sF at *
    generalize x.ct = ct at *
    generalize x.ow = ow at *
    go_enter Try.func14, Try.ntmps14
    go_wp2_with fail
    refine HF.out.mono ?_
    rintro e w1 ⟨rfl, rfl⟩
    go_wp2_with fail
    refine HA.out.mono ?_
    rintro e w1 ⟨rfl, rfl⟩
    go_wp2_with fail
    go_ret
    exact ⟨rfl, HP.out⟩
set_option maxRecDepth 100000 in
set_option maxHeartbeats 2000000 in
theorem reset_any {id : Int} (h : OK w F L n s y) (hid : InI id) :
    Calls Try.prog 20 #[ptr L, .int .i64 id] w fun e w' => e = .returned (.int .i64 (rstS s id).1) ∧ PO w F L (n + 1) (rstS s id).2 w' := by
  have P0 := Lib.hid (PO.same h (Nat.le_succ n))
  obtain ⟨r, hr⟩ : ∃ r, rstS s id = r := ⟨_, rfl⟩
  rw [hr]
  by_cases hmx : ∀ x, s.o id = some x → x.mx ≠ false
  · have HF := Lib.hid (find_no h hid hmx)
    have e : r = (6, s) := by
      rw [← hr]; unfold rstS
      rcases hs : s.o id with _ | x
      · rfl
      · show (if x.mx = true then _ else _) = _
        rw [if_pos (by simpa using hmx x hs)]
    subst e
    clear h hr
    go_enter Try.func20, Try.ntmps20
    go_wp2_with fail
    refine HF.out.mono ?_
    rintro e w1 ⟨rfl, rfl⟩
    go_wp2_with fail
    go_ret
    exact ⟨rfl, P0.out⟩
  obtain ⟨x, hs, hx⟩ : ∃ x, s.o id = some x ∧ x.mx = false := by
    apply Classical.byContradiction
    intro hno
    exact hmx fun x h1 h2 => hno ⟨x, h1, h2⟩
  have HF := Lib.hid (find_yes h hid hs)
  rw [hx] at HF
  unfold rstS at hr
  rw [hs] at hr
  have hr' : (if x.mx = true then ((6, s) : Int × LK) else (0, s.setO id (some { x with ct := 0 }))) = r := hr
  clear hr
  rw [if_neg (by rw [hx]; simp)] at hr'
  subst hr'
  obtain ⟨lO, rO, qO, _⟩ := h.obj _ _ hs
  have o1 : w.cell? ⟨y.ob id, 1, none⟩ = some (.int .i64 x.lv) := Row.cell rO (i := 1) (by omega)
  have o2 : w.cell? ⟨y.ob id, 2, none⟩ = some (.int .i64 x.ow) := Row.cell rO (i := 2) (by omega)
  have o3 : w.cell? ⟨y.ob id, 3, none⟩ = some (.int .i64 x.ct) := Row.cell rO (i := 3) (by omega)
  have f3 : w.frozen? ⟨y.ob id, 3, none⟩ = false := Row.frozen rO 3
  have A := h.sCt hs 0
  have BA : Hid (Keep F w (w.setCell ⟨y.ob id, 3, none⟩ (.int .i64 0))) := (Keep.refl _ _).setCell (p := ⟨y.ob id, 3, none⟩) lO _
  have hF : PO w F L (n + 1) (s.setO id (some { x with ct := 0 })) (w.setCell ⟨y.ob id, 3, none⟩ (.int .i64 0)) := ⟨⟨_, A.mono (Nat.le_succ n)⟩, BA.out⟩
  have HP := Lib.hid hF
  clear h rO qO A hF BA
  go_enter Try.func20, Try.ntmps20
  go_wp2_with fail
  refine HF.out.mono ?_
  rintro e w1 ⟨rfl, rfl⟩
  go_wp2_with fail
  go_ret
  exact ⟨rfl, HP.out⟩
set_option maxRecDepth 100000 in
set_option maxHeartbeats 2000000 in
theorem signal_any {id : Int} (h : OK w F L n s y) (hid : InI id) (hq : ∀ x, s.o id = some x → x.q.length ≤ 1000 ∧ 0 ≤ x.ct ∧ x.ct ≤ 255 ∧ ∀ a ∈ x.q, InI a ∧ (s.t a).isSome = true) :
    Calls Try.prog 19 #[ptr L, .int .i64 id] w fun e w' => e = .returned (.int .i64 (sigS s id).1) ∧ PO w F L (n + 1) (sigS s id).2 w' := by
  have P0 := Lib.hid (PO.same h (Nat.le_succ n))
  obtain ⟨r, hr⟩ : ∃ r, sigS s id = r := ⟨_, rfl⟩
  rw [hr]
  by_cases hmx : ∀ x, s.o id = some x → x.mx ≠ false
  · have HF := Lib.hid (find_no h hid hmx)
    have e : r = (6, s) := by
      rw [← hr]; unfold sigS
      rcases hs : s.o id with _ | x
      · rfl
      · show (if x.mx = true then _ else _) = _
        rw [if_pos (by simpa using hmx x hs)]
    subst e
    clear h hr
    go_enter Try.func19, Try.ntmps19
    go_wp2_with fail
    refine HF.out.mono ?_
    rintro e w1 ⟨rfl, rfl⟩
    go_wp2_with fail
    go_ret
    exact ⟨rfl, P0.out⟩
  obtain ⟨x, hs, hx⟩ : ∃ x, s.o id = some x ∧ x.mx = false := by
    apply Classical.byContradiction
    intro hno
    exact hmx fun x h1 h2 => hno ⟨x, h1, h2⟩
  have HF := Lib.hid (find_yes h hid hs)
  rw [hx] at HF
  unfold sigS at hr
  rw [hs] at hr
  obtain ⟨hql, hct0, hct1, hqI⟩ := hq x hs
  obtain ⟨lO, rO, qO, _⟩ := h.obj _ _ hs
  have o1 : w.cell? ⟨y.ob id, 1, none⟩ = some (.int .i64 x.lv) := Row.cell rO (i := 1) (by omega)
  have o2 : w.cell? ⟨y.ob id, 2, none⟩ = some (.int .i64 x.ow) := Row.cell rO (i := 2) (by omega)
  have o3 : w.cell? ⟨y.ob id, 3, none⟩ = some (.int .i64 x.ct) := Row.cell rO (i := 3) (by omega)
  have f3 : w.frozen? ⟨y.ob id, 3, none⟩ = false := Row.frozen rO 3
  rcases hxq : x.q with _ | ⟨a, rr⟩
  · have hr' : (if 255 ≤ x.ct then ((11, s) : Int × LK) else (0, s.setO id (some { x with ct := x.ct + 1 }))) = r := by
      rw [← hr]
      refine Eq.symm ?_
      show (if x.mx = true then ((6, s) : Int × LK) else _) = _
      rw [if_neg (by rw [hx]; simp), hxq]
    clear hr
    have HN := Lib.hid (next_nil h hs hxq)
    by_cases h1 : 255 ≤ x.ct
    · rw [if_pos h1] at hr'
      subst hr'
      have d1 : decide (x.ct ≥ 255) = true := by simpa using h1
      clear h rO qO
      generalize x.ct = ct at *
      go_enter Try.func19, Try.ntmps19
      go_wp2_with fail
      refine HF.out.mono ?_
      rintro e w1 ⟨rfl, rfl⟩
      go_wp2_with fail
      refine HN.out.mono ?_
      rintro e w1 ⟨rfl, rfl⟩
      go_wp2_with fail
      go_ret
      exact ⟨rfl, P0.out⟩
    · rw [if_neg h1] at hr'
      subst hr'
      have d1 : decide (x.ct ≥ 255) = false := by simpa using h1
      have hw1 : IntKind.i64.wrap (x.ct + 1) = x.ct + 1 := IntWalk.i64_in _ (by omega)
      have A := h.sCt hs (x.ct + 1)
      have BA : Hid (Keep F w (w.setCell ⟨y.ob id, 3, none⟩ (.int .i64 (x.ct + 1)))) := (Keep.refl _ _).setCell (p := ⟨y.ob id, 3, none⟩) lO _
      have hF : PO w F L (n + 1) (s.setO id (some { x with ct := x.ct + 1 })) (w.setCell ⟨y.ob id, 3, none⟩ (.int .i64 (x.ct + 1))) := ⟨⟨_, A.mono (Nat.le_succ n)⟩, BA.out⟩
      have HP := Lib.hid hF
      clear h rO qO A hF BA
      generalize s.setO id (some { x with ct := x.ct + 1 }) = sF at *
      generalize x.ct = ct at *
      go_enter Try.func19, Try.ntmps19
      go_wp2_with fail
      refine HF.out.mono ?_
      rintro e w1 ⟨rfl, rfl⟩
      go_wp2_with fail
      refine HN.out.mono ?_
      rintro e w1 ⟨rfl, rfl⟩
      go_wp2_with fail
      go_ret
      exact ⟨rfl, HP.out⟩
  · have hr' : ((0, (s.setO id (some { x with q := rr })).upT a fun t => { t with st := 1 }) : Int × LK) = r := by
      rw [← hr]
      refine Eq.symm ?_
      show (if x.mx = true then ((6, s) : Int × LK) else _) = _
      rw [if_neg (by rw [hx]; simp), hxq]
    clear hr
    subst hr'
    have HN := Lib.hid (next_cons h hs hxq hql)
    obtain ⟨haI, hta⟩ := hqI a (by rw [hxq]; simp)
    obtain ⟨t, ht⟩ := Option.isSome_iff_exists.1 hta
    obtain ⟨sA, hsA⟩ : ∃ sA, s.setO id (some { x with q := rr }) = sA := ⟨_, rfl⟩
    have htA : sA.t a = some t := by rw [← hsA]; exact ht
    rw [hsA] at HN ⊢
    clear h rO qO hsA
    go_enter Try.func19, Try.ntmps19
    go_wp2_with fail
    refine HF.out.mono ?_
    rintro e w1 ⟨rfl, rfl⟩
    go_wp2_with fail
    refine HN.out.mono ?_
    rintro e w1 ⟨rfl, ⟨y1, h1, e5, e6⟩, hb1⟩
    clear e5 e6
    have A := h1.sSt htA 1
    obtain ⟨lT, rT, _⟩ := h1.thr _ _ htA
    have t0 : w1.cell? ⟨y1.th a, 0, none⟩ = some (.int .i64 t.st) := Row.cell rT (i := 0) (by omega)
    have g0 : w1.frozen? ⟨y1.th a, 0, none⟩ = false := Row.frozen rT 0
    have c1 := h1.c1
    have hlk := h1.lookT haI
    rw [ft_some htA] at hlk
    have hF : PO w F L (n + 1) (sA.upT a fun t => { t with st := 1 }) (w1.setCell ⟨y1.th a, 0, none⟩ (.int .i64 1)) := by
      have e : sA.upT a (fun t => { t with st := 1 }) = sA.setT a (some { t with st := 1 }) := by unfold LK.upT stT; rw [htA]; rfl
      rw [e]
      exact ⟨⟨_, A.mono (Nat.le_succ n)⟩, hb1.trans ((Keep.refl _ _).setCell (p := ⟨y1.th a, 0, none⟩) lT _)⟩
    have HP := Lib.hid hF
    clear h1 rT A hF hb1 HN
    go_wp2_with fail
    go_ret
    exact ⟨rfl, HP.out⟩
set_option maxRecDepth 100000 in
set_option maxHeartbeats 2000000 in
theorem waitE_any {i id now to : Int} (h : OK w F L n s y) (hi : InI i) (hid : InI id) (hn : n < 1000000) (hq : ∀ x, s.o id = some x → x.q.length ≤ 1000 ∧ 0 ≤ x.ct ∧ x.ct ≤ 255) :
    Calls Try.prog 21 #[ptr L, .int .i64 i, .int .i64 id, .int .u64 now, .int .u64 to] w fun e w' => e = .returned (.tuple #[.int .i64 (wtS s i id now to).1, .int .i64 (wtS s i id now to).2.1]) ∧ PO w F L (n + 1) (wtS s i id now to).2.2 w' := by
  have P0 := Lib.hid (PO.same h (Nat.le_succ n))
  obtain ⟨r, hr⟩ : ∃ r, wtS s i id now to = r := ⟨_, rfl⟩
  rw [hr]
  by_cases hmx : ∀ x, s.o id = some x → x.mx ≠ false
  · have HF := Lib.hid (find_no h hid hmx)
    have e : r = (0, 6, s) := by
      rw [← hr]; unfold wtS
      rcases hs : s.o id with _ | x
      · rfl
      · show (if x.mx = true then _ else _) = _
        rw [if_pos (by simpa using hmx x hs)]
    subst e
    clear h hr
    go_enter Try.func21, Try.ntmps21
    go_wp2_with fail
    refine HF.out.mono ?_
    rintro e w1 ⟨rfl, rfl⟩
    go_wp2_with fail
    go_ret2
    exact ⟨rfl, P0.out⟩
  obtain ⟨x, hs, hx⟩ : ∃ x, s.o id = some x ∧ x.mx = false := by
    apply Classical.byContradiction
    intro hno
    exact hmx fun x h1 h2 => hno ⟨x, h1, h2⟩
  have HF := Lib.hid (find_yes h hid hs)
  rw [hx] at HF
  unfold wtS at hr
  rw [hs] at hr
  have hr' : (if x.mx = true then ((0, 6, s) : Int × Int × LK) else if stat s i = 2 then (0, 9, s) else if 0 < x.ct then (1, 0, (s.setO id (some { x with ct := x.ct - 1 })).upT i fun t => { t with st := 1 })
    else ((waitS s i id now to).1, 0, (waitS s i id now to).2)) = r := hr
  clear hr
  rw [if_neg (by rw [hx]; simp)] at hr'
  have HS := Lib.hid (status_any h hi)
  obtain ⟨hql, hct0, hct1⟩ := hq x hs
  obtain ⟨lO, rO, qO, _⟩ := h.obj _ _ hs
  have o1 : w.cell? ⟨y.ob id, 1, none⟩ = some (.int .i64 x.lv) := Row.cell rO (i := 1) (by omega)
  have o2 : w.cell? ⟨y.ob id, 2, none⟩ = some (.int .i64 x.ow) := Row.cell rO (i := 2) (by omega)
  have o3 : w.cell? ⟨y.ob id, 3, none⟩ = some (.int .i64 x.ct) := Row.cell rO (i := 3) (by omega)
  have f3 : w.frozen? ⟨y.ob id, 3, none⟩ = false := Row.frozen rO 3
  by_cases h2 : stat s i = 2
  · rw [if_pos h2] at hr'
    subst hr'
    rw [h2] at HS
    clear h rO qO
    go_enter Try.func21, Try.ntmps21
    go_wp2_with fail
    refine HF.out.mono ?_
    rintro e w1 ⟨rfl, rfl⟩
    go_wp2_with fail
    refine HS.out.mono ?_
    rintro e w1 ⟨rfl, rfl⟩
    go_wp2_with fail
    go_ret2
    exact ⟨rfl, P0.out⟩
  rw [if_neg h2] at hr'
  have d2 : (stat s i == 2) = false := by simpa using h2
  by_cases h3 : 0 < x.ct
  · rw [if_pos h3] at hr'
    subst hr'
    have d3 : decide (x.ct > 0) = true := by simpa using h3
    have A := h.sCt hs (x.ct - 1)
    have HT := Lib.hid (state_any A hi hn)
    have hw1 : IntKind.i64.wrap (x.ct - 1) = x.ct - 1 := IntWalk.i64_in _ (by omega)
    have BA : Hid (Keep F w (w.setCell ⟨y.ob id, 3, none⟩ (.int .i64 (x.ct - 1)))) := (Keep.refl _ _).setCell (p := ⟨y.ob id, 3, none⟩) lO _
    obtain ⟨sA, hsA⟩ : ∃ sA, s.setO id (some { x with ct := x.ct - 1 }) = sA := ⟨_, rfl⟩
    rw [hsA] at HT ⊢
    clear h rO qO A hsA
    generalize x.ct = ct at *
    generalize x.ow = ow at *
    generalize stat s i = st at *
    go_enter Try.func21, Try.ntmps21
    go_wp2_with fail
    refine HF.out.mono ?_
    rintro e w1 ⟨rfl, rfl⟩
    go_wp2_with fail
    refine HS.out.mono ?_
    rintro e w1 ⟨rfl, rfl⟩
    go_wp2_with fail
    refine HT.out.mono ?_
    rintro e w1 ⟨y1, rfl, h1, _, _, hb1⟩
    have hT1 : (stS sA i).t i = some (stT sA i) := by simp [stS, LK.setT]
    have A1 := h1.sSt hT1 1
    obtain ⟨lT, rT, _⟩ := h1.thr _ _ hT1
    have t0 : w1.cell? ⟨y1.th i, 0, none⟩ = some (.int .i64 (stT sA i).st) := Row.cell rT (i := 0) (by omega)
    have g0 : w1.frozen? ⟨y1.th i, 0, none⟩ = false := Row.frozen rT 0
    have hF : PO w F L (n + 1) (sA.upT i fun t => { t with st := 1 }) (w1.setCell ⟨y1.th i, 0, none⟩ (.int .i64 1)) := by
      unfold stS at A1
      rw [setT_setT] at A1
      exact ⟨⟨_, A1⟩, (BA.out.trans hb1).trans ((Keep.refl _ _).setCell (p := ⟨y1.th i, 0, none⟩) lT _)⟩
    have HP := Lib.hid hF
    clear h1 rT A1 hF hb1 HT
    generalize (stT sA i).st = ss at *
    go_wp2_with fail
    go_ret2
    exact ⟨rfl, HP.out⟩
  · rw [if_neg h3] at hr'
    subst hr'
    have d3 : decide (x.ct > 0) = false := by simpa using h3
    have HW := Lib.hid (wait_any (now := now) (to := to) h hi hid hn hs hql)
    clear h rO qO
    generalize x.ct = ct at *
    generalize x.ow = ow at *
    generalize stat s i = st at *
    go_enter Try.func21, Try.ntmps21
    go_wp2_with fail
    refine HF.out.mono ?_
    rintro e w1 ⟨rfl, rfl⟩
    go_wp2_with fail
    refine HS.out.mono ?_
    rintro e w1 ⟨rfl, rfl⟩
    go_wp2_with fail
    refine HW.out.mono ?_
    rintro e w1 ⟨rfl, hp⟩
    have HP := Lib.hid hp
    clear hp HW
    go_wp2_with fail
    go_ret2
    exact ⟨rfl, HP.out⟩
end
end Go.Proofs.Ytefgfmnnaglfmaa
