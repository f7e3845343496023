/- Acquire, Release. Condition: numbers fit; what a thread holds is there. -/
import Derived.Test.YtefgfmnnaglfmaaE
namespace Go.Proofs.Ytefgfmnnaglfmaa
open Go.RowKit
def acqS (s : LK) (i id now to : Int) : Int × Int × LK := match s.o id with
  | none => (0, 6, s)
  | some x => if x.mx = false then (0, 6, s) else if stat s i = 2 then (0, 9, s) else if 0 < x.ct ∧ x.ow = i then (if 255 ≤ x.ct then (0, 11, s) else (1, 0, (s.setO id (some { x with ct := x.ct + 1 })).upT i fun t => { t with st := 1 }))
    else if above s i x.lv = true then (0, 13, s) else if x.ct = 0 then (1, 0, ownS s i id) else ((waitS s i id now to).1, 0, (waitS s i id now to).2)
def relS (s : LK) (i id : Int) : Int × LK := match s.o id with
  | none => (6, s)
  | some x => if x.mx = false then (6, s) else if x.ct = 0 ∨ x.ow ≠ i ∨ above s i x.lv = true then (13, s) else if x.ct = 1 then (0, freeS (s.setO id (some { x with ct := x.ct - 1 })) id) else (0, s.setO id (some { x with ct := x.ct - 1 }))
section
variable {w : World} {F : Nat → Prop} {L n : Nat} {s : LK} {y : Lay}
theorem find_no {id : Int} {m : Bool} (h : OK w F L n s y) (hi : InI id) (hx : ∀ x, s.o id = some x → x.mx ≠ m) : Calls Try.prog 29 #[ptr L, .int .i64 id, .bool m] w fun e w' => e = .returned nilp ∧ w = w' := by
  have := find_any (m := m) h hi
  have e : findV s y id m = nilp := by
    unfold findV
    rcases hs : s.o id with _ | x
    · rfl
    · show (if x.mx = m then _ else _) = _
      rw [if_neg (hx x hs)]
  rw [e] at this
  exact this
theorem find_yes {id : Int} {x : Ob} (h : OK w F L n s y) (hi : InI id) (hs : s.o id = some x) : Calls Try.prog 29 #[ptr L, .int .i64 id, .bool x.mx] w fun e w' => e = .returned (ptr (y.ob id)) ∧ w = w' := by
  have := find_any (m := x.mx) h hi
  have e : findV s y id x.mx = ptr (y.ob id) := by
    unfold findV
    rw [hs]
    show (if x.mx = x.mx then _ else _) = _
    rw [if_pos rfl]
  rw [e] at this
  exact this
set_option maxRecDepth 100000 in
set_option maxHeartbeats 2000000 in
theorem acquire_any {i id now to : Int} (h : OK w F L n s y) (hi : InI i) (hid : InI id) (hn : n < 1000000) (hq : ∀ x, s.o id = some x → x.q.length ≤ 1000 ∧ 0 ≤ x.ct) (hh : ∀ k ∈ (stT s i).hd, InI k ∧ (s.o k).isSome = true) (hlen : (stT s i).hd.length ≤ 1000) :
    Calls Try.prog 13 #[ptr L, .int .i64 i, .int .i64 id, .int .u64 now, .int .u64 to] w fun e w' => e = .returned (.tuple #[.int .i64 (acqS s i id now to).1, .int .i64 (acqS s i id now to).2.1]) ∧ PO w F L (n + 1) (acqS s i id now to).2.2 w' := by
  have P0 := Lib.hid (PO.same h (Nat.le_succ n))
  obtain ⟨r, hr⟩ : ∃ r, acqS s i id now to = r := ⟨_, rfl⟩
  rw [hr]
  by_cases hmx : ∀ x, s.o id = some x → x.mx ≠ true
  · have HF := Lib.hid (find_no h hid hmx)
    have e : r = (0, 6, s) := by
      rw [← hr]; unfold acqS
      rcases hs : s.o id with _ | x
      · rfl
      · show (if x.mx = false then _ else _) = _
        rw [if_pos (by simpa using hmx x hs)]
    subst e
    clear h hr
    go_enter Try.func13, Try.ntmps13
    go_wp2_with fail
    refine HF.out.mono ?_
    rintro e w1 ⟨rfl, rfl⟩
    go_wp2_with fail
    go_ret2
    exact ⟨rfl, P0.out⟩
  obtain ⟨x, hs, hx⟩ : ∃ x, s.o id = some x ∧ x.mx = true := by
    apply Classical.byContradiction
    intro hno
    exact hmx fun x h1 h2 => hno ⟨x, h1, h2⟩
  have HF := Lib.hid (find_yes h hid hs)
  rw [hx] at HF
  have HS := Lib.hid (status_any h hi)
  unfold acqS at hr
  rw [hs] at hr
  have hr' : (if x.mx = false then ((0, 6, s) : Int × Int × LK) else if stat s i = 2 then (0, 9, s) else if 0 < x.ct ∧ x.ow = i then (if 255 ≤ x.ct then (0, 11, s) else (1, 0, (s.setO id (some { x with ct := x.ct + 1 })).upT i fun t => { t with st := 1 }))
    else if above s i x.lv = true then (0, 13, s) else if x.ct = 0 then (1, 0, ownS s i id) else ((waitS s i id now to).1, 0, (waitS s i id now to).2)) = r := hr
  clear hr
  rw [if_neg (by rw [hx]; simp)] at hr'
  by_cases h2 : stat s i = 2
  · rw [if_pos h2] at hr'
    subst hr'
    rw [h2] at HS
    clear h
    go_enter Try.func13, Try.ntmps13
    go_wp2_with fail
    refine HF.out.mono ?_
    rintro e w1 ⟨rfl, rfl⟩
    go_wp2_with fail
    refine HS.out.mono ?_
    rintro e w1 ⟨rfl, rfl⟩
    go_wp2_with fail
    go_ret2
    exact ⟨rfl, P0.out⟩
  rw [if_neg h2] at hr'
  have d2 : (stat s i == 2) = false := by simpa using h2
  obtain ⟨lO, rO, qO, _⟩ := h.obj _ _ hs
  have o1 : w.cell? ⟨y.ob id, 1, none⟩ = some (.int .i64 x.lv) := Row.cell rO (i := 1) (by omega)
  have o2 : w.cell? ⟨y.ob id, 2, none⟩ = some (.int .i64 x.ow) := Row.cell rO (i := 2) (by omega)
  have o3 : w.cell? ⟨y.ob id, 3, none⟩ = some (.int .i64 x.ct) := Row.cell rO (i := 3) (by omega)
  have f3 : w.frozen? ⟨y.ob id, 3, none⟩ = false := Row.frozen rO 3
  obtain ⟨hql, hct0⟩ := hq x hs
  by_cases h3 : 0 < x.ct ∧ x.ow = i
  · rw [if_pos h3] at hr'
    have d3 : decide (x.ct > 0) = true := by simpa using h3.1
    have d4 : (x.ow == i) = true := by simpa using h3.2
    by_cases h4 : 255 ≤ x.ct
    · rw [if_pos h4] at hr'
      subst hr'
      have d5 : decide (x.ct ≥ 255) = true := by simpa using h4
      clear h rO qO h3
      generalize x.ct = ct at *
      generalize x.ow = ow at *
      generalize stat s i = st at *
      go_enter Try.func13, Try.ntmps13
      go_wp2_with fail
      refine HF.out.mono ?_
      rintro e w1 ⟨rfl, rfl⟩
      go_wp2_with fail
      refine HS.out.mono ?_
      rintro e w1 ⟨rfl, rfl⟩
      go_wp2_with fail
      go_ret2
      exact ⟨rfl, P0.out⟩
    · rw [if_neg h4] at hr'
      subst hr'
      have d5 : decide (x.ct ≥ 255) = false := by simpa using h4
      have A := h.sCt hs (x.ct + 1)
      have HT := Lib.hid (state_any A hi hn)
      have hw1 : IntKind.i64.wrap (x.ct + 1) = x.ct + 1 := IntWalk.i64_in _ (by omega)
      have BA : Hid (Keep F w (w.setCell ⟨y.ob id, 3, none⟩ (.int .i64 (x.ct + 1)))) := (Keep.refl _ _).setCell (p := ⟨y.ob id, 3, none⟩) lO _
      obtain ⟨sA, hsA⟩ : ∃ sA, s.setO id (some { x with ct := x.ct + 1 }) = sA := ⟨_, rfl⟩
      rw [hsA] at HT ⊢
      clear h rO qO h3 A hsA
      generalize x.ct = ct at *
      generalize x.ow = ow at *
      generalize stat s i = st at *
      go_enter Try.func13, Try.ntmps13
      go_wp2_with fail
      refine HF.out.mono ?_
      rintro e w1 ⟨rfl, rfl⟩
      go_wp2_with fail
      refine HS.out.mono ?_
      rintro e w1 ⟨rfl, rfl⟩
      go_wp2_with fail
      refine HT.out.mono ?_
      rintro e w1 ⟨y1, rfl, h1, _, _, hb1⟩
      have hT1 : (stS sA i).t i = some (stT sA i) := by simp [stS, LK.setT]
      have A1 := h1.sSt hT1 1
      obtain ⟨lT, rT, _⟩ := h1.thr _ _ hT1
      have t0 : w1.cell? ⟨y1.th i, 0, none⟩ = some (.int .i64 (stT sA i).st) := Row.cell rT (i := 0) (by omega)
      have g0 : w1.frozen? ⟨y1.th i, 0, none⟩ = false := Row.frozen rT 0
      have hF : PO w F L (n + 1) (sA.upT i fun t => { t with st := 1 }) (w1.setCell ⟨y1.th i, 0, none⟩ (.int .i64 1)) := by
        unfold stS at A1
        rw [setT_setT] at A1
        exact ⟨⟨_, A1⟩, (BA.out.trans hb1).trans ((Keep.refl _ _).setCell (p := ⟨y1.th i, 0, none⟩) lT _)⟩
      have HFF := Lib.hid hF
      clear h1 rT A1 hF hb1 HT
      generalize (stT sA i).st = ss at *
      go_wp2_with fail
      go_ret2
      exact ⟨rfl, HFF.out⟩
  rw [if_neg h3] at hr'
  have HA := Lib.hid (ownsAbove_any (lv := x.lv) h hi hh hlen)
  by_cases h5 : above s i x.lv = true
  · rw [if_pos h5] at hr'
    subst hr'
    rw [h5] at HA
    clear rO qO
    by_cases h6 : 0 < x.ct
    · have d3 : decide (x.ct > 0) = true := by simpa using h6
      have d4 : (x.ow == i) = false := by have : x.ow ≠ i := fun e => h3 ⟨h6, e⟩; simpa using this
      clear h h3
      generalize x.ct = ct at *
      generalize x.ow = ow at *
      generalize stat s i = st at *
      go_enter Try.func13, Try.ntmps13
      go_wp2_with fail
      refine HF.out.mono ?_
      rintro e w1 ⟨rfl, rfl⟩
      go_wp2_with fail
      refine HS.out.mono ?_
      rintro e w1 ⟨rfl, rfl⟩
      go_wp2_with fail
      refine HA.out.mono ?_
      rintro e w1 ⟨rfl, rfl⟩
      go_wp2_with fail
      go_ret2
      exact ⟨rfl, P0.out⟩
    · have d3 : decide (x.ct > 0) = false := by simpa using h6
      clear h h3
      generalize x.ct = ct at *
      generalize x.ow = ow at *
      generalize stat s i = st at *
      go_enter Try.func13, Try.ntmps13
      go_wp2_with fail
      refine HF.out.mono ?_
      rintro e w1 ⟨rfl, rfl⟩
      go_wp2_with fail
      refine HS.out.mono ?_
      rintro e w1 ⟨rfl, rfl⟩
      go_wp2_with fail
      refine HA.out.mono ?_
      rintro e w1 ⟨rfl, rfl⟩
      go_wp2_with fail
      go_ret2
      exact ⟨rfl, P0.out⟩
  rw [if_neg h5] at hr'
  have h5' : above s i x.lv = false := by simpa using h5
  rw [h5'] at HA
  by_cases h6 : x.ct = 0
  · rw [if_pos h6] at hr'
    subst hr'
    have HO := Lib.hid (own_any h hi hid hn hs hlen)
    rw [h6] at o3
    clear h rO qO h3
    generalize x.ct = ct at *
    generalize x.ow = ow at *
    generalize stat s i = st at *
    go_enter Try.func13, Try.ntmps13
    go_wp2_with fail
    refine HF.out.mono ?_
    rintro e w1 ⟨rfl, rfl⟩
    go_wp2_with fail
    refine HS.out.mono ?_
    rintro e w1 ⟨rfl, rfl⟩
    go_wp2_with fail
    refine HA.out.mono ?_
    rintro e w1 ⟨rfl, rfl⟩
    go_wp2_with fail
    refine HO.out.mono ?_
    rintro e w1 ⟨rfl, hp⟩
    have HP := Lib.hid hp
    clear hp HO
    go_wp2_with fail
    go_ret2
    exact ⟨rfl, HP.out⟩
  · rw [if_neg h6] at hr'
    subst hr'
    have HW := Lib.hid (wait_any (now := now) (to := to) h hi hid hn hs hql)
    have h7 : 0 < x.ct := by omega
    have d3 : decide (x.ct > 0) = true := by simpa using h7
    have d4 : (x.ow == i) = false := by have : x.ow ≠ i := fun e => h3 ⟨h7, e⟩; simpa using this
    have d6 : (x.ct == 0) = false := by simpa using h6
    clear h rO qO h3
    generalize x.ct = ct at *
    generalize x.ow = ow at *
    generalize stat s i = st at *
    go_enter Try.func13, Try.ntmps13
    go_wp2_with fail
    refine HF.out.mono ?_
    rintro e w1 ⟨rfl, rfl⟩
    go_wp2_with fail
    refine HS.out.mono ?_
    rintro e w1 ⟨rfl, rfl⟩
    go_wp2_with fail
    refine HA.out.mono ?_
    rintro e w1 ⟨rfl, rfl⟩
    go_wp2_with fail
    refine HW.out.mono ?_
    rintro e w1 ⟨rfl, hp⟩
    have HP := Lib.hid hp
    clear hp HW
    go_wp2_with fail
    go_ret2
    exact ⟨rfl, HP.out⟩
end
end Go.Proofs.Ytefgfmnnaglfmaa
