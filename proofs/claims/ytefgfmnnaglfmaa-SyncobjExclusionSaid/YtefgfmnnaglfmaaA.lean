/- New, add, AddMutex, AddEvent, find, state, Status, Owner. Condition: numbers fit. -/
import Derived.Test.YtefgfmnnaglfmaaS
import Derived.Test.YtefgfmnnaglfmaaPl
namespace Go.Proofs.Ytefgfmnnaglfmaa
open Go.RowKit
attribute [local go_sem] run_makeMap
def s0 : LK := ⟨fun _ => none, fun _ => none⟩
def y0 (H : Nat) : Lay := ⟨H, H + 1, fun _ => 0, fun _ => 0, fun _ => .slice none 0 0, fun _ => .slice none 0 0, fun _ => .free⟩
/-- The state behind a call, and that nothing foreign changed. -/
def PO (w : World) (F : Nat → Prop) (L n : Nat) (s : LK) (w' : World) : Prop := (∃ y, OK w' F L n s y) ∧ Keep F w w'
theorem new_any (F : Nat → Prop) (w : World) (hF : ∀ k, F k → k < w.heap.size) : Calls Try.prog 9 #[] w fun e w' => e = .returned (ptr (w.heap.size + 2)) ∧ PO w F (w.heap.size + 2) 0 s0 w' := by
  go_enter Try.func9, Try.ntmps9
  go_wp2_with fail
  go_ret
  have c1 : Ch (fun _ => False) (w.alloc (.map #[] 0)) (((w.alloc (.map #[] 0)).alloc (.map #[] 0)).alloc (.cells #[.map (some w.heap.size), .map (some (w.heap.size + 1))] 56)) := ((Ch.refl _ _).alloc _).alloc _
  have c2 : Ch (fun _ => False) ((w.alloc (.map #[] 0)).alloc (.map #[] 0)) (((w.alloc (.map #[] 0)).alloc (.map #[] 0)).alloc (.cells #[.map (some w.heap.size), .map (some (w.heap.size + 1))] 56)) := (Ch.refl _ _).alloc _
  have hs1 : (w.alloc (.map #[] 0)).heap.size = w.heap.size + 1 := by simp
  have hs2 : ((w.alloc (.map #[] 0)).alloc (.map #[] 0)).heap.size = w.heap.size + 2 := by simp
  have m2 := MP.made Try.prog (w.alloc (.map #[] 0)) 3 nilp
  rw [hs1] at m2
  have r := Row.ofList ((w.alloc (.map #[] 0)).alloc (.map #[] 0)) 56 #[.map (some w.heap.size), .map (some (w.heap.size + 1))] (lkc w.heap.size (w.heap.size + 1)) 2 rfl
  rw [hs2] at r
  refine ⟨by simp [ptr], ⟨y0 w.heap.size, r, (MP.made Try.prog w 3 nilp).ch c1 id, m2.ch c2 id, by simp [y0], (fun h => by have := hF _ h; omega), (fun h => by have := hF _ h; simp only [y0] at this; omega), (fun h => by have := hF _ h; simp only [y0] at this; omega), rfl, rfl, rfl, fun _ _ => rfl, (fun k hk => by have := hF k hk; simp; omega), (fun i x hx => by cases hx), (fun i x hx => by cases hx)⟩, ?_⟩
  exact (((Ch.refl _ _).alloc _).alloc _).alloc _
section
variable {w w1 : World} {F : Nat → Prop} {L n n' : Nat} {s : LK} {y : Lay}
theorem add_dup {id : Int} {x : Ob} (p : Value) (h : OK w F L n s y) (hi : InI id) (hs : s.o id = some x) : Calls Try.prog 28 #[ptr L, .int .i64 id, p] w fun e w' => e = .returned (.int .i64 7) ∧ w = w' := by
  have c0 := h.c0
  have hl := h.lookO hi
  rw [fo_some hs] at hl
  clear h
  go_enter Try.func28, Try.ntmps28
  go_wp2_with fail
  go_ret
  exact ⟨rfl, rfl⟩
theorem add_new {id : Int} {x : Ob} {B : Nat} (h : OK w F L n s y) (hb : Below w.heap.size w w1) (hi : InI id) (hn : n < 1000000) (hs : s.o id = none) (hx : x.q = []) (hB : w.heap.size ≤ B) (hr : Row w1 B 61 5 (obc x (.slice none 0 0))) :
    Calls Try.prog 28 #[ptr L, .int .i64 id, ptr B] w1 fun e w' => e = .returned (.int .i64 0) ∧ PO w F L (n + 1) (s.setO id (some x)) w' := by
  have h1 := h.below hb
  have c0 := h1.c0
  have hl := h1.lookO hi
  rw [fo_none hs] at hl
  obtain ⟨w', hrun, hm, hc⟩ := h1.mo.store Try.underlying3 Try.underlying53 hn hi (ptr B) (by intro h; injection h with h; cases h)
  have hmB : B ≠ y.mo := by have := h.mo.lt; omega
  have hc2 : Ch (fun k => k = y.mo) w w' := (Ch.of_below hb _).andThen hc (fun _ hk _ => hk)
  have HF : Hid (PO w F L (n + 1) (s.setO id (some x)) w') := ⟨⟨_, h.addObj hx hB hs hc2 (hr.ch hc hmB) hm⟩, h.bel hc2 (fun k hk => .inr (by rw [hk]; exact h.lo))⟩
  clear h h1 hm hc hc2 hb hr
  go_enter Try.func28, Try.ntmps28
  go_wp2_with fail
  go_ret
  exact ⟨rfl, HF.out⟩
def addM (s : LK) (id lv : Int) : Int × LK := if lv < 0 ∨ 15 < lv then (1, s) else if (s.o id).isSome = true then (7, s) else (0, s.setO id (some ⟨true, lv, 0, 0, []⟩))
def addE (s : LK) (id : Int) : Int × LK := if (s.o id).isSome = true then (7, s) else (0, s.setO id (some ⟨false, 0, 0, 0, []⟩))
theorem PO.same (h : OK w F L n s y) (hn : n ≤ n') : PO w F L n' s w := ⟨⟨_, h.mono hn⟩, Keep.refl _ _⟩
theorem PO.of (h : OK w F L n s y) (hb : Below w.heap.size w w1) (hn : n ≤ n') : PO w F L n' s w1 := ⟨⟨_, (h.below hb).mono hn⟩, Keep.of hb⟩
theorem addMutex_any {id lv : Int} (h : OK w F L n s y) (hi : InI id) (hn : n < 1000000) : Calls Try.prog 12 #[ptr L, .int .i64 id, .int .i64 lv] w fun e w' => e = .returned (.int .i64 (addM s id lv).1) ∧ PO w F L (n + 1) (addM s id lv).2 w' := by
  have H0 := Lib.hid h
  have P0 : Hid (PO w F L (n + 1) s w) := PO.same h (Nat.le_succ n)
  unfold addM
  by_cases h1 : lv < 0
  · have d1 : decide (lv < 0) = true := by simpa using h1
    rw [if_pos (.inl h1)]
    go_enter Try.func12, Try.ntmps12
    go_wp2_with fail
    go_ret
    exact ⟨rfl, P0.out⟩
  have d1 : decide (lv < 0) = false := by simpa using h1
  by_cases h2 : 15 < lv
  · have d2 : decide (lv > 15) = true := by simpa using h2
    rw [if_pos (.inr h2)]
    go_enter Try.func12, Try.ntmps12
    go_wp2_with fail
    go_ret
    exact ⟨rfl, P0.out⟩
  have d2 : decide (lv > 15) = false := by simpa using h2
  rw [if_neg (by omega)]
  have hb : Below w.heap.size w (w.alloc (.cells #[.bool true, .int .i64 lv, .int .i64 0, .int .i64 0, .slice none 0 0] 61)) := (Below.refl _ _).alloc (Nat.le_refl _) _
  have hr : Row (w.alloc (.cells #[.bool true, .int .i64 lv, .int .i64 0, .int .i64 0, .slice none 0 0] 61)) w.heap.size 61 5 (obc ⟨true, lv, 0, 0, []⟩ (.slice none 0 0)) := Row.ofList w 61 _ _ 5 rfl
  rcases hs : s.o id with _ | x
  · rw [if_neg (by simp)]
    have HC := Lib.hid (add_new h hb hi hn hs (x := ⟨true, lv, 0, 0, []⟩) rfl (Nat.le_refl _) hr)
    clear h hb hr
    go_enter Try.func12, Try.ntmps12
    go_wp2_with fail
    refine HC.out.mono ?_
    rintro e w' ⟨rfl, hp⟩
    have HP := Lib.hid hp
    clear hp HC
    go_wp2_with fail
    go_ret
    exact ⟨rfl, HP.out⟩
  · rw [if_pos (by simp)]
    have HC := Lib.hid (add_dup (ptr w.heap.size) (h.below hb) hi hs)
    have HP : Hid (PO w F L (n + 1) s _) := PO.of h hb (Nat.le_succ n)
    clear h hb hr
    go_enter Try.func12, Try.ntmps12
    go_wp2_with fail
    refine HC.out.mono ?_
    rintro e w' ⟨rfl, rfl⟩
    go_wp2_with fail
    go_ret
    exact ⟨rfl, HP.out⟩
theorem addEvent_any {id : Int} (h : OK w F L n s y) (hi : InI id) (hn : n < 1000000) : Calls Try.prog 18 #[ptr L, .int .i64 id] w fun e w' => e = .returned (.int .i64 (addE s id).1) ∧ PO w F L (n + 1) (addE s id).2 w' := by
  unfold addE
  have hb : Below w.heap.size w (w.alloc (.cells #[.bool false, .int .i64 0, .int .i64 0, .int .i64 0, .slice none 0 0] 61)) := (Below.refl _ _).alloc (Nat.le_refl _) _
  have hr : Row (w.alloc (.cells #[.bool false, .int .i64 0, .int .i64 0, .int .i64 0, .slice none 0 0] 61)) w.heap.size 61 5 (obc ⟨false, 0, 0, 0, []⟩ (.slice none 0 0)) := Row.ofList w 61 _ _ 5 rfl
  rcases hs : s.o id with _ | x
  · rw [if_neg (by simp)]
    have HC := Lib.hid (add_new h hb hi hn hs (x := ⟨false, 0, 0, 0, []⟩) rfl (Nat.le_refl _) hr)
    clear h hb hr
    go_enter Try.func18, Try.ntmps18
    go_wp2_with fail
    refine HC.out.mono ?_
    rintro e w' ⟨rfl, hp⟩
    have HP := Lib.hid hp
    clear hp HC
    go_wp2_with fail
    go_ret
    exact ⟨rfl, HP.out⟩
  · rw [if_pos (by simp)]
    have HC := Lib.hid (add_dup (ptr w.heap.size) (h.below hb) hi hs)
    have HP : Hid (PO w F L (n + 1) s _) := PO.of h hb (Nat.le_succ n)
    clear h hb hr
    go_enter Try.func18, Try.ntmps18
    go_wp2_with fail
    refine HC.out.mono ?_
    rintro e w' ⟨rfl, rfl⟩
    go_wp2_with fail
    go_ret
    exact ⟨rfl, HP.out⟩
def findV (s : LK) (y : Lay) (id : Int) (m : Bool) : Value := match s.o id with
  | some x => if x.mx = m then ptr (y.ob id) else nilp
  | none => nilp
theorem find_any {id : Int} {m : Bool} (h : OK w F L n s y) (hi : InI id) : Calls Try.prog 29 #[ptr L, .int .i64 id, .bool m] w fun e w' => e = .returned (findV s y id m) ∧ w = w' := by
  have c0 := h.c0
  have hl := h.lookO hi
  unfold findV
  rcases hs : s.o id with _ | x
  · rw [fo_none hs] at hl
    clear h
    go_enter Try.func29, Try.ntmps29
    go_wp2_with fail
    go_ret
    exact ⟨rfl, rfl⟩
  · rw [fo_some hs] at hl
    obtain ⟨_, hr, _⟩ := h.obj _ _ hs
    have o0 : w.cell? ⟨y.ob id, 0, none⟩ = some (.bool x.mx) := Row.cell hr (i := 0) (by omega)
    show Calls _ _ _ _ fun e w' => e = .returned (if x.mx = m then ptr (y.ob id) else nilp) ∧ w = w'
    by_cases hm : x.mx = m
    · rw [if_pos hm]
      subst hm
      clear h hr
      generalize x.mx = b at o0 ⊢
      go_enter Try.func29, Try.ntmps29
      go_wp2_with fail
      go_ret
      exact ⟨rfl, rfl⟩
    · rw [if_neg hm]
      clear h hr
      have hm2 : (x.mx == m) = false := by simpa using hm
      generalize x.mx = b at o0 hm2 ⊢
      go_enter Try.func29, Try.ntmps29
      go_wp2_with fail
      go_ret
      exact ⟨rfl, rfl⟩
def stat (s : LK) (i : Int) : Int := match s.t i with
  | some x => x.st
  | none => 0
theorem status_any {i : Int} (h : OK w F L n s y) (hi : InI i) : Calls Try.prog 16 #[ptr L, .int .i64 i] w fun e w' => e = .returned (.int .i64 (stat s i)) ∧ w = w' := by
  have c1 := h.c1
  have hl := h.lookT hi
  unfold stat
  rcases hs : s.t i with _ | x
  · rw [ft_none hs] at hl
    clear h
    go_enter Try.func16, Try.ntmps16
    go_wp2_with fail
    go_ret
    exact ⟨rfl, rfl⟩
  · rw [ft_some hs] at hl
    obtain ⟨_, hr, _⟩ := h.thr _ _ hs
    have o0 : w.cell? ⟨y.th i, 0, none⟩ = some (.int .i64 x.st) := Row.cell hr (i := 0) (by omega)
    clear h hr
    go_enter Try.func16, Try.ntmps16
    go_wp2_with fail
    go_ret
    exact ⟨rfl, rfl⟩
def ownr (s : LK) (id : Int) : Int × Bool := match s.o id with
  | some x => if x.mx = true ∧ x.ct ≠ 0 then (x.ow, true) else (0, false)
  | none => (0, false)
theorem owner_any {id : Int} (h : OK w F L n s y) (hi : InI id) : Calls Try.prog 15 #[ptr L, .int .i64 id] w fun e w' => e = .returned (.tuple #[.int .i64 (ownr s id).1, .bool (ownr s id).2]) ∧ w = w' := by
  have HC := Lib.hid (find_any (m := true) h hi)
  unfold ownr
  unfold findV at HC
  rcases hs : s.o id with _ | x
  · rw [hs] at HC
    clear h
    go_enter Try.func15, Try.ntmps15
    go_wp2_with fail
    refine HC.out.mono ?_
    rintro e w' ⟨rfl, rfl⟩
    go_wp2_with fail
    go_ret2
    exact ⟨rfl, rfl⟩
  · rw [hs] at HC
    obtain ⟨_, hr, _⟩ := h.obj _ _ hs
    have o2 : w.cell? ⟨y.ob id, 2, none⟩ = some (.int .i64 x.ow) := Row.cell hr (i := 2) (by omega)
    have o3 : w.cell? ⟨y.ob id, 3, none⟩ = some (.int .i64 x.ct) := Row.cell hr (i := 3) (by omega)
    clear h hr
    by_cases hm : x.mx = true
    · have HC2 : Hid (Calls Try.prog 29 #[ptr L, .int .i64 id, .bool true] w fun e w' => e = .returned (ptr (y.ob id)) ∧ w = w') := by
        have := HC.out
        simp only [hm, if_true] at this
        exact this
      clear HC
      by_cases hc : x.ct = 0
      · have e : (if x.mx = true ∧ x.ct ≠ 0 then (x.ow, true) else ((0 : Int), false)) = (0, false) := if_neg (fun h => h.2 hc)
        show Calls _ _ _ _ fun e' w' => e' = .returned (.tuple #[.int .i64 (if x.mx = true ∧ x.ct ≠ 0 then (x.ow, true) else ((0 : Int), false)).1, .bool (if x.mx = true ∧ x.ct ≠ 0 then (x.ow, true) else ((0 : Int), false)).2]) ∧ w = w'
        rw [e]
        rw [hc] at o3
        clear e hc hm
        go_enter Try.func15, Try.ntmps15
        go_wp2_with fail
        refine HC2.out.mono ?_
        rintro e w' ⟨rfl, rfl⟩
        go_wp2_with fail
        go_ret2
        exact ⟨rfl, rfl⟩
      · have e : (if x.mx = true ∧ x.ct ≠ 0 then (x.ow, true) else ((0 : Int), false)) = (x.ow, true) := if_pos ⟨hm, hc⟩
        show Calls _ _ _ _ fun e' w' => e' = .returned (.tuple #[.int .i64 (if x.mx = true ∧ x.ct ≠ 0 then (x.ow, true) else ((0 : Int), false)).1, .bool (if x.mx = true ∧ x.ct ≠ 0 then (x.ow, true) else ((0 : Int), false)).2]) ∧ w = w'
        rw [e]
        have hc2 : (x.ct == 0) = false := by simpa using hc
        clear e hm
        generalize x.ct = ct at o3 hc2 hc
        go_enter Try.func15, Try.ntmps15
        go_wp2_with fail
        refine HC2.out.mono ?_
        rintro e w' ⟨rfl, rfl⟩
        go_wp2_with fail
        go_ret2
        exact ⟨rfl, rfl⟩
    · have HC2 : Hid (Calls Try.prog 29 #[ptr L, .int .i64 id, .bool true] w fun e w' => e = .returned nilp ∧ w = w') := by
        have := HC.out
        simp only [hm] at this
        exact this
      clear HC
      have e : (if x.mx = true ∧ x.ct ≠ 0 then (x.ow, true) else ((0 : Int), false)) = (0, false) := if_neg (fun h => hm h.1)
      show Calls _ _ _ _ fun e' w' => e' = .returned (.tuple #[.int .i64 (if x.mx = true ∧ x.ct ≠ 0 then (x.ow, true) else ((0 : Int), false)).1, .bool (if x.mx = true ∧ x.ct ≠ 0 then (x.ow, true) else ((0 : Int), false)).2]) ∧ w = w'
      rw [e]
      clear e hm
      go_enter Try.func15, Try.ntmps15
      go_wp2_with fail
      refine HC2.out.mono ?_
      rintro e w' ⟨rfl, rfl⟩
      go_wp2_with fail
      go_ret2
      exact ⟨rfl, rfl⟩
end
end Go.Proofs.Ytefgfmnnaglfmaa
