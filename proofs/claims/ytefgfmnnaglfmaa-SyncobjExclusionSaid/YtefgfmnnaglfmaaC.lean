/- ownsAbove, next, wait. Condition: numbers fit. -/
import Derived.Test.YtefgfmnnaglfmaaB
namespace Go.Proofs.Ytefgfmnnaglfmaa
open Go.RowKit
def lvOf (s : LK) (id : Int) : Int := match s.o id with
  | some o => o.lv
  | none => 0
def above (s : LK) (i lv : Int) : Bool := (stT s i).hd.any fun id => decide (lv < lvOf s id)
theorem any_succ {l : List Int} {p : Int → Bool} {k : Nat} (hk : k < l.length) : (l.take (k + 1)).any p = ((l.take k).any p || p (l.getD k 0)) := by
  rw [List.take_succ_eq_append_getElem hk, List.any_append, List.getD_eq_getElem?_getD, List.getElem?_eq_getElem hk, List.any_cons, List.any_nil, Bool.or_false]
  rfl
theorem any_of_take {l : List Int} {p : Int → Bool} {k : Nat} (h : (l.take k).any p = true) : l.any p = true := by
  obtain ⟨x, hx, hp⟩ := List.any_eq_true.1 h
  exact List.any_eq_true.2 ⟨x, List.mem_of_mem_take hx, hp⟩
theorem Ch.setAll {C : Nat → Prop} {a : World} {B : Nat} (hC : C B) : ∀ (vs : List Value) (o : Nat) (w : World), Ch C a w → Ch C a (w.setCells B o vs)
  | [], _, _, h => h
  | u :: r, o, _, h => Ch.setAll hC r (o + 1) _ (h.setCell (p := ⟨B, o, none⟩) (fun _ => hC) u)
section
variable {w : World} {F : Nat → Prop} {L n : Nat} {s : LK} {y : Lay}
theorem ownsAbove_any {i lv : Int} (h : OK w F L n s y) (hi : InI i) (hh : ∀ id ∈ (stT s i).hd, InI id ∧ (s.o id).isSome = true) (hlen : (stT s i).hd.length ≤ 1000) :
    Calls Try.prog 31 #[ptr L, .int .i64 i, .int .i64 lv] w fun e w' => e = .returned (.bool (above s i lv)) ∧ w = w' := by
  have c0 := h.c0
  have c1 := h.c1
  have hl := h.lookT hi
  unfold above
  rcases hs : s.t i with _ | t
  · rw [ft_none hs] at hl
    have e : stT s i = th0 := by unfold stT; rw [hs]; rfl
    rw [e]
    clear h
    go_enter Try.func31, Try.ntmps31
    go_wp2_with fail
    go_ret
    exact ⟨rfl, rfl⟩
  · rw [ft_some hs] at hl
    have e : stT s i = t := by unfold stT; rw [hs]; rfl
    rw [e] at hh hlen ⊢
    obtain ⟨_, hr, hq, _⟩ := h.thr _ _ hs
    have t4 : w.cell? ⟨y.th i, 4, none⟩ = some (y.hv i) := Row.cell hr (i := 4) (by omega)
    have H0 := Lib.hid h
    have HH := Lib.hid hh
    rcases hq.cases with ⟨e1, e2⟩ | ⟨g, cap, e1⟩
    · rw [e1] at t4
      rw [e2]
      clear h hh hr hq
      go_enter Try.func31, Try.ntmps31
      go_wp2_with fail
      go_loop [23] (fun x => x = .int .i64 0) (fun _ => 0)
      case atStart => exact rfl
      case round =>
        subst hrel
        go_wp2_with fail
        go_ret
        exact ⟨rfl, rfl⟩
    · rw [e1] at t4 hq
      obtain ⟨_, q1, q2, q3, q4⟩ := hq.cell
      have Q3 := Lib.hid q3
      generalize hP : (fun id => decide (lv < lvOf s id)) = P
      have HP : Hid (∀ id, P id = decide (lv < lvOf s id)) := fun id => by rw [← hP]
      generalize t.hd = l at *
      clear h hh hr hq q3 q4 hP
      go_enter Try.func31, Try.ntmps31
      go_wp2_with fail
      go_loop [23] (fun x => ∃ k : Nat, k ≤ l.length ∧ x = .int .i64 k ∧ Hid ((l.take k).any P = false)) (fun x => l.length - (intOf x).toNat)
      case atStart => exact ⟨0, by omega, rfl, (by simp : (l.take 0).any P = false)⟩
      case round =>
        obtain ⟨k, hk, rfl, ha⟩ := hrel
        by_cases hlt : k < l.length
        · have z0 : (k : Int) < l.length := by omega
          have ck := Q3.out k hlt
          rw [Nat.zero_add] at ck
          have hm : l.getD k 0 ∈ l := by simp [hlt]
          obtain ⟨hI, hS⟩ := HH.out _ hm
          obtain ⟨o, ho⟩ := Option.isSome_iff_exists.1 hS
          have hlo := H0.out.lookO hI
          rw [fo_some ho] at hlo
          obtain ⟨_, hro, _⟩ := H0.out.obj _ _ ho
          have o1 : w.cell? ⟨y.ob (l.getD k 0), 1, none⟩ = some (.int .i64 o.lv) := Row.cell hro (i := 1) (by omega)
          have HA := Lib.hid (any_succ (p := P) hlt)
          have hpk : P (l.getD k 0) = decide (lv < o.lv) := by rw [HP.out]; unfold lvOf; rw [ho]
          generalize l.getD k 0 = id at *
          clear hro hm hS ho
          by_cases hgt : lv < o.lv
          · have d1 : decide (o.lv > lv) = true := by simpa using hgt
            have hf : Hid (l.any P = true) := any_of_take (k := k + 1) (by rw [HA.out, hpk]; simp [hgt])
            go_wp2_with fail
            go_ret
            exact ⟨by rw [hf.out]; rfl, rfl⟩
          · have d1 : decide (o.lv > lv) = false := by simpa using hgt
            have hf : Hid ((l.take (k + 1)).any P = false) := by
              show (l.take (k + 1)).any P = false
              rw [HA.out, ha.out, hpk]; simp; omega
            go_wp2_with fail
            go_round
            case rel => exact ⟨k + 1, by omega, by go_num, hf⟩
            case measure => simp [intOf]; omega
        · have z0 : ¬ (k : Int) < l.length := by omega
          have hf : Hid (l.any P = false) := by
            have := ha.out
            rw [List.take_of_length_le (by omega)] at this
            exact this
          go_wp2_with fail
          go_ret
          exact ⟨by rw [hf.out]; rfl, rfl⟩
theorem del_call {g cap : Nat} {l : List Int} {k : Nat} (hq : QR w F (.slice (some ⟨g, 0, none⟩) l.length cap) l) (hk : k < l.length) : Calls Try.prog 59 #[.slice (some ⟨g, 0, none⟩) l.length cap, .int .i64 (k : Int), .int .i64 ((k : Int) + 1)] w fun e w' => e = .returned (.slice (some ⟨g, 0, none⟩) (l.length - 1) cap) ∧ ∃ q, w' = (w.drewN q).setCells g 0 ((l.take k ++ l.drop (k + 1) ++ [0]).map (Value.int .i64)) := by
  obtain ⟨_, q1, q2, q3, q4⟩ := hq.cell
  have := Try.slices_Delete_int_cells g 0 l.length cap k (k + 1) l w (Nat.le_refl _) q1 (by unfold maxLen at q2; omega) (by omega) (by omega) q3 (fun j _ => q4 _)
  rw [List.take_length, show k + 1 - k = 1 by omega] at this
  exact this
/-- One number deleted from a queue. -/
theorem OK.delO {i : Int} (h : OK w F L n s y) {x : Ob} (hs : s.o i = some x) {g cap : Nat} (e : y.qv i = .slice (some ⟨g, 0, none⟩) x.q.length cap) {k : Nat} (hk : k < x.q.length) (q : Nat) :
    OK (((w.drewN q).setCells g 0 ((x.q.take k ++ x.q.drop (k + 1) ++ [0]).map (Value.int .i64))).setCell ⟨y.ob i, 4, none⟩ (.slice (some ⟨g, 0, none⟩) (x.q.length - 1) cap)) F L n (s.setO i (some { x with q := x.q.eraseIdx k })) (y.setQ i (.slice (some ⟨g, 0, none⟩) (x.q.length - 1) cap) w.heap.size) ∧
    ((w.drewN q).setCells g 0 ((x.q.take k ++ x.q.drop (k + 1) ++ [0]).map (Value.int .i64))).cell? ⟨y.ob i, 4, none⟩ = some (y.qv i) ∧ ((w.drewN q).setCells g 0 ((x.q.take k ++ x.q.drop (k + 1) ++ [0]).map (Value.int .i64))).frozen? ⟨y.ob i, 4, none⟩ = false ∧
    Keep F w (((w.drewN q).setCells g 0 ((x.q.take k ++ x.q.drop (k + 1) ++ [0]).map (Value.int .i64))).setCell ⟨y.ob i, 4, none⟩ (.slice (some ⟨g, 0, none⟩) (x.q.length - 1) cap)) := by
  obtain ⟨h1, h2, h3, h4, h5⟩ := h.obj _ _ hs
  have c : Ch (fun j => (y.qv i).ownBlock = some j) w ((w.drewN q).setCells g 0 ((x.q.take k ++ x.q.drop (k + 1) ++ [0]).map (Value.int .i64))) := Ch.setAll (by rw [e]; rfl) _ _ _ ((Ch.refl _ w).drewN q)
  have hq := QR.del (by rw [← e]; exact h3) hk q
  obtain ⟨hok, hr⟩ := h.queO (x' := { x with q := x.q.eraseIdx k }) hs c hq (fun j hj => .inl (by rw [e]; exact hj)) rfl
  refine ⟨hok, Row.cell hr (i := 4) (by omega), Row.frozen hr 4, ?_⟩
  refine h.bel (C := fun j => (y.qv i).ownBlock = some j ∨ j = y.ob i) ((c.mono (fun j hj _ => .inl hj)).setCell (p := ⟨y.ob i, 4, none⟩) (fun _ => .inr rfl) _) (fun j hj => ?_)
  rcases hj with hj | hj
  · exact .inr (h3.lt j hj).1
  · rw [hj]; exact .inr h1
theorem OK.delT {i : Int} (h : OK w F L n s y) {x : Th} (hs : s.t i = some x) {g cap : Nat} (e : y.hv i = .slice (some ⟨g, 0, none⟩) x.hd.length cap) {k : Nat} (hk : k < x.hd.length) (q : Nat) :
    OK (((w.drewN q).setCells g 0 ((x.hd.take k ++ x.hd.drop (k + 1) ++ [0]).map (Value.int .i64))).setCell ⟨y.th i, 4, none⟩ (.slice (some ⟨g, 0, none⟩) (x.hd.length - 1) cap)) F L n (s.setT i (some { x with hd := x.hd.eraseIdx k })) (y.setH i (.slice (some ⟨g, 0, none⟩) (x.hd.length - 1) cap) w.heap.size) ∧
    ((w.drewN q).setCells g 0 ((x.hd.take k ++ x.hd.drop (k + 1) ++ [0]).map (Value.int .i64))).cell? ⟨y.th i, 4, none⟩ = some (y.hv i) ∧ ((w.drewN q).setCells g 0 ((x.hd.take k ++ x.hd.drop (k + 1) ++ [0]).map (Value.int .i64))).frozen? ⟨y.th i, 4, none⟩ = false ∧
    Keep F w (((w.drewN q).setCells g 0 ((x.hd.take k ++ x.hd.drop (k + 1) ++ [0]).map (Value.int .i64))).setCell ⟨y.th i, 4, none⟩ (.slice (some ⟨g, 0, none⟩) (x.hd.length - 1) cap)) := by
  obtain ⟨h1, h2, h3, h4, h5⟩ := h.thr _ _ hs
  have c : Ch (fun j => (y.hv i).ownBlock = some j) w ((w.drewN q).setCells g 0 ((x.hd.take k ++ x.hd.drop (k + 1) ++ [0]).map (Value.int .i64))) := Ch.setAll (by rw [e]; rfl) _ _ _ ((Ch.refl _ w).drewN q)
  have hq := QR.del (by rw [← e]; exact h3) hk q
  obtain ⟨hok, hr⟩ := h.helT (x' := { x with hd := x.hd.eraseIdx k }) hs c hq (fun j hj => .inl (by rw [e]; exact hj)) rfl
  refine ⟨hok, Row.cell hr (i := 4) (by omega), Row.frozen hr 4, ?_⟩
  refine h.bel (C := fun j => (y.hv i).ownBlock = some j ∨ j = y.th i) ((c.mono (fun j hj _ => .inl hj)).setCell (p := ⟨y.th i, 4, none⟩) (fun _ => .inr rfl) _) (fun j hj => ?_)
  rcases hj with hj | hj
  · exact .inr (h3.lt j hj).1
  · rw [hj]; exact .inr h1
theorem next_nil {id : Int} {x : Ob} (h : OK w F L n s y) (hs : s.o id = some x) (hq0 : x.q = []) : Calls Try.prog 36 #[ptr (y.ob id)] w fun e w' => e = .returned (.tuple #[.int .i64 0, .bool false]) ∧ w = w' := by
  obtain ⟨_, hr, hq, _⟩ := h.obj _ _ hs
  have o4 : w.cell? ⟨y.ob id, 4, none⟩ = some (y.qv id) := Row.cell hr (i := 4) (by omega)
  have hl : ∃ a c, y.qv id = .slice a 0 c := by
    rcases hq.cases with ⟨e, _⟩ | ⟨g, cap, e⟩
    · exact ⟨_, _, e⟩
    · rw [hq0] at e; exact ⟨_, _, e⟩
  obtain ⟨a, c, e⟩ := hl
  rw [e] at o4
  clear h hr hq e
  go_enter Try.func36, Try.ntmps36
  go_wp2_with fail
  go_ret2
  exact ⟨rfl, rfl⟩
set_option maxRecDepth 100000 in
set_option maxHeartbeats 1000000 in
theorem next_cons {id : Int} {x : Ob} {a : Int} {r : List Int} (h : OK w F L n s y) (hs : s.o id = some x) (hq0 : x.q = a :: r) (hlen : x.q.length ≤ 1000) : Calls Try.prog 36 #[ptr (y.ob id)] w fun e w' => e = .returned (.tuple #[.int .i64 a, .bool true]) ∧ (∃ y', OK w' F L n (s.setO id (some { x with q := r })) y' ∧ y'.ob = y.ob ∧ y'.th = y.th) ∧ Keep F w w' := by
  obtain ⟨_, hr, hq, _⟩ := h.obj _ _ hs
  have o4 : w.cell? ⟨y.ob id, 4, none⟩ = some (y.qv id) := Row.cell hr (i := 4) (by omega)
  rcases hq.cases with ⟨_, e⟩ | ⟨g, cap, e⟩
  · rw [hq0] at e; cases e
  have HO := Lib.hid fun q => h.delO hs e (k := 0) (by rw [hq0]; simp) q
  rw [e] at o4 hq
  obtain ⟨_, q1, q2, q3, q4⟩ := hq.cell
  have p0 : w.cell? ⟨g, 0, none⟩ = some (.int .i64 a) := by have := q3 0 (by rw [hq0]; simp); rw [hq0] at this; exact this
  have HD : Hid (Calls Try.prog 59 #[.slice (some ⟨g, 0, none⟩) x.q.length cap, .int .i64 0, .int .i64 1] w fun e w' => e = .returned (.slice (some ⟨g, 0, none⟩) (x.q.length - 1) cap) ∧ ∃ q, w' = (w.drewN q).setCells g 0 ((x.q.take 0 ++ x.q.drop (0 + 1) ++ [0]).map (Value.int .i64))) := del_call (k := 0) hq (by rw [hq0]; simp)
  have hl0 : 0 < x.q.length := by rw [hq0]; simp
  have d0 : ((x.q.length : Int) == 0) = false := by rw [beq_eq_false_iff_ne]; omega
  have hl1 : (0 : Int) < x.q.length := by omega
  have hr0 : x.q.eraseIdx 0 = r := by rw [hq0]; rfl
  obtain ⟨vs, hvs⟩ : ∃ vs, (x.q.take 0 ++ x.q.drop (0 + 1) ++ [0]).map (Value.int .i64) = vs := ⟨_, rfl⟩
  rw [hvs] at HD HO
  rw [hr0] at HO
  generalize x.q.length = m at *
  clear h hr hq q3 q4 hvs hr0 hq0
  go_enter Try.func36, Try.ntmps36
  go_wp2_with fail
  refine HD.out.mono ?_
  rintro e1 w1 ⟨rfl, q, rfl⟩
  obtain ⟨hok, c4, f4, hb⟩ := HO.out q
  rw [e] at c4
  have HF : Hid (OK _ F L n _ _) := hok
  have HB := Lib.hid hb
  clear hok hb HO HD
  go_wp2_with fail
  go_ret2
  exact ⟨rfl, ⟨_, HF.out, rfl, rfl⟩, HB.out⟩
end
end Go.Proofs.Ytefgfmnnaglfmaa
