/- help.Equal, Waiters; the walk of SyncobjExpires. No condition. -/
import Derived.Test.YtefgfmnnaglfmaaX3
import Derived.Test.YtefgfmnnaglfmaaR
namespace Go.Proofs.Ytefgfmnnaglfmaa
open Go.RowKit
section
variable {w : World} {F : Nat → Prop} {L n : Nat} {s : LK} {y : Lay}
theorem QR.form {v : Value} {E : List Int} (h : QR w F v E) : ∃ a cap, v = .slice a E.length cap ∧ E.length ≤ cap ∧ ∀ j, j < E.length → ∃ g, a = some ⟨g, 0, none⟩ ∧ g < w.heap.size ∧ w.cell? ⟨g, j, none⟩ = some (.int .i64 (E.getD j 0)) := by
  rcases h.cases with ⟨rfl, rfl⟩ | ⟨g, cap, rfl⟩
  · exact ⟨none, 0, rfl, Nat.le_refl _, fun j hj => by cases hj⟩
  · obtain ⟨_, h1, h2, h3, _⟩ := h.cell
    exact ⟨_, cap, rfl, h1, fun j hj => ⟨g, rfl, (h.lt g rfl).2, by have := h3 j hj; rwa [Nat.zero_add] at this⟩⟩
set_option maxRecDepth 100000 in
set_option maxHeartbeats 1000000 in
theorem equal_any {v v' : Value} {E E' : List Int} (h : QR w noG v E) (h' : QR w noG v' E') (hl : E.length ≤ 1000000) (_hl' : E'.length ≤ 1000000) :
    Calls Try.prog 23 #[v, v'] w fun e w' => e = .returned (.bool (decide (E = E'))) ∧ Below w.heap.size w w' := by
  obtain ⟨a, cap, rfl, hc, hx⟩ := h.form
  obtain ⟨a', cap', rfl, hc', hx'⟩ := h'.form
  have HX := Lib.hid hx
  have HX' := Lib.hid hx'
  clear hx hx' h h'
  by_cases he : E.length = E'.length
  · obtain ⟨m, hm⟩ : ∃ m, E.length = m := ⟨_, rfl⟩
    have hm' : E'.length = m := by omega
    rw [hm] at hc hl ⊢
    rw [hm'] at hc' ⊢
    clear he _hl'
    go_enter Try.func23, Try.ntmps23
    go_wp2_with fail
    go_loopw [5] (fun v wr => ∃ j : Nat, v = .int .i64 (j : Int) ∧ j ≤ m ∧ Hid (∀ k, k < j → E.getD k 0 = E'.getD k 0) ∧ Hid (Below w.heap.size w wr)) (fun v _ => m - (intOf v).toNat)
    case atStart => exact ⟨0, rfl, Nat.zero_le _, fun k hk => by omega, Below.refl _ _⟩
    case round =>
      obtain ⟨j, rfl, hj, hK, HB⟩ := hrel
      by_cases hjm : j < m
      · have hjI : (j : Int) < (m : Int) := by omega
        obtain ⟨g, rfl, hg, hx⟩ := HX.out j (by omega)
        obtain ⟨g', rfl, hg', hx'⟩ := HX'.out j (by omega)
        obtain ⟨p, hp⟩ : ∃ p, E.getD j 0 = p := ⟨_, rfl⟩
        obtain ⟨q, hq⟩ : ∃ q, E'.getD j 0 = q := ⟨_, rfl⟩
        have S1 : Hid (wr.drew.cell? ⟨g, j, none⟩ = some (.int .i64 p) ∧ wr.drew.cell? ⟨g', j, none⟩ = some (.int .i64 q)) := by
          rw [← hp, ← hq]
          exact ⟨(HB.out.drew.cell (p := ⟨g, j, none⟩) hg).trans hx, (HB.out.drew.cell (p := ⟨g', j, none⟩) hg').trans hx'⟩
        have HP : Hid (p = q → ∀ k, k < j + 1 → E.getD k 0 = E'.getD k 0) := fun e k hk => by
          by_cases hkj : k = j
          · rw [hkj, hp, hq, e]
          · exact hK.out k (by omega)
        have HNP : Hid (p ≠ q → E ≠ E') := fun e e2 => e (by rw [← hp, ← hq, e2])
        have HB2 : Hid (Below w.heap.size w wr.drew) := HB.out.drew
        clear hx hx' hp hq hg hg'
        by_cases hpq : p = q
        · subst hpq
          go_wp2_with fail
          refine wp_region_pl (fun X => X.cell? ⟨g, j, none⟩ = some (.int .i64 p) ∧ X.cell? ⟨g', j, none⟩ = some (.int .i64 p))
            ((0, 0) :: (1, 0) :: (2, 0) :: (3, 0) :: (4, 0) :: (5, 0) :: (6, 0) :: (7, 0) :: (8, 0) :: []) (by kernel_rfl) (by kernel_rfl) ?_
          iterate 9 (apply wpP_go; (focus rfl); (focus rfl); (focus exact S1.out); (focus (rintro X ⟨s0, s1⟩; go_simp; exact rfl)); intro K hK; go_simp; refine hK _ ?_; clear hK K)
          refine wpP_done ?_
          generalize wr.drew = w2 at *
          go_wp2_with fail
          go_roundw
          case rel => exact ⟨j + 1, by go_num, by omega, HP.out trivial, HB2⟩
          case measure => simp [intOf]; omega
        · go_wp2_with fail
          refine wp_region_pl (fun X => X.cell? ⟨g, j, none⟩ = some (.int .i64 p) ∧ X.cell? ⟨g', j, none⟩ = some (.int .i64 q))
            ((0, 0) :: (1, 0) :: (2, 0) :: (3, 0) :: (4, 0) :: (5, 0) :: (6, 0) :: (7, 0) :: (8, 0) :: []) (by kernel_rfl) (by kernel_rfl) ?_
          iterate 9 (apply wpP_go; (focus rfl); (focus rfl); (focus exact S1.out); (focus (rintro X ⟨s0, s1⟩; go_simp; exact rfl)); intro K hK; go_simp; refine hK _ ?_; clear hK K)
          refine wpP_done ?_
          generalize wr.drew = w2 at *
          have hne := HNP.out hpq
          go_wp2_with fail
          go_ret
          exact ⟨by rw [decide_eq_false hne]; rfl, HB2.out⟩
      · have hjI : ¬ (j : Int) < (m : Int) := by omega
        have hee : E = E' := by
          apply List.ext_getElem (by omega)
          intro k h1 h2
          have := hK.out k (by omega)
          simpa [h1, h2] using this
        go_wp2_with fail
        go_ret
        exact ⟨rfl, HB.out⟩
  · have hI : ¬ ((E.length : Int) = E'.length) := by omega
    have hne : E ≠ E' := fun e => he (by rw [e])
    go_enter Try.func23, Try.ntmps23
    go_wp2_with fail
    go_ret
    exact ⟨by rw [decide_eq_false hne]; rfl, Below.refl _ _⟩
theorem waitersX {id : Int} {x : Ob} (h : OK w F L n s y) (hi : InI id) (hs : s.o id = some x) (hl : x.q.length ≤ 1000) : Calls Try.prog 17 #[ptr L, .int .i64 id] w fun e w' => ∃ v, e = .returned v ∧ QR w' noG v x.q ∧ Below w.heap.size w w' := by
  have c0 := h.c0
  have hlk := h.lookO hi
  rw [fo_some hs] at hlk
  obtain ⟨_, hr, hq, _⟩ := h.obj _ _ hs
  have o4 : w.cell? ⟨y.ob id, 4, none⟩ = some (y.qv id) := Row.cell hr (i := 4) (by omega)
  rcases hq.cases with ⟨e, e2⟩ | ⟨g, cap, e⟩
  · rw [e] at o4
    have HC := Lib.hid (Try.slices_Clone_int_nil 0 0 w)
    have hql : x.q = [] := e2
    rw [hql]
    clear h hr hq e hql e2
    go_enter Try.func17, Try.ntmps17
    go_wp2_with fail
    refine HC.out.mono ?_
    rintro e w1 ⟨rfl, rfl⟩
    go_wp2_with fail
    go_ret
    exact ⟨_, rfl, QR.nil _ _, Below.refl _ _⟩
  · rw [e] at o4 hq
    obtain ⟨_, q1, q2, q3, _⟩ := hq.cell
    have HC := Lib.hid (Try.slices_Clone_int g 0 x.q.length cap x.q w (Nat.le_refl _) (by omega) q3)
    rw [List.take_length] at HC
    clear h hr hq e q3
    generalize x.q = l at *
    go_enter Try.func17, Try.ntmps17
    go_wp2_with fail
    refine HC.out.mono ?_
    rintro e w1 ⟨v, rfl, ho, _, hb⟩
    have HO : Hid (QR w1 noG v l) := by
      refine ⟨?_, fun _ _ h => h⟩
      obtain ⟨h1, h2 | ⟨g, cap, cur, a, c, d⟩⟩ := ho
      · exact ⟨by rw [List.length_map, Nat.mul_one], .inl h2⟩
      · exact ⟨by rw [List.length_map, Nat.mul_one], .inr ⟨g, cap, cur, a, Nat.zero_le _, d⟩⟩
    have HB := Lib.hid hb
    clear ho hb HC
    go_wp2_with fail
    go_ret
    exact ⟨v, rfl, HO.out, HB.out⟩
end
end Go.Proofs.Ytefgfmnnaglfmaa
