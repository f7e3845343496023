/- NoDeadlock: what each call leaves; Waiters. Condition: numbers fit. -/
import Derived.Test.YtefgfmnnaglfmaaP5
import Derived.Test.YtefgfmnnaglfmaaR
namespace Go.Proofs.Ytefgfmnnaglfmaa
open Go.RowKit
theorem pigeon : ∀ (n : Nat) (l : List Int), l.Nodup → (∀ a ∈ l, 0 ≤ a ∧ a < (n : Int)) → l.length ≤ n
  | 0, [], _, _ => Nat.le_refl 0
  | 0, a :: r, _, h => by have := h a (by simp); omega
  | n + 1, l, hn, h => by
    have := pigeon n (l.erase (n : Int)) (hn.erase _) (fun a ha => by
      rw [hn.mem_erase_iff] at ha
      have := h a ha.2
      omega)
    rw [List.length_erase] at this
    split at this <;> omega
abbrev noF : Nat → Prop := fun _ => False
section
variable {w : World} {F : Nat → Prop} {L n : Nat} {s : LK} {y : Lay}
theorem waiters_any {id : Int} {x : Ob} (h : OK w F L n s y) (hi : InI id) (hs : s.o id = some x) (hl : x.q.length ≤ 1000) : Calls Try.prog 17 #[ptr L, .int .i64 id] w fun e w' => ∃ v, e = .returned v ∧ QR w' noF v x.q ∧ Below w.heap.size w w' := by
  have c0 := h.c0
  have hlk := h.lookO hi
  rw [fo_some hs] at hlk
  obtain ⟨_, hr, hq, _⟩ := h.obj _ _ hs
  have o4 : w.cell? ⟨y.ob id, 4, none⟩ = some (y.qv id) := Row.cell hr (i := 4) (by omega)
  rcases hq.cases with ⟨e, e2⟩ | ⟨g, cap, e⟩
  · rw [e] at o4
    have HC := Lib.hid (Try.slices_Clone_int_nil 0 0 w)
    have hql : x.q = [] := e2
    rw [hql]
    clear h hr hq e hql e2
    go_enter Try.func17, Try.ntmps17
    go_wp2_with fail
    refine HC.out.mono ?_
    rintro e w1 ⟨rfl, rfl⟩
    go_wp2_with fail
    go_ret
    exact ⟨_, rfl, QR.nil _ _, Below.refl _ _⟩
  · rw [e] at o4 hq
    obtain ⟨_, q1, q2, q3, _⟩ := hq.cell
    have HC := Lib.hid (Try.slices_Clone_int g 0 x.q.length cap x.q w (Nat.le_refl _) (by omega) q3)
    rw [List.take_length] at HC
    clear h hr hq e q3
    generalize x.q = l at *
    go_enter Try.func17, Try.ntmps17
    go_wp2_with fail
    refine HC.out.mono ?_
    rintro e w1 ⟨v, rfl, ho, _, hb⟩
    have HO : Hid (QR w1 noF v l) := by
      refine ⟨?_, fun _ _ h => h⟩
      obtain ⟨h1, h2 | ⟨g, cap, cur, a, c, d⟩⟩ := ho
      · exact ⟨by rw [List.length_map, Nat.mul_one], .inl h2⟩
      · exact ⟨by rw [List.length_map, Nat.mul_one], .inr ⟨g, cap, cur, a, Nat.zero_le _, d⟩⟩
    have HB := Lib.hid hb
    clear ho hb HC
    go_wp2_with fail
    go_ret
    exact ⟨v, rfl, HO.out, HB.out⟩
end
def NSt (w0 wr : World) (L k : Nat) (s : LK) : Prop := ∃ F y, OK wr F L k s y ∧ (∀ k, k < w0.heap.size → F k) ∧ Below w0.heap.size w0 wr
section
variable {w0 wr w' : World} {L k : Nat} {s : LK} {i id : Int}
theorem NSt.mono (h : NSt w0 wr L k s) {k' : Nat} (hk : k ≤ k') : NSt w0 wr L k' s := by
  obtain ⟨F, y, a, b⟩ := h
  exact ⟨F, y, a.mono hk, b⟩
theorem NSt.keep (h : NSt w0 wr L k s) (hb : Below wr.heap.size wr w') : NSt w0 w' L k s := by
  obtain ⟨F, y, a, b, c⟩ := h
  exact ⟨F, y, a.below hb, b, c.trans (hb.mono c.size)⟩
theorem ND.small (h : ND s) : (∀ id, rg id → (s.X id).q.length ≤ 1000) ∧ ∀ i, (stT s i).hd.length ≤ 1000 := by
  refine ⟨fun id hr => ?_, fun i => ?_⟩
  · have := pigeon 5 _ (h.1.qn id hr).1 (h.1.qn id hr).2
    omega
  · have := pigeon 6 _ (h.1.hn i) (fun a ha => ((h.1.hd i a).1 ha).1)
    show (stT s i).hd.length ≤ 1000
    omega
theorem rgI (h : rg id) : InI id := in_small (by unfold rg at h; omega)
theorem NSt.acq (h : NSt w0 wr L k s) (hn : ND s) (hk : k < 1000000) (hr : rg id) (hi : 0 ≤ i ∧ i < 5) :
    Calls Try.prog 13 #[ptr L, .int .i64 i, .int .i64 id, .int .u64 0, .int .u64 65535] wr fun e w' => ∃ a b, e = .returned (.tuple #[.int .i64 a, .int .i64 b]) ∧ ∃ s', ND s' ∧ NSt w0 w' L (k + 1) s' := by
  obtain ⟨F, y, h1, h2, h3⟩ := h
  have hC := acquire_any (i := i) (id := id) (now := 0) (to := 65535) h1 (in_small (by omega)) (rgI hr) hk (fun x hx => by
      rw [hn.at hr] at hx; injection hx with hx; subst hx
      exact ⟨hn.small.1 id hr, (hn.1.lvl id hr).2.2.1⟩) (fun j hj => by
      have hj' := ((hn.1.hd i j).1 hj).1
      exact ⟨rgI hj', hn.2 j hj'⟩) (hn.small.2 i)
  refine hC.mono ?_
  rintro e w' ⟨he, ⟨y', h7⟩, h8⟩
  exact ⟨_, _, he, _, hn.acq hr hi, F, y', h7, h2, h3.trans (Keep.below h8 h2 h3.size)⟩
theorem NSt.rel (h : NSt w0 wr L k s) (hn : ND s) (hk : k < 1000000) (hr : rg id) (hi : 0 ≤ i ∧ i < 5) :
    Calls Try.prog 14 #[ptr L, .int .i64 i, .int .i64 id] wr fun e w' => ∃ a, e = .returned (.int .i64 a) ∧ ∃ s', ND s' ∧ NSt w0 w' L (k + 1) s' := by
  obtain ⟨F, y, h1, h2, h3⟩ := h
  have hC := release_any (i := i) (id := id) h1 (in_small (by omega)) (rgI hr) hk (fun x hx => by
      rw [hn.at hr] at hx; injection hx with hx; subst hx
      exact ⟨hn.small.1 id hr, (hn.1.lvl id hr).2.2.1, (hn.1.lvl id hr).2.2.2, fun a ha => by have := (hn.1.qn id hr).2 a ha; exact in_small (by omega)⟩) (fun j hj => by
      have hj' := ((hn.1.hd i j).1 hj).1
      exact ⟨rgI hj', hn.2 j hj'⟩) (fun j t ht => by
      have e : (stT s j).hd = t.hd := by unfold stT; rw [ht]; rfl
      rw [← e]; exact hn.small.2 j) (fun x hx hm hc ho => by
      have hx' := hx
      rw [hn.at hr] at hx'; injection hx' with hx'; subst hx'
      have hid : id ∈ (stT s i).hd := (hn.1.hd i id).2 ⟨hr, hc, ho⟩
      rcases ht : s.t i with _ | t
      · unfold stT at hid; rw [ht] at hid; cases hid
      · refine ⟨t, rfl, ?_⟩
        unfold stT at hid; rw [ht] at hid; exact hid)
  refine hC.mono ?_
  rintro e w' ⟨he, ⟨y', h7⟩, h8⟩
  exact ⟨_, he, _, hn.rel hr, F, y', h7, h2, h3.trans (Keep.below h8 h2 h3.size)⟩
theorem NSt.stat (h : NSt w0 wr L k s) (hi : 0 ≤ i ∧ i < 5) : Calls Try.prog 16 #[ptr L, .int .i64 i] wr fun e w' => e = .returned (.int .i64 (stT s i).st) ∧ wr = w' := by
  obtain ⟨F, y, h1, _⟩ := h
  have := status_any (i := i) h1 (in_small (by omega))
  rw [stat_eq] at this
  exact this
theorem NSt.ow (h : NSt w0 wr L k s) (hn : ND s) (hr : rg id) (hq : (s.X id).q ≠ []) : Calls Try.prog 15 #[ptr L, .int .i64 id] wr fun e w' => e = .returned (.tuple #[.int .i64 (s.X id).ow, .bool true]) ∧ wr = w' := by
  obtain ⟨F, y, h1, _⟩ := h
  have := owner_any (id := id) h1 (rgI hr)
  have e : ownr s id = ((s.X id).ow, true) := by
    unfold ownr
    rw [hn.at hr]
    show (if (s.X id).mx = true ∧ (s.X id).ct ≠ 0 then _ else _) = _
    rw [if_pos ⟨(hn.1.lvl id hr).1, fun h0 => hq (hn.1.q0 id hr h0)⟩]
  rw [e] at this
  exact this
theorem NSt.wt (h : NSt w0 wr L k s) (hn : ND s) (hr : rg id) : Calls Try.prog 17 #[ptr L, .int .i64 id] wr fun e w' => ∃ v, e = .returned v ∧ QR w' noF v (s.X id).q ∧ NSt w0 w' L k s := by
  have h0 := h
  obtain ⟨F, y, h1, h2, h3⟩ := h
  refine (waiters_any (id := id) h1 (rgI hr) (hn.at hr) (hn.small.1 id hr)).mono ?_
  rintro e w' ⟨v, he, hq, hb⟩
  exact ⟨v, he, hq, h0.keep hb⟩
end
end Go.Proofs.Ytefgfmnnaglfmaa
