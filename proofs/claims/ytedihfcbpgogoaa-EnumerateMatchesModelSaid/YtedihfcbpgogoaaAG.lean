/- agrees answers true; topologies changed in place. No condition but that the row lies in memory. -/
import Derived.Test.YtedihfcbpgogoaaL7
namespace Go.Proofs.Ytedihfcbpgogoaa
open Go.RowKit
theorem BusP.both {T : List Fn} {n : Int} {w w1 w2 w3 : World} {e e' : Ending} (h : BusP T n w e w1) (h' : BusP T n w2 e' w3) : ∃ a a' m c c' x, e = .returned (.tuple #[.slice a m c, .int .i64 x]) ∧ e' = .returned (.tuple #[.slice a' m c', .int .i64 x]) ∧ BS w1 a m c (bus T).2 ∧ BS w3 a' m c' (bus T).2 := by
  have nl : ∀ X : World, BS X none 0 0 (bus T).2 := fun X => ⟨Nat.le_refl _, by omega, .inl rfl⟩
  obtain ⟨_, ⟨hv, rfl⟩ | ⟨hv, h1, h2, h3, rfl⟩ | ⟨hv, h1, h2, h3, B, hB, hr, rfl⟩⟩ := h <;> obtain ⟨_, ⟨hv', rfl⟩ | ⟨hv', h1', h2', h3', rfl⟩ | ⟨hv', h1', h2', h3', B', hB', hr', rfl⟩⟩ := h'
  · exact ⟨_, _, _, _, _, _, rfl, rfl, nl _, nl _⟩
  · exact absurd ⟨hv', h1', h2'⟩ hv
  · exact absurd ⟨hv', h1', h2'⟩ hv
  · exact absurd ⟨hv, h1, h2⟩ hv'
  · exact ⟨_, _, _, _, _, _, rfl, rfl, nl _, nl _⟩
  · omega
  · exact absurd ⟨hv, h1, h2⟩ hv'
  · omega
  · exact ⟨_, _, _, _, _, _, rfl, rfl, ⟨Nat.le_refl _, by have := hv.len; omega, .inr ⟨B, rfl, hr⟩⟩, ⟨Nat.le_refl _, by have := hv.len; omega, .inr ⟨B', rfl, hr'⟩⟩⟩
theorem VisitP.both {T : List Fn} {w w1 w2 w3 : World} {e e' : Ending} (h : VisitP T w e w1) (h' : VisitP T w2 e' w3) : ∃ v v' E, e = .returned v ∧ e' = .returned v' ∧ OW w w1 v E ∧ OW w2 w3 v' E ∧ E.length ≤ 1000 := by
  obtain ⟨v, E, rfl, o, h1, h2⟩ := h
  obtain ⟨v', E', rfl, o', h3, h4⟩ := h'
  by_cases ha : Vld T
  · have e1 := h1 ha
    have e2 := h3 ha
    subst e1 e2
    have := vis_len ha.vt (T.length + 1) (-1)
    have := ha.len
    exact ⟨v, v', _, rfl, rfl, o, o', by rw [toI_len]; omega⟩
  · have e1 := h2 ha
    have e2 := h4 ha
    subst e1 e2
    exact ⟨v, v', [], rfl, rfl, o, o', by simp⟩
set_option maxHeartbeats 2000000 in
theorem agrees_any {w : World} {a : Option Addr} {len cap : Nat} {T : List Fn} {n : Int} (h : FnS w a len cap T) :
    Calls Try.prog 11 #[.slice a len cap, .int .i64 n] w fun e w' => e = .returned (.bool true) ∧ Below w.heap.size w w' := by
  have H := Lib.hid h
  have HB := Lib.hid (buses_any (n := n) h)
  clear h
  go_enter Try.func11, Try.ntmps11
  go_wp2_with fail
  refine HB.out.mono ?_
  intro e w1 p1
  have P1 := Lib.hid p1
  have C1 : Hid (Below w.heap.size w w1) := p1.1
  obtain ⟨a1, _, m1, c1, _, x1, rfl, _, s1, _⟩ := p1.both p1
  have HB2 := Lib.hid (rbuses_any (n := n) (H.out.below C1.out))
  clear p1 s1 HB
  go_wp2_with fail
  refine HB2.out.mono ?_
  intro e w2 p2
  have C2 : Hid (Below w.heap.size w w2) := bthen C1.out p2.1
  obtain ⟨a1', a2, m2, c1', c2, x2, e1, rfl, s1, s2⟩ := P1.out.both p2
  injection e1 with e1
  injection e1 with e1
  simp only [Array.mk.injEq, List.cons.injEq, Value.slice.injEq, Value.int.injEq, true_and, and_true] at e1
  obtain ⟨⟨rfl, rfl, rfl⟩, rfl⟩ := e1
  have S1 := Lib.hid (s1.below p2.1)
  have S2 := Lib.hid s2
  have HV := Lib.hid (valid_any (H.out.below C2.out))
  have hc1 := s1.1
  have hc2 := s2.1
  clear p2 s1 s2 HB2 P1
  go_wp2_with fail
  refine HV.out.mono ?_
  rintro e w3 ⟨t3, rfl, ht3, b3⟩
  have C3 : Hid (Below w.heap.size w w3) := bthen C2.out b3
  have D3 : Hid (Below w2.heap.size w2 w3) := Lib.hid b3
  have HT3 := Lib.hid ht3
  have HV2 := Lib.hid (rvalid_any (H.out.below C3.out))
  clear b3 ht3 HV
  go_wp2_with fail
  refine HV2.out.mono ?_
  rintro e w4 ⟨t4, rfl, ht4, b4⟩
  have C4 : Hid (Below w.heap.size w w4) := bthen C3.out b4
  have D4 : Hid (Below w2.heap.size w2 w4) := bthen D3.out b4
  have e4 : t4 = t3 := by
    have h1 := HT3.out
    cases t3 <;> cases t4 <;> simp_all
  subst e4
  have HVi := Lib.hid (Visit_any (H.out.below C4.out))
  have hbb : (t4 == t4) = true := by simp
  clear b4 ht4 HT3 HV2
  cases t4
  all_goals
    clear hbb
    go_wp2_with fail
    refine HVi.out.mono ?_
    intro e w5 p5
    have P5 := Lib.hid p5
    obtain ⟨v5, E5, rfl, o5, _, _⟩ := p5
    have C5 : Hid (Below w.heap.size w w5) := bthen C4.out o5.bel
    have D5 : Hid (Below w2.heap.size w2 w5) := bthen D4.out o5.bel
    have HVi2 := Lib.hid (rVisit_any (H.out.below C5.out))
    clear o5 HVi
    go_wp2_with fail
    refine HVi2.out.mono ?_
    intro e w6 p6
    obtain ⟨v5', v6, E, e5, rfl, o5, o6, hE⟩ := P5.out.both p6
    injection e5 with e5
    subst e5
    have C6 : Hid (Below w.heap.size w w6) := bthen C5.out o6.bel
    have D6 : Hid (Below w2.heap.size w2 w6) := bthen D5.out o6.bel
    have HE := Lib.hid (equalI_any (o5.step o6.bel).row o6.row (by omega) (by omega))
    obtain ⟨p5, q5, rfl, _⟩ := o5.val
    obtain ⟨p6', q6, rfl, _⟩ := o6.val
    clear o5 o6 p6 P5 HVi2
    go_wp2_with fail
    refine HE.out.mono ?_
    rintro e w7 ⟨t7, rfl, ht7, b7⟩
    have t71 : t7 = true := ht7.2 (by trivial)
    subst t71
    have C7 : Hid (Below w.heap.size w w7) := bthen C6.out b7
    have D7 : Hid (Below w2.heap.size w2 w7) := bthen D6.out b7
    have HQ := Lib.hid (hequal_any (S1.out.below D7.out) (S2.out.below D7.out))
    clear b7 ht7 HE
    go_wp2_with fail
    refine HQ.out.mono ?_
    rintro e w8 ⟨t8, rfl, ht8, b8⟩
    have t81 : t8 = true := ht8.2 ⟨rfl, fun _ _ => rfl⟩
    subst t81
    have C8 : Hid (Below w.heap.size w w8) := bthen C7.out b8
    have hxx : (x1 == x1) = true := by simp
    clear b8 ht8 HQ
    go_wp2_with fail
    go_ret
    exact ⟨rfl, C8.out⟩
/-- A topology in block g that may be changed in place. -/
structure TM (w : World) (g len cap : Nat) (T : List Fn) : Prop where
  fn : FnS w (some ⟨g, 0, none⟩) len cap T
  ap : ∀ f ∈ T, f.ba ≠ [] → ∀ b o n c, f.bv = .slice (some ⟨b, o, none⟩) n c → b ≠ g
  hp : ∃ cur, w.heap[g]? = some (.cells cur 25 (0, 0))
theorem fAt_set {T : List Fn} {k : Nat} (f : Fn) (hk : k < T.length) : fAt (T.set k f) k = f := by
  unfold fAt; rw [List.getD_eq_getElem?_getD, List.getElem?_set_self hk]; rfl
theorem BV.far {w : World} {g i : Nat} {u : Value} {f : Fn} (h : BV w f) (ha : f.ba ≠ [] → ∀ b o n c, f.bv = .slice (some ⟨b, o, none⟩) n c → b ≠ g) : BV (w.setCell ⟨g, i, none⟩ u) f := by
  obtain ⟨a, c, e, hs⟩ := h
  refine ⟨a, c, e, ?_⟩
  by_cases hb0 : f.ba = []
  · rw [hb0] at hs ⊢
    exact ⟨hs.1, hs.2.1, hs.2.2.1, hs.2.2.2.1, fun h => absurd rfl h⟩
  · exact hs.ch ((Ch.refl (fun k => k = g) w).setCell (p := ⟨g, i, none⟩) (fun _ => rfl) u) (fun b o hb => ha hb0 b o _ c (by rw [e, hb]))
theorem TM.set {w : World} {g len cap k j : Nat} {T : List Fn} {u : Value} {f : Fn} (h : TM w g len cap T) (hk : k < len) (hj : j < 11) (hu : (cF f)[j]? = some u) (hc : ∀ q u', q ≠ j → (cF f)[q]? = some u' → (cF (fAt T k))[q]? = some u') (hw : wfF f) (hb : BV w f) (ha : f.ba ≠ [] → ∀ b o n c, f.bv = .slice (some ⟨b, o, none⟩) n c → b ≠ g) :
    TM (w.setCell ⟨g, k * 11 + j, none⟩ u) g len cap (T.set k f) := by
  obtain ⟨⟨⟨h1, h2, h3, h4, h5⟩, h6⟩, h7, cur, h8⟩ := h
  have hkT : k < T.length := by omega
  have hmem : ∀ x ∈ T.set k f, x = f ∨ x ∈ T := fun x hx => by
    rcases List.mem_or_eq_of_mem_set hx with h | h
    · exact .inr h
    · exact .inl h
  have hne : T ≠ [] := by intro e; rw [e] at hkT; simp at hkT
  obtain ⟨b, o, eg, hl, hr⟩ := h5 hne
  injection eg with eg
  injection eg with eg1 eg2 _
  subst eg1 eg2
  refine ⟨⟨⟨by rw [List.length_set]; exact h1, h2, h3, fun x hx => ?_, fun _ => ⟨g, 0, rfl, by simpa [World.setCell] using hl, fun i x hx q u' hq => ?_⟩⟩, fun x hx => ?_⟩, fun x hx => ?_, ⟨_, heap_set h8 u⟩⟩
  · rcases hmem x hx with rfl | h
    · exact hw
    · exact h4 x h
  · have hq11 : q < 11 := by have := (List.getElem?_eq_some_iff.1 hq).1; rw [cF_len] at this; exact this
    by_cases hik : i = k
    · subst hik
      obtain rfl : x = f := by rw [List.getElem?_set_self hkT] at hx; injection hx with hx; exact hx.symm
      by_cases hqj : q = j
      · subst hqj
        rw [hu] at hq
        injection hq with hq
        subst hq
        have hold : w.cell? ⟨g, 0 + i * 11 + q, none⟩ ≠ none := by
          have h9 := hr i (T[i]) (List.getElem?_eq_getElem hkT)
          have h10 : (cF T[i])[q]? = some ((cF T[i])[q]'(by rw [cF_len]; exact hq11)) := List.getElem?_eq_getElem _
          rw [h9 q _ h10]
          simp
        rw [show 0 + i * 11 + q = i * 11 + q by omega] at hold ⊢
        rw [cell_of_row _ _ _ _ _ _ h8] at hold
        rw [cell_of_row _ _ _ _ _ _ (heap_set h8 u)]
        have : i * 11 + q < cur.size := by
          rcases Nat.lt_or_ge (i * 11 + q) cur.size with h | h
          · exact h
          · rw [Array.getElem?_eq_none h] at hold; exact absurd rfl hold
        exact set_hit this
      · have h9 := hc q u' hqj hq
        have h10 : fAt T i = T[i] := by simp [fAt, hkT]
        rw [h10] at h9
        have h11 := hr i (T[i]) (List.getElem?_eq_getElem hkT) q u' h9
        rw [show 0 + i * 11 + q = i * 11 + q by omega] at h11 ⊢
        rw [cell_of_row _ _ _ _ _ _ h8] at h11
        rw [cell_of_row _ _ _ _ _ _ (heap_set h8 u), set_miss (by omega)]
        exact h11
    · rw [List.getElem?_set_ne (fun e => hik e.symm)] at hx
      have h11 := hr i x hx q u' hq
      rw [show 0 + i * 11 + q = i * 11 + q by omega] at h11 ⊢
      rw [cell_of_row _ _ _ _ _ _ h8] at h11
      rw [cell_of_row _ _ _ _ _ _ (heap_set h8 u), set_miss (by omega)]
      exact h11
  · rcases hmem x hx with rfl | h
    · exact hb.far ha
    · exact (h6 x h).far (h7 x h)
  · rcases hmem x hx with rfl | h
    · exact ha
    · exact h7 x h
theorem TM.cell {w : World} {g len cap k j : Nat} {T : List Fn} {u : Value} (h : TM w g len cap T) (hk : k < len) (hu : (cF (fAt T k))[j]? = some u) : w.cell? ⟨g, k * 11 + j, none⟩ = some u ∧ w.frozen? ⟨g, k * 11 + j, none⟩ = false := by
  obtain ⟨b, o, e, _, _, _, hr⟩ := h.fn.at hk
  injection e with e
  injection e with e1 e2 _
  subst e1 e2
  rw [Nat.zero_add] at hr
  obtain ⟨cur, h8⟩ := h.hp
  exact ⟨rangeAt.cell hr hu, by simp [World.frozen?, h8]⟩
/-- A topology that was built, as one that may be changed. -/
theorem topo_TM {w w' : World} {X : Nat} {vb : Value} {a : Option Addr} {c : Nat} {Lb : List Int} {T : List Fn} {Sx : Int → Int → Bool} {n : Nat} {R : Nat → Prop} (S : TS w w' X vb (.slice a T.length c) Lb T Sx n R) (G : TG Lb T) (hT : 0 < T.length) : ∃ g, a = some ⟨g, 0, none⟩ ∧ TM w' g T.length c T ∧ w.heap.size ≤ g := by
  obtain ⟨a', c', e, H⟩ := topo_FnS S G
  injection e with e1 _ e3
  subst e1 e3
  obtain ⟨_, ⟨h2, h3⟩ | ⟨g, cap', cur, h2, _, hg, _⟩⟩ := S.out
  · omega
  · injection h2 with h2 h4 h5
    subst h2 h5
    refine ⟨g, rfl, ⟨H, fun f hf _ b o n c e => ?_, cur, hg⟩, (S.no g rfl).1⟩
    obtain ⟨a2, c2, e1, _, e3⟩ := S.bars f hf
    rw [e1] at e
    injection e with e4 _ _
    have := (e3 b o e4).2.2.2.2.1
    intro e5
    exact this (by rw [e5]; rfl)
end Go.Proofs.Ytedihfcbpgogoaa
