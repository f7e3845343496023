/- Held. Condition: numbers fit. -/
import Derived.Test.YtefgfmnnaglfmaaY2
namespace Go.Proofs.Ytefgfmnnaglfmaa
open Go.RowKit Go.Shelf
theorem QR.ofBase {w : World} {B : Nat} {v : Value} {l : List Int} (h : w.ownsRow B 3 1 v l.length (l.map (Value.int .i64))) : QR w noG v l ∧ ∀ g, v.ownBlock = some g → B ≤ g := by
  obtain ⟨h1, h2 | ⟨g, cap, cur, rfl, c, d⟩⟩ := h
  · refine ⟨⟨⟨h1, .inl h2⟩, fun g hg => ?_⟩, fun g hg => ?_⟩ <;> (rw [h2.1] at hg; cases hg)
  · refine ⟨⟨⟨h1, .inr ⟨g, cap, cur, rfl, Nat.zero_le _, d⟩⟩, fun _ _ h => h⟩, fun k hk => ?_⟩
    have : g = k := by simpa [Value.ownBlock] using hk
    omega
/-- What Collect makes of the iterator over a row. -/
theorem append_call {w : World} {Bs : Nat} {sv : Value} {zs : List Int} (hl : zs.length ≤ 1000) (hBs : Bs < w.heap.size) (hc : w.cell? ⟨Bs, 0, none⟩ = some sv) (hI : ViInts w.heap.size w sv zs) :
    Calls Try.prog 87 #[.slice none 0 0, .func (.func 73) #[] #[.pointer (some ⟨Bs, 0, none⟩)]] w fun e w' => ∃ v, e = .returned v ∧ QR w' noG v zs ∧ (∀ g, v.ownBlock = some g → w.heap.size ≤ g) ∧ Below w.heap.size w w' :=
  ((callsIn_wide (n := 5)).1 (ViAppend_in Fence.wide 5 trivial trivial rfl (by omega) Bs sv zs (by unfold maxLen; omega) (by omega) w hBs hc hI)).mono fun e w' ⟨v, he, hr, _, hb⟩ => ⟨v, he, (QR.ofBase hr).1, (QR.ofBase hr).2, hb⟩
theorem collect_call {w : World} {Bs : Nat} {sv : Value} {zs : List Int} (hl : zs.length ≤ 1000) (hBs : Bs < w.heap.size) (hc : w.cell? ⟨Bs, 0, none⟩ = some sv) (hI : ViInts w.heap.size w sv zs) :
    Calls Try.prog 72 #[.func (.func 73) #[] #[.pointer (some ⟨Bs, 0, none⟩)]] w fun e w' => ∃ v, e = .returned v ∧ QR w' noG v zs ∧ (∀ g, v.ownBlock = some g → w.heap.size ≤ g) ∧ Below w.heap.size w w' := by
  have HA := Lib.hid (append_call hl hBs hc hI)
  clear hc hI
  go_enter Try.func72, Try.ntmps72
  go_wp2_with fail
  refine HA.out.mono ?_
  rintro e w' ⟨v, rfl, h1, h2, h3⟩
  have H1 := Lib.hid h1
  have H2 := Lib.hid h2
  have H3 := Lib.hid h3
  clear h1 h2 h3
  go_wp2_with fail
  go_ret
  exact ⟨v, rfl, H1.out, H2.out, H3.out⟩
theorem sorted_call {w : World} {Bs : Nat} {sv : Value} {zs : List Int} (hl : zs.length ≤ 1000) (hBs : Bs < w.heap.size) (hc : w.cell? ⟨Bs, 0, none⟩ = some sv) (hI : ViInts w.heap.size w sv zs) :
    Calls Try.prog 52 #[.func (.func 73) #[] #[.pointer (some ⟨Bs, 0, none⟩)]] w fun e w' => ∃ v E, e = .returned v ∧ E.Perm zs ∧ E.Pairwise (· ≤ ·) ∧ QR w' noG v E ∧ (∀ g, v.ownBlock = some g → w.heap.size ≤ g) ∧ Below w.heap.size w w' := by
  have HA := Lib.hid (collect_call hl hBs hc hI)
  clear hc hI
  go_enter Try.func52, Try.ntmps52
  go_wp2_with fail
  refine HA.out.mono ?_
  rintro e w1 ⟨v, rfl, h1, h2, h3⟩
  have H2 := Lib.hid h2
  have H3 := Lib.hid h3
  have HS := Lib.hid (sort_call h1 hl)
  clear h1 h2 h3
  go_wp2_with fail
  refine HS.out.mono ?_
  rintro e w2 ⟨rfl, E, hp, hs, hq, hch⟩
  have HF : Hid (∃ E : List Int, E.Perm zs ∧ E.Pairwise (· ≤ ·) ∧ QR w2 noG v E ∧ (∀ g, v.ownBlock = some g → w.heap.size ≤ g) ∧ Below w.heap.size w w2) :=
    ⟨E, hp, hs, hq, H2.out, H3.out.trans (hch.below H3.out.size (fun k hk => H2.out k hk))⟩
  clear hp hs hq hch HS HA
  go_wp2_with fail
  go_ret
  obtain ⟨E, g1, g2, g3, g4, g5⟩ := HF.out
  exact ⟨v, E, rfl, g1, g2, g3, g4, g5⟩
theorem values_call (a : Option Addr) (len cap : Nat) (w : World) : Calls Try.prog 53 #[.slice a len cap] w fun e w' => e = .returned (.func (.func 73) #[] #[.pointer (some ⟨w.heap.size, 0, none⟩)]) ∧ w' = w.alloc (.cells #[.slice a len cap] 22) :=
  (callsIn_wide (n := 5)).1 (Vivalues_in Fence.wide 5 trivial rfl a len cap w)
section
variable {w : World} {F : Nat → Prop} {L n : Nat} {s : LK} {y : Lay}
theorem held_any {i : Int} (h : OK w F L n s y) (hi : InI i) (hl : (stT s i).hd.length ≤ 1000) :
    Calls Try.prog 26 #[ptr L, .int .i64 i] w fun e w' => ∃ v E, e = .returned v ∧ E.Perm (stT s i).hd ∧ E.Pairwise (· ≤ ·) ∧ QR w' noG v E ∧ (∀ g, v.ownBlock = some g → w.heap.size ≤ g) ∧ Below w.heap.size w w' := by
  have c1 := h.c1
  have hlt := h.lookT hi
  rcases hs : s.t i with _ | t
  · rw [ft_none hs] at hlt
    have e : (stT s i).hd = [] := by unfold stT; rw [hs]; rfl
    rw [e]
    clear h
    go_enter Try.func26, Try.ntmps26
    go_wp2_with fail
    go_ret
    exact ⟨_, [], rfl, List.Perm.refl _, List.Pairwise.nil, QR.nil _ _, (fun g hg => by cases hg), Below.refl _ _⟩
  · rw [ft_some hs] at hlt
    have e : stT s i = t := by unfold stT; rw [hs]; rfl
    rw [e] at hl ⊢
    obtain ⟨_, rT, qT, _⟩ := h.thr _ _ hs
    have t4 : w.cell? ⟨y.th i, 4, none⟩ = some (y.hv i) := Row.cell rT (i := 4) (by omega)
    obtain ⟨a, len, cap, ev, hI⟩ : ∃ a len cap, y.hv i = .slice a len cap ∧ ViInts w.heap.size w (.slice a len cap) t.hd := by
      rcases QR.cases qT with ⟨e1, e2⟩ | ⟨g, cp, e1⟩
      · exact ⟨_, _, _, e1, .inl ⟨rfl, e2⟩⟩
      · have hg := (qT.lt g (by rw [e1]; rfl)).2
        rw [e1] at qT
        obtain ⟨_, _, _, q3, _⟩ := qT.cell
        refine ⟨_, _, _, e1, .inr ⟨g, 0, cp, rfl, hg, fun j hj => ?_⟩⟩
        rw [q3 j hj, List.getD_eq_getElem?_getD]
    rw [ev] at t4
    have hb0 : Below w.heap.size w (w.alloc (.cells #[.slice a len cap] 22)) := (Below.refl _ _).alloc (Nat.le_refl _) _
    have HB0 := Lib.hid hb0
    have HI := Lib.hid (ViInts.below hb0 hI)
    have HS : Hid (Calls Try.prog 52 #[.func (.func 73) #[] #[.pointer (some ⟨w.heap.size, 0, none⟩)]] (w.alloc (.cells #[.slice a len cap] 22)) fun e w' => ∃ v E, e = .returned v ∧ E.Perm t.hd ∧ E.Pairwise (· ≤ ·) ∧ QR w' noG v E ∧ (∀ g, v.ownBlock = some g → w.heap.size ≤ g) ∧ Below w.heap.size w w') := by
      have hz : (w.alloc (.cells #[.slice a len cap] 22)).heap.size = w.heap.size + 1 := by simp
      have hI' : ViInts (w.alloc (.cells #[.slice a len cap] 22)).heap.size (w.alloc (.cells #[.slice a len cap] 22)) (.slice a len cap) t.hd := by
        rcases HI.out with h1 | ⟨b, o, cp, h1, h2, h3⟩
        · exact .inl h1
        · exact .inr ⟨b, o, cp, h1, by omega, h3⟩
      have hcell : (w.alloc (.cells #[.slice a len cap] 22)).cell? ⟨w.heap.size, 0, none⟩ = some (.slice a len cap) := cell_of_row _ _ 0 _ _ _ (heap_alloc_new w _)
      exact (sorted_call hl (by omega) hcell hI').mono fun e w' ⟨v, E, g0, g1, g2, g3, g4, g5⟩ => ⟨v, E, g0, g1, g2, g3, fun g hg => by have := g4 g hg; omega, bthen hb0 g5⟩
    have HV := Lib.hid (values_call a len cap w)
    clear h rT qT hI hb0 ev
    go_enter Try.func26, Try.ntmps26
    go_wp2_with fail
    refine HV.out.mono ?_
    rintro e w1 ⟨rfl, rfl⟩
    go_wp2_with fail
    refine HS.out.mono ?_
    rintro e w2 ⟨v, E, rfl, g1, g2, g3, g4, g5⟩
    have HF : Hid (E.Perm t.hd ∧ E.Pairwise (· ≤ ·) ∧ QR w2 noG v E ∧ (∀ g, v.ownBlock = some g → w.heap.size ≤ g) ∧ Below w.heap.size w w2) := ⟨g1, g2, g3, g4, g5⟩
    clear g1 g2 g3 g4 g5
    go_wp2_with fail
    go_ret
    exact ⟨v, E, rfl, HF.out⟩
end
end Go.Proofs.Ytefgfmnnaglfmaa
