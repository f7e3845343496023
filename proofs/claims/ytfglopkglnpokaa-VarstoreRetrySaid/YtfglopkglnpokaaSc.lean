/- slices.Clone of a flash's blocks and of pages. No condition but sizes. -/
import Derived.Test.YtfglopkglnpokaaLF
import Derived.Shelf.SlicesE.Clone
namespace Go.Proofs.Ytfglopkglnpokaa
open Go.RowKit Go.Shelf
def Try.bk_ren : Go.Shelf.Ren := ⟨fun | 41 => 41 | n => n, fun | 22 => 74 | 23 => 73 | 4 => 4 | n => n, fun n => n⟩
theorem Try.bk : Go.Proofs.SlLaysE0.n41 Try.prog Try.bk_ren := {
  mixed := by kernel_rfl
  f41 := ⟨Try.f41.name, by decide, Try.func41.trans (congrArg some (by kernel_rfl))⟩
  t4 := Try.underlying4
  a4 := Try.isAgg4
  z4 := Try.sizeOf4
  v4 := Try.zeroValue4
  t22 := Try.underlying74
  a22 := Try.isAgg74
  z22 := Try.sizeOf74
  v22 := Try.zeroValue74 }
def Try.sk_ren : Go.Shelf.Ren := ⟨fun | 41 => 42 | n => n, fun | 22 => 71 | 23 => 9 | 4 => 4 | n => n, fun n => n⟩
theorem Try.sk : Go.Proofs.SlLaysE0.n41 Try.prog Try.sk_ren := {
  mixed := by kernel_rfl
  f41 := ⟨Try.f42.name, by decide, Try.func42.trans (congrArg some (by kernel_rfl))⟩
  t4 := Try.underlying4
  a4 := Try.isAgg4
  z4 := Try.sizeOf4
  v4 := Try.zeroValue4
  t22 := Try.underlying71
  a22 := Try.isAgg71
  z22 := Try.sizeOf71
  v22 := Try.zeroValue71 }
/-- A row of blocks cloned. -/
theorem cloneB_any {w : World} {b n c : Nat} {f : Nat → Value} (h : Rg w b 73 (n * 2) f) (hn : n ≤ 1000) (h1 : ∀ i, i < n * 2 → (f i).oneCell' = true) :
    Calls Try.prog 41 #[.slice (some ⟨b, 0, none⟩) n c] w fun e w' => ∃ g cap, e = .returned (.slice (some ⟨g, 0, none⟩) n cap) ∧ w.heap.size ≤ g ∧ n ≤ cap ∧ cap ≤ maxLen ∧ Rg w' g 73 (n * 2) f ∧ Below w.heap.size w w' := by
  obtain ⟨i0, hi0, hx0, hx1, hx2⟩ := info_parts Try.infoB
  have hnews : ∀ j u, ((List.range (n * 2)).map f)[j]? = some u → w.cell? ⟨b, 0 + j, none⟩ = some u := fun j u hj => by
    rw [List.getElem?_map] at hj
    have hlt : j < n * 2 := by
      rcases Nat.lt_or_ge j (n * 2) with h | h
      · exact h
      · rw [List.getElem?_eq_none (by simpa using h)] at hj; cases hj
    rw [List.getElem?_range hlt] at hj
    have hj : f j = u := Option.some.inj hj
    rw [Nat.zero_add, ← hj]
    exact h.cell hlt
  refine (Go.Proofs.AnyE.slices_Clone Try.bk i0 _ 2 32 hi0 hx0 hx1 hx2 rfl (by omega) Try.sizeOf73 b 0 n c ((List.range (n * 2)).map f) w (by simp) (by unfold maxLen; omega) (by omega) hnews (fun u hu => by
    obtain ⟨i, hi, rfl⟩ := List.mem_map.1 hu
    exact h1 i (List.mem_range.1 hi))).mono ?_
  rintro e w' ⟨v', rfl, hown, hne, hb⟩
  obtain ⟨_, k1 | ⟨g, cap, cur, rfl, hg, hh, hc1, hc2, _, ht⟩⟩ := hown
  · exact absurd k1.1 hne
  · refine ⟨g, cap, rfl, hg, hc1, hc2, ⟨cur, hh, fun i hi => ?_⟩, hb⟩
    have : ((List.range (n * 2)).map f)[i]? = some (f i) := by rw [List.getElem?_map, List.getElem?_range hi]; rfl
    rw [← ht, List.getElem?_take_of_lt hi, Array.getElem?_toList] at this
    exact this
/-- A row of pages cloned. -/
theorem cloneS_any {w : World} {b n c : Nat} {f : Nat → Value} (h : Rg w b 9 n f) (hn : n ≤ 1000) (h1 : ∀ i, i < n → (f i).oneCell' = true) :
    Calls Try.prog 42 #[.slice (some ⟨b, 0, none⟩) n c] w fun e w' => ∃ g cap, e = .returned (.slice (some ⟨g, 0, none⟩) n cap) ∧ w.heap.size ≤ g ∧ n ≤ cap ∧ cap ≤ maxLen ∧ Rg w' g 9 n f ∧ Below w.heap.size w w' := by
  obtain ⟨i0, hi0, hx0, hx1, hx2⟩ := info_parts Try.infoS
  have hnews : ∀ j u, ((List.range n).map f)[j]? = some u → w.cell? ⟨b, 0 + j, none⟩ = some u := fun j u hj => by
    rw [List.getElem?_map] at hj
    have hlt : j < n := by
      rcases Nat.lt_or_ge j n with h | h
      · exact h
      · rw [List.getElem?_eq_none (by simpa using h)] at hj; cases hj
    rw [List.getElem?_range hlt] at hj
    have hj : f j = u := Option.some.inj hj
    rw [Nat.zero_add, ← hj]
    exact h.cell hlt
  refine (Go.Proofs.AnyE.slices_Clone Try.sk i0 _ 1 16 hi0 hx0 hx1 hx2 rfl (by omega) Try.sizeOf9 b 0 n c ((List.range n).map f) w (by simp) (by unfold maxLen; omega) (by omega) hnews (fun u hu => by
    obtain ⟨i, hi, rfl⟩ := List.mem_map.1 hu
    exact h1 i (List.mem_range.1 hi))).mono ?_
  rintro e w' ⟨v', rfl, hown, hne, hb⟩
  obtain ⟨_, k1 | ⟨g, cap, cur, rfl, hg, hh, hc1, hc2, _, ht⟩⟩ := hown
  · exact absurd k1.1 hne
  · refine ⟨g, cap, rfl, hg, hc1, hc2, ⟨cur, hh, fun i hi => ?_⟩, hb⟩
    have : ((List.range n).map f)[i]? = some (f i) := by rw [List.getElem?_map, List.getElem?_range hi]; rfl
    rw [← ht, List.getElem?_take_of_lt (by omega), Array.getElem?_toList] at this
    exact this
end Go.Proofs.Ytfglopkglnpokaa
