/- The sorted names of the variables. No condition but sizes. -/
import Derived.Test.YtfglopkglnpokaaO
import Derived.Test.YtfglopkglnpokaaSi
import Derived.Sort.KeysCollected
import Derived.RangeFuncBound
namespace Go.Proofs.Ytfglopkglnpokaa
open Go.RowKit Go.Maps Go.Sort Go.Shelf
theorem sorts (m : Nat) : AnyZ.SortsIn Try.prog Try.sortedM_ren Fence.wide m :=
  ⟨fun blk off cap ss W hH hblk hsz => callsIn_wide.2 (AnyM.slices_Sort_string Try.sortM blk off cap ss W hH hblk hsz),
   fun p cap W => callsIn_wide.2 (AnyM.slices_Sort_string_none Try.sortM p cap W)⟩
theorem keys_any (b : Nat) (w : World) : Calls Try.prog 34 #[.map (some b)] w fun e w' => e = .returned (.func (.func 54) #[] #[.pointer (some ⟨w.heap.size, 0, none⟩)]) ∧ w' = w.alloc (.cells #[.map (some b)] 66) :=
  (callsIn_wide (n := 5)).1 (AnyZ.keys_in Try.keysM Fence.wide 5 trivial rfl (some b) w)
theorem sorted_names {V : Vars} (hV : Srt V) {ss : List Str} (h : ss.Perm (V.map (·.1))) : ss.mergeSort (fun x y => decide (x ≤ y)) = V.map (·.1) := by
  have h1 := mergeSort_of_perm h
  have h2 : (V.map (·.1)).Pairwise (fun a b => leB a b = true) := by
    refine List.pairwise_map.2 (hV.imp fun {a b} hab => ?_)
    simp only [leB, decide_eq_true_eq]
    exact List.le_of_lt hab
  have h3 := List.mergeSort_of_pairwise h2
  exact h1.trans h3
theorem SM.len {w : World} {b n : Nat} {V : Vars} (h : SM w b n V) (hV : Srt V) : V.length ≤ n := by
  obtain ⟨D, hown, g1, _⟩ := h
  have h1 := hown.size_le
  have hkp : (V.map (·.1)).Perm (strKeys D) :=
    Collected.perm (left := fun _ => false) (ss := V.map (·.1)) ⟨hV.nodup, fun x => by rw [g1, getV_isSome]; simp⟩ hown kS Try.underlying9 (fun _ => rfl)
  have h2 := hkp.length_eq
  rw [List.length_map] at h2
  have h3 : (strKeys D).length = Maps.size D := by
    obtain ⟨es, rfl⟩ := hown.isMap
    simp [strKeys, Maps.size]
  omega
set_option maxHeartbeats 1000000 in
theorem sorted_any {w : World} {b n : Nat} {V : Vars} (h : SM w b n V) (hV : Srt V) (hn : n ≤ 1000) :
    Calls Try.prog 33 #[.func (.func 54) #[] #[.pointer (some ⟨w.heap.size, 0, none⟩)]] (w.alloc (.cells #[.map (some b)] 66)) fun e w' =>
      ∃ a cap, e = .returned (.slice a V.length cap) ∧ (V = [] → a = none ∧ cap = 0) ∧ (V ≠ [] → ∃ g, a = some ⟨g, 0, none⟩ ∧ w.heap.size ≤ g ∧ PS w' g 0 cap (V.map (·.1))) ∧ Below w.heap.size w w' := by
  obtain ⟨D, hown, g1, g2⟩ := h
  have hbl := hown.lt
  have hsz := hown.size_le
  have hb0 : Below w.heap.size w (w.alloc (.cells #[.map (some b)] 66)) := (Below.refl _ _).alloc (Nat.le_refl _) _
  have hkp : (V.map (·.1)).Perm (strKeys D) :=
    Collected.perm (left := fun _ => false) (ss := V.map (·.1)) ⟨hV.nodup, fun x => by rw [g1, getV_isSome]; simp⟩ hown kS Try.underlying9 (fun _ => rfl)
  have hseq : SeqGives Fence.wide 2 Try.prog 54 #[.pointer (some ⟨w.heap.size, 0, none⟩)] encStr (fun ss => ss.Perm (strKeys D)) (Maps.size D) (w.alloc (.cells #[.map (some b)] 66)) :=
    AnyZ.keys_gives (ρ := Try.keysM_ren) { Try.keysM with } Fence.wide _ trivial rfl (by omega) w.heap.size b n D _ (by simp) (by simp) (by
      obtain ⟨es, clock, hb, Ft, hs, hD⟩ := hown
      exact ⟨es, clock, (Below.heap_alloc _ _ b hbl).trans hb, Ft, hs, hD⟩)
  have hc := AnyZ.sorted_in Try.sortedM Fence.wide 5 trivial trivial trivial trivial rfl (by omega) (sorts _) (enters_of Try.func53 (by kernel_rfl) rfl) 54 #[.pointer (some ⟨w.heap.size, 0, none⟩)] trivial (enters_of Try.func54 (by kernel_rfl) rfl) _ _ (by unfold maxLen; omega) (by omega) _ hseq
  refine ((callsIn_wide (n := 5)).1 hc).mono ?_
  rintro e w' ⟨v, ss, rfl, hS, hrow, hnil, hbel⟩
  have hm := sorted_names hV (hS.trans hkp.symm)
  rw [hm] at hrow
  have hlen : ss.length = V.length := by
    have := (hS.trans hkp.symm).length_eq
    simpa using this
  have hss : ss = [] ↔ V = [] := by
    rw [← List.length_eq_zero_iff, hlen, List.length_eq_zero_iff]
  rw [hlen] at hrow
  obtain ⟨hl, h1 | ⟨g, cap, cur, rfl, hbg, hh, hn1, hm1, hsz1, ht⟩⟩ := hrow
  · have hV0 : V = [] := List.eq_nil_of_length_eq_zero h1.2
    rw [h1.1, hV0]
    exact ⟨none, 0, rfl, fun _ => ⟨rfl, rfl⟩, fun hne => absurd rfl hne, hb0.trans (hbel.mono (by simp))⟩
  · refine ⟨some ⟨g, 0, none⟩, cap, rfl, fun h0 => ?_, fun _ => ⟨g, rfl, ?_, heap_lt hh, by rw [List.length_map]; exact hn1, hm1, fun j hj => ?_⟩, hb0.trans (hbel.mono (by simp))⟩
    · have := hnil.2 (hss.2 h0)
      cases this
    · have : (w.alloc (.cells #[.map (some b)] 66)).heap.size = w.heap.size + 1 := by simp
      omega
    · rw [List.length_map] at hj
      rw [Nat.zero_add, cell_of_row w' g j cur 9 (0, 0) hh, ← Array.getElem?_toList]
      have h2 : (cur.toList.take (V.length * 1))[j]? = ((V.map (·.1)).map encStr)[j]? := by rw [ht]
      rw [Nat.mul_one, List.getElem?_take_of_lt hj] at h2
      rw [h2, List.getElem?_map, List.getD_eq_getElem?_getD, List.getElem?_eq_getElem (by simpa using hj)]
      rfl
end Go.Proofs.Ytfglopkglnpokaa
