/- slices.SortFunc by slots. No condition but that the row's numbers lie in the topology. -/
import Derived.Test.YtedihfcbpgogoaaE
import Derived.Lib.OwnBridge
namespace Go.Proofs.Ytedihfcbpgogoaa
open Go.RowKit Go.Sort
theorem enc_put {n : Nat} (w : World) (g : Nat) (d : List (Fin (n + 1))) : putRow (fun i : Fin (n + 1) => Value.int .i64 (i.val : Int)) w g 0 d.toArray = putRow (Value.int .i64) w g 0 ((d.map fun i => (i.val : Int)).toArray) := by
  unfold putRow
  congr 1
  funext c
  unfold putCells
  congr 1
  funext k x
  simp only [Nat.zero_add, Nat.sub_zero, List.size_toArray, List.length_map]
  by_cases h : k < d.length
  · simp [h]
  · simp [h]
theorem grown_put {α : Type} [Inhabited α] (enc : α → Value) {w : World} {g n : Nat} {os : Array Obj} (d : Array α) : w.grownBy (sortWorld enc w g 0 n d os) (some g) := by
  refine ⟨rfl, rfl, rfl, by simp [sortWorld], fun k hk hne => ?_⟩
  unfold sortWorld
  rw [heap_grow_old _ _ (by simpa using hk)]
  have : g ≠ k := fun e => hne (by rw [e])
  simp [putRow, mapBlock, Sort.ahead, Array.getElem?_modify, this]
theorem cell_put {α : Type} [Inhabited α] (enc : α → Value) {w : World} {g n : Nat} {os : Array Obj} (d : Array α) (p : Addr) (h1 : p.block ≠ g) (h2 : p.block < w.heap.size) : (sortWorld enc w g 0 n d os).cell? p = w.cell? p :=
  Ch.cell (C := fun k => k = g) (Ch.of_grown (grown_put enc d) (fun k hk _ => by injection hk with hk; exact hk.symm)) p h2 h1
theorem ltS (T : List Fn) {n : Nat} (x y : Fin (n + 1)) : ltOf (fun x y : Fin (n + 1) => Lib.compareInt (fAt T x.val).sl (fAt T y.val).sl) x y = decide ((fAt T x.val).sl < (fAt T y.val).sl) := by
  unfold ltOf Lib.compareInt
  by_cases h1 : (fAt T x.val).sl < (fAt T y.val).sl
  · simp [h1]
  · by_cases h2 : (fAt T y.val).sl < (fAt T x.val).sl <;> simp [h1, h2]
theorem swoS (T : List Fn) (n : Nat) : SWO (ltOf (fun x y : Fin (n + 1) => Lib.compareInt (fAt T x.val).sl (fAt T y.val).sl)) where
  irrefl x := by rw [ltS]; simp
  trans x y z h1 h2 := by rw [ltS] at *; simp at *; omega
  ntrans x y z h1 h2 := by rw [ltS] at *; simp at *; omega
theorem lift_fin {n : Nat} : ∀ (E : List Int), (∀ e ∈ E, 0 ≤ e ∧ e < ((n + 1 : Nat) : Int)) → ∃ d : List (Fin (n + 1)), d.map (fun i => (i.val : Int)) = E
  | [], _ => ⟨[], rfl⟩
  | e :: E, h => by
    obtain ⟨d, hd⟩ := lift_fin E (fun x hx => h x (List.mem_cons_of_mem _ hx))
    have := h e (by simp)
    exact ⟨⟨e.toNat, by omega⟩ :: d, by simp [hd]; omega⟩
set_option maxHeartbeats 1000000 in
theorem sortOn {w0 w : World} {a : Option Addr} {n cap X g cp : Nat} {T : List Fn} {E : List Int} (H : FnS w0 a (n + 1) cap T) (hb : Below w0.heap.size w0 w) (hX : w.cell? ⟨X, 0, none⟩ = some (.slice a (n + 1) cap)) (hXl : X < w.heap.size) (hXg : X ≠ g) (hg : w0.heap.size ≤ g)
    (hr : IR w (.slice (some ⟨g, 0, none⟩) E.length cp) E) (hE : ∀ e ∈ E, 0 ≤ e ∧ e < ((n + 1 : Nat) : Int)) (hl : E.length ≤ 1000000) :
    Calls Try.prog 44 #[.slice (some ⟨g, 0, none⟩) E.length cp, .func (.func 45) #[] #[.pointer (some ⟨X, 0, none⟩)]] w fun e w' => e = .returned (.tuple #[]) ∧ ∃ E' : List Int, E'.Perm E ∧ E'.Pairwise (fun i j => (fAt T i.toNat).sl ≤ (fAt T j.toNat).sl) ∧ IR w' (.slice (some ⟨g, 0, none⟩) E.length cp) E' ∧ Ch (fun k => k = g) w w' := by
  obtain ⟨d, hd⟩ := lift_fin E hE
  have hlen : d.length = E.length := by rw [← hd, List.length_map]
  have eg : ∀ args w, (callFunc 45 args).run Try.prog w = .ok (.enter 45 args) w := enters_of Try.func45 (by kernel_rfl) rfl
  obtain ⟨_, ⟨hv, _⟩ | ⟨g', cp', cur, ev, _, hg', hn, hm, hsz, ht⟩⟩ := hr
  · cases hv
  injection ev with e1 e2 e3
  injection e1 with e1
  have : g = g' := congrArg Addr.block e1
  subst this
  subst e3
  have hgl := heap_lt hg'
  have hH : Holds (fun i : Fin (n + 1) => Value.int .i64 (i.val : Int)) w g 0 d.toArray := by
    intro j hj
    have hj' : j < d.length := by simpa using hj
    have hrow : w.ownsRow 0 3 1 (.slice (some ⟨g, 0, none⟩) E.length cp) E.length (E.map (Value.int .i64)) := ⟨by simp, .inr ⟨g, cp, cur, rfl, Nat.zero_le _, hg', hn, hm, hsz, ht⟩⟩
    rw [Nat.zero_add]
    refine ⟨?_, World.ownsRow.frozenAt hrow j⟩
    rw [World.ownsRow.cellAt hrow j (by omega), ← hd]
    simp [hj']
  have hcmp : CmpReads Try.prog 45 #[.pointer (some ⟨X, 0, none⟩)] (fun i : Fin (n + 1) => Value.int .i64 (i.val : Int)) (fun x y : Fin (n + 1) => Lib.compareInt (fAt T x.val).sl (fAt T y.val).sl) g 0 d.toArray.size w := by
    intro m os dk _ x y
    refine onCmp_any H (fun p hp => ?_) ?_ x.isLt y.isLt
    · rw [cell_put _ _ _ (by omega) (by have := hb.size; omega)]
      exact hb.cell hp
    · rw [cell_put _ _ _ hXg hXl]; exact hX
  have hcon := Try.slices_SortFunc (fun i : Fin (n + 1) => Value.int .i64 (i.val : Int)) (fun _ => rfl) (fun x y : Fin (n + 1) => Lib.compareInt (fAt T x.val).sl (fAt T y.val).sl) (swoS T n) 45 #[.pointer (some ⟨X, 0, none⟩)] g 0 cp d.toArray w eg hcmp.lays hH hgl (by simp; omega)
  rw [List.size_toArray, hlen] at hcon
  refine hcon.mono ?_
  rintro e w' ⟨he, d', q, os, hp, hs, rfl⟩
  have hp3 : d'.toList.Perm d := by
    have := hp.2.2
    have e1 : (d'.extract 0 E.length) = d' := by rw [← hlen]; have := hp.1; simp at this; rw [← this]; simp
    have e2 : (d.toArray.extract 0 E.length) = d.toArray := by rw [← hlen]; simp
    rw [e1, e2] at this
    simpa using this
  refine ⟨he, d'.toList.map (fun i => (i.val : Int)), by rw [← hd]; exact hp3.map _, ?_, ?_, ?_⟩
  · rw [List.pairwise_map]
    rw [List.pairwise_iff_getElem]
    intro i j hi hj hij
    have hsz' : d'.size = E.length := by have := hp.1; simp at this; omega
    have := hs i j (Nat.zero_le _) hij (by simp at hj; omega)
    rw [ltS] at this
    simp at this hi hj
    rw [getElem!_pos d' j (by omega), getElem!_pos d' i (by omega)] at this
    simpa using this
  · have hle : (d'.toList.map (fun i => (i.val : Int))).length = E.length := by rw [List.length_map, hp3.length_eq, hlen]
    unfold IR
    rw [hle]
    have h2 := ownsRow_sorted_i (w := w) (base := 0) (os := os) (n := q) (ss := E) (ts := d'.toList.map (fun i => (i.val : Int))) hle (Nat.zero_le _) hg' hn hm hsz
    have h3 : sortWorld (fun i : Fin (n + 1) => Value.int .i64 (i.val : Int)) w g 0 q d' os = grow (putRow (Value.int .i64) (Sort.ahead w q) g 0 (d'.toList.map (fun i => (i.val : Int))).toArray) os := by
      unfold sortWorld
      rw [← enc_put]
    rw [h3]
    exact h2
  · exact Ch.of_grown (grown_put _ _) (fun k hk _ => by injection hk with hk; exact hk.symm)
end Go.Proofs.Ytedihfcbpgogoaa
