/- Bytes and bits. No condition. -/
import Derived.Test.YtfglopkglnpokaaD
namespace Go.Proofs.Ytfglopkglnpokaa
open Go.RowKit
theorem bv8 (a : UInt8) : BitVec.ofInt 8 (a.toNat : Int) = a.toBitVec := by
  rw [BitVec.ofInt_natCast]
  apply BitVec.eq_of_toNat_eq
  rw [BitVec.toNat_ofNat]
  exact Nat.mod_eq_of_lt a.toNat_lt
theorem wrap8 (a : UInt8) : IntKind.u8.wrap (a.toNat : Int) = (a.toNat : Int) := by
  have := a.toNat_lt
  simp [IntKind.wrap_u8]
  omega
theorem b_andNot (a b : UInt8) : bits .andNot .u8 (a.toNat : Int) (b.toNat : Int) = ((a &&& ~~~b).toNat : Int) := by
  show IntKind.u8.wrap ((BitVec.ofInt 8 (a.toNat : Int) &&& ~~~BitVec.ofInt 8 (b.toNat : Int)).toNat : Int) = _
  rw [bv8, bv8]
  exact wrap8 (a &&& ~~~b)
theorem b_and (a b : UInt8) : bits .and .u8 (a.toNat : Int) (b.toNat : Int) = ((a &&& b).toNat : Int) := by
  show IntKind.u8.wrap ((BitVec.ofInt 8 (a.toNat : Int) &&& BitVec.ofInt 8 (b.toNat : Int)).toNat : Int) = _
  rw [bv8, bv8]
  exact wrap8 (a &&& b)
theorem b_or (a b : UInt8) : bits .or .u8 (a.toNat : Int) (b.toNat : Int) = ((a ||| b).toNat : Int) := by
  show IntKind.u8.wrap ((BitVec.ofInt 8 (a.toNat : Int) ||| BitVec.ofInt 8 (b.toNat : Int)).toNat : Int) = _
  rw [bv8, bv8]
  exact wrap8 (a ||| b)
/-- Block g begins with these bytes, and they may be written. -/
def Bt (w : World) (g n : Nat) (l : Str) : Prop := ∃ (cur : Array Value) (fr : Nat × Nat), w.heap[g]? = some (.cells cur 5 fr) ∧ l.length = n ∧ (∀ i, i < n → cur[i]? = some (.int .u8 ((l.getD i 0).toNat : Int))) ∧ ∀ i, i < n → ¬ (fr.1 ≤ i ∧ i < fr.2)
section
variable {w w' : World} {g n : Nat} {l : Str}
theorem Bt.lt (h : Bt w g n l) : g < w.heap.size := by obtain ⟨_, _, hh, _⟩ := h; exact heap_lt hh
theorem Bt.cell (h : Bt w g n l) {i : Nat} (hi : i < n) : w.cell? ⟨g, i, none⟩ = some (.int .u8 ((l.getD i 0).toNat : Int)) := by
  obtain ⟨cur, fr, hh, _, h2, _⟩ := h
  rw [cell_of_row _ _ _ _ _ _ hh, h2 i hi]
theorem Bt.frozen (h : Bt w g n l) {i : Nat} (hi : i < n) : w.frozen? ⟨g, i, none⟩ = false := by
  obtain ⟨cur, fr, hh, _, _, h3⟩ := h
  have h4 := h3 i hi
  simp [World.frozen?, hh]
  omega
theorem Bt.ch {C : Nat → Prop} (h : Bt w g n l) (k : Ch C w w') (hg : ¬ C g) : Bt w' g n l := by
  have hl := h.lt
  obtain ⟨cur, fr, hh, r⟩ := h
  exact ⟨cur, fr, (k.block g hl hg).trans hh, r⟩
theorem Bt.set (h : Bt w g n l) {i : Nat} (hi : i < n) (u : UInt8) : Bt (w.setCell ⟨g, i, none⟩ (.int .u8 (u.toNat : Int))) g n (l.set i u) := by
  obtain ⟨cur, fr, hh, h1, h2, h3⟩ := h
  refine ⟨cur.setIfInBounds i (.int .u8 (u.toNat : Int)), fr, ?_, by rw [List.length_set]; exact h1, fun j hj => ?_, h3⟩
  · simp [World.setCell, Array.getElem?_modify, hh]
  · by_cases e : j = i
    · subst e
      rw [set_hit (Array.getElem?_eq_some_iff.1 (h2 j hj)).1, List.getD_eq_getElem?_getD, List.getElem?_set_self (by omega)]
      rfl
    · rw [set_miss (Ne.symm e), h2 j hj, List.getD_eq_getElem?_getD, List.getD_eq_getElem?_getD, List.getElem?_set_ne (Ne.symm e)]
theorem Bt.str (h : Bt w g n l) (cap : Nat) : (convert 78 9 (.slice (some ⟨g, 0, none⟩) n cap)).run Try.prog w = .ok (.string ⟨l.toArray⟩) w := by
  obtain ⟨cur, fr, hh, h1, h2, h3⟩ := h
  have := run_convert_bytes_back (P := Try.prog) w 78 9 5 ⟨g, 0, none⟩ cap l Try.underlying78 Try.underlying5 Try.underlying9 (fun j hj => by
    rw [Addr.add_mid, cell_of_row _ _ _ _ _ _ hh, Nat.zero_add, h2 j (by omega), List.getD_eq_getElem?_getD, List.getElem?_eq_getElem hj]
    rfl)
  rw [h1] at this
  exact this
end
theorem conv_bytes (w : World) (s : ByteArray) (hs : s.size ≤ 100000) : ∃ cap W, (convert 9 78 (.string s)).run Try.prog w = .ok (.slice (some ⟨w.heap.size, 0, none⟩) s.size cap) W ∧ s.size ≤ cap ∧ cap ≤ maxLen ∧ Bt W w.heap.size s.size s.data.toList ∧ Below w.heap.size w W := by
  have hg1 := grownCap_ge w s.size 0 5
  have hg2 := grownCap_le_maxLen w s.size 0 5 (by unfold maxLen; omega)
  refine ⟨_, _, run_bytes_of_string (P := Try.prog) w 9 78 5 s Try.underlying9 Try.underlying78 Try.underlying5, hg1, hg2, ⟨_, _, heap_alloc_new w.drew _, Array.length_toList, fun i hi => ?_, fun i hi => ?_⟩, ((Below.refl _ _).drew).alloc (Nat.le_refl _) _⟩
  · generalize grownCap w s.size 0 5 = cap at *
    have h0 : i < s.data.size := hi
    unfold bytesRow
    rw [Array.getElem?_append_left (by simpa using h0), Array.getElem?_map, Array.getElem?_eq_getElem h0, List.getD_eq_getElem?_getD, List.getElem?_eq_getElem (by simpa using h0)]
    simp
  · generalize grownCap w s.size 0 5 = cap at *
    have : (bytesRow s cap).size = cap := by
      simp [bytesRow]
      have : s.data.size = s.size := rfl
      omega
    simp only [this]
    omega
end Go.Proofs.Ytfglopkglnpokaa
