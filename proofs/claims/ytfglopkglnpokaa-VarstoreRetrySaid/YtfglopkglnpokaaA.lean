/- zeroBits, pagesOf, permitted, number. Condition: lengths fit. -/
import Derived.Test.YtfglopkglnpokaaK
import Derived.Test.YtfglopkglnpokaaPl
import Derived.Test.YtfglopkglnpokaaSh
namespace Go.Proofs.Ytfglopkglnpokaa
open Go.RowKit
abbrev Str := List UInt8
/-- The bits of a byte that are 0. -/
def zbit (b : UInt8) : Nat := 8 - Lib.onesCount b.toNat
def zeros (l : Str) : Nat := (l.map zbit).sum
theorem ones_le : ∀ x : Fin 256, Lib.onesCount x.val ≤ 8 := by decide +kernel
theorem zbit_eq (b : UInt8) : ((zbit b : Nat) : Int) = 8 - (Lib.onesCount b.toNat : Int) := by
  have := ones_le ⟨b.toNat, b.toNat_lt⟩
  unfold zbit
  simp at this
  omega
theorem zbit_le (b : UInt8) : zbit b ≤ 8 := by unfold zbit; omega
theorem zeros_le (l : Str) : zeros l ≤ 8 * l.length := by
  induction l with
  | nil => simp [zeros]
  | cons b r ih => have := zbit_le b; simp [zeros] at *; omega
theorem zeros_append (a b : Str) : zeros (a ++ b) = zeros a + zeros b := by simp [zeros]
theorem zeros_succ {l : Str} {i : Nat} (h : i < l.length) : zeros (l.take (i + 1)) = zeros (l.take i) + zbit l[i] := by
  rw [List.take_succ_eq_append_getElem h, zeros_append]; simp [zeros]
set_option maxHeartbeats 1000000 in
theorem zeroBits_any (s : ByteArray) (w : World) (hs : s.size ≤ 1000000) :
    Calls Try.prog 58 #[.string s] w fun e w' => e = .returned (.int .i64 (zeros s.data.toList : Nat)) ∧ w = w' := by
  have hsz : s.data.toList.length = s.size := Array.length_toList
  go_enter Try.func58, Try.ntmps58
  go_wp2_with fail
  go_loop [3, 7] (fun x z => ∃ i : Nat, i ≤ s.size ∧ z = .int .i64 (i : Int) ∧ x = .int .i64 (zeros (s.data.toList.take i) : Nat)) (fun _ z => s.size - (intOf z).toNat)
  case atStart => exact ⟨0, by omega, rfl, rfl⟩
  case round =>
    obtain ⟨i, hi, rfl, rfl⟩ := hrel
    by_cases hlt : i < s.size
    · have y0 : (i : Int) < s.size := by omega
      obtain ⟨o, ho, h8, hB⟩ : ∃ o : Nat, Lib.onesCount s[i].toNat = o ∧ o ≤ 8 ∧ ((zeros (s.data.toList.take (i + 1)) : Nat) : Int) = (zeros (s.data.toList.take i) : Nat) + (8 - (o : Int)) := by
        refine ⟨_, rfl, ones_le ⟨s[i].toNat, s[i].toNat_lt⟩, ?_⟩
        rw [zeros_succ (l := s.data.toList) (i := i) (by omega), Int.natCast_add, zbit_eq]
        rfl
      have hb : s[i].toNat < 256 := s[i].toNat_lt
      have HB := Lib.hid hB
      have hz := zeros_le (s.data.toList.take i)
      rw [List.length_take] at hz
      have HC : Hid (Calls Try.prog 73 #[.int .u8 (s[i].toNat : Int)] w fun e w' => e = .returned (.int .i64 (o : Int)) ∧ w = w') := by
        refine (Try.bits_OnesCount8 _ w (by omega) (by omega)).mono ?_
        rintro e w' ⟨rfl, rfl⟩
        exact ⟨by rw [← ho]; rfl, rfl⟩
      clear hB ho
      generalize zeros (s.data.toList.take i) = z at *
      go_wp2_with fail
      refine HC.out.mono ?_
      rintro e w' ⟨rfl, rfl⟩
      go_wp2_with fail
      go_round
      case rel => exact ⟨i + 1, by omega, by go_num, by rw [HB.out]⟩
      case measure => simp [intOf]; omega
    · have y0 : ¬ (i : Int) < s.size := by omega
      have e : s.data.toList.take i = s.data.toList := List.take_of_length_le (by omega)
      rw [e]
      go_wp2_with fail
      go_ret
      exact ⟨rfl, rfl⟩
end Go.Proofs.Ytfglopkglnpokaa
