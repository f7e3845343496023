/- Mod and name. No condition. -/
import Derived.Test.YtfglopkglnpokaaV
namespace Go.Proofs.Ytfglopkglnpokaa
open Go.RowKit
def two64 : Int := 18446744073709551616
def mo (n : Int) (m : Nat) : Nat := (n % two64).toNat % m
theorem mo_lt (n : Int) (m : Nat) (hm : 0 < m) : mo n m < m := Nat.mod_lt _ hm
theorem mo_eq (n : Int) (m : Nat) : (n % 18446744073709551616) % (m : Int) = ((mo n m : Nat) : Int) := by
  have h : 0 ≤ n % 18446744073709551616 := Int.emod_nonneg _ (by decide)
  unfold mo two64
  rw [Int.natCast_emod, Int.toNat_of_nonneg h]
theorem mo_walk (v : Int) (m : Nat) (h2 : 1 ≤ m) (h3 : m ≤ 1000000) : wrap64 ((IntKind.u64.wrap v).tmod m) = ((mo v m : Nat) : Int) := by
  have e : IntKind.u64.wrap v = v % 18446744073709551616 := by simp [IntKind.wrap_u64]
  have h' := mo_lt v m h2
  rw [e, IntWalk.rem_in _ _ (by omega), mo_eq]
  exact IntWalk.wrap64_in _ (by omega)
theorem mod_any (n : Int) (m : Nat) (w : World) (hm : 1 ≤ m) (hm2 : m ≤ 1000000) : Calls Try.prog 15 #[.int .i64 n, .int .i64 (m : Int)] w fun e w' => e = .returned (.int .i64 ((mo n m : Nat) : Int)) ∧ w = w' := by
  go_enter Try.func15, Try.ntmps15
  go_wp2
  go_ret
  exact ⟨ret_int (mo_walk n m hm hm2), rfl⟩
theorem ix0 (w : World) : (Instr.index 40 (.agg #[.string ⟨#[97]⟩, .string ⟨#[98]⟩, .string ⟨#[66, 111, 111, 116]⟩, .string ⟨#[120, 49]⟩, .string ⟨#[0, 255]⟩, .string ⟨#[97, 32, 110, 97, 109, 101, 32, 111, 102, 32, 50, 52, 32, 98, 121, 116, 101, 115, 44, 32, 102, 117, 108, 108]⟩]) (.int .i64 0)).run Try.prog w = .ok (.string ⟨#[97]⟩) w := by kernel_rfl
theorem ix1 (w : World) : (Instr.index 40 (.agg #[.string ⟨#[97]⟩, .string ⟨#[98]⟩, .string ⟨#[66, 111, 111, 116]⟩, .string ⟨#[120, 49]⟩, .string ⟨#[0, 255]⟩, .string ⟨#[97, 32, 110, 97, 109, 101, 32, 111, 102, 32, 50, 52, 32, 98, 121, 116, 101, 115, 44, 32, 102, 117, 108, 108]⟩]) (.int .i64 1)).run Try.prog w = .ok (.string ⟨#[98]⟩) w := by kernel_rfl
theorem ix2 (w : World) : (Instr.index 40 (.agg #[.string ⟨#[97]⟩, .string ⟨#[98]⟩, .string ⟨#[66, 111, 111, 116]⟩, .string ⟨#[120, 49]⟩, .string ⟨#[0, 255]⟩, .string ⟨#[97, 32, 110, 97, 109, 101, 32, 111, 102, 32, 50, 52, 32, 98, 121, 116, 101, 115, 44, 32, 102, 117, 108, 108]⟩]) (.int .i64 2)).run Try.prog w = .ok (.string ⟨#[66, 111, 111, 116]⟩) w := by kernel_rfl
theorem ix3 (w : World) : (Instr.index 40 (.agg #[.string ⟨#[97]⟩, .string ⟨#[98]⟩, .string ⟨#[66, 111, 111, 116]⟩, .string ⟨#[120, 49]⟩, .string ⟨#[0, 255]⟩, .string ⟨#[97, 32, 110, 97, 109, 101, 32, 111, 102, 32, 50, 52, 32, 98, 121, 116, 101, 115, 44, 32, 102, 117, 108, 108]⟩]) (.int .i64 3)).run Try.prog w = .ok (.string ⟨#[120, 49]⟩) w := by kernel_rfl
theorem ix4 (w : World) : (Instr.index 40 (.agg #[.string ⟨#[97]⟩, .string ⟨#[98]⟩, .string ⟨#[66, 111, 111, 116]⟩, .string ⟨#[120, 49]⟩, .string ⟨#[0, 255]⟩, .string ⟨#[97, 32, 110, 97, 109, 101, 32, 111, 102, 32, 50, 52, 32, 98, 121, 116, 101, 115, 44, 32, 102, 117, 108, 108]⟩]) (.int .i64 4)).run Try.prog w = .ok (.string ⟨#[0, 255]⟩) w := by kernel_rfl
theorem ix5 (w : World) : (Instr.index 40 (.agg #[.string ⟨#[97]⟩, .string ⟨#[98]⟩, .string ⟨#[66, 111, 111, 116]⟩, .string ⟨#[120, 49]⟩, .string ⟨#[0, 255]⟩, .string ⟨#[97, 32, 110, 97, 109, 101, 32, 111, 102, 32, 50, 52, 32, 98, 121, 116, 101, 115, 44, 32, 102, 117, 108, 108]⟩]) (.int .i64 5)).run Try.prog w = .ok (.string ⟨#[97, 32, 110, 97, 109, 101, 32, 111, 102, 32, 50, 52, 32, 98, 121, 116, 101, 115, 44, 32, 102, 117, 108, 108]⟩) w := by kernel_rfl
def names : List Str := [[97], [98], [66, 111, 111, 116], [120, 49], [0, 255], [97, 32, 110, 97, 109, 101, 32, 111, 102, 32, 50, 52, 32, 98, 121, 116, 101, 115, 44, 32, 102, 117, 108, 108]]
def nameOf (k : Int) : Str := names.getD (mo k 6) []
theorem nameOf_len (k : Int) : 1 ≤ (nameOf k).length ∧ (nameOf k).length ≤ 24 := by
  unfold nameOf
  have h := mo_lt k 6 (by omega)
  generalize mo k 6 = i at *
  rcases (by omega : i = 0 ∨ i = 1 ∨ i = 2 ∨ i = 3 ∨ i = 4 ∨ i = 5) with e | e | e | e | e | e <;> subst e <;> decide
set_option maxRecDepth 100000 in
set_option maxHeartbeats 2000000 in
theorem name_any (k : Int) (w : World) : Calls Try.prog 19 #[.int .i64 k] w fun e w' => e = .returned (str (nameOf k)) ∧ w = w' := by
  have HM : Hid (Calls Try.prog 15 #[.int .i64 k, .int .i64 6] w fun e w' => e = .returned (.int .i64 ((mo k 6 : Nat) : Int)) ∧ w = w') := mod_any k 6 w (by omega) (by omega)
  have h := mo_lt k 6 (by omega)
  have h0 := ix0 w
  have h1 := ix1 w
  have h2 := ix2 w
  have h3 := ix3 w
  have h4 := ix4 w
  have h5 := ix5 w
  unfold nameOf
  generalize mo k 6 = i at *
  rcases (by omega : i = 0 ∨ i = 1 ∨ i = 2 ∨ i = 3 ∨ i = 4 ∨ i = 5) with e | e | e | e | e | e <;> subst e
  all_goals
    go_enter Try.func19, Try.ntmps19
    go_wp2_with fail
    refine HM.out.mono ?_
    rintro e w' ⟨rfl, rfl⟩
    go_wp2_with fail
    go_ret
    exact ⟨rfl, rfl⟩
end Go.Proofs.Ytfglopkglnpokaa
