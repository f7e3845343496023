/- Words of SHA-256 on 32-bit numbers, and the rotations of the program and of the reference. Condition: numbers below 2^32. -/
import Derived.Test.YtndbbbkdpjkljaaDoorK
import Derived.Deep.QuietTactic
import Derived.BigQuiet
import Derived.RegionTactic
import Derived.Deep.MidRow
import Derived.Deep.DeepCutAuto
import Derived.Deep.RegionWith
import Derived.Laws.BitsAllLaws
import Derived.Laws.BitsLemmas
namespace Go.Proofs.YtndbbbkdpjkljaaDoor
open Go.RowKit

/-- A number of 32 bits. -/
def U (x : Int) : Prop := 0 ≤ x ∧ x ≤ 4294967295
def or3 (a b : Int) : Int := bits .or .u32 a b
def xo3 (a b : Int) : Int := bits .xor .u32 a b
def an3 (a b : Int) : Int := bits .and .u32 a b
def ad3 (a b : Int) : Int := (a + b) % 4294967296
/-- x rotated to the right, of its two parts. -/
def rr (d m : Int) (x : Int) : Int := bits .or .u32 (x / d) (x * m % 4294967296)

theorem nat_of {x : Int} (h : U x) : ∃ n : Nat, x = n ∧ n < 4294967296 := by
  obtain ⟨n, rfl⟩ := Int.eq_ofNat_of_zero_le h.1
  exact ⟨n, rfl, by have := h.2; omega⟩
theorem or3_u {a b : Int} (ha : U a) (hb : U b) : U (or3 a b) := by
  obtain ⟨m, rfl, hm⟩ := nat_of ha
  obtain ⟨n, rfl, hn⟩ := nat_of hb
  unfold or3; rw [u32_or_nat m n hm hn]
  have : m ||| n < 2 ^ 32 := Nat.or_lt_two_pow (by omega) (by omega)
  unfold U; omega
theorem xo3_u {a b : Int} (ha : U a) (hb : U b) : U (xo3 a b) := by
  obtain ⟨m, rfl, hm⟩ := nat_of ha
  obtain ⟨n, rfl, hn⟩ := nat_of hb
  unfold xo3; rw [u32_xor_nat m n hm hn]
  have : m ^^^ n < 2 ^ 32 := Nat.xor_lt_two_pow (by omega) (by omega)
  unfold U; omega
theorem an3_u {a b : Int} (ha : U a) (hb : U b) : U (an3 a b) := by
  obtain ⟨m, rfl, hm⟩ := nat_of ha
  obtain ⟨n, rfl, hn⟩ := nat_of hb
  unfold an3; rw [u32_and_nat m n hm hn]
  have : m &&& n < 2 ^ 32 := Nat.and_lt_two_pow _ (by omega)
  unfold U; omega
theorem ad3_u (a b : Int) : U (ad3 a b) := by unfold U ad3; omega
theorem or3_comm {a b : Int} (ha : U a) (hb : U b) : or3 a b = or3 b a := by
  obtain ⟨m, rfl, hm⟩ := nat_of ha
  obtain ⟨n, rfl, hn⟩ := nat_of hb
  unfold or3; rw [u32_or_nat m n hm hn, u32_or_nat n m hn hm, Nat.or_comm]
theorem rr_u {d m x : Int} (hd : 1 ≤ d) (hx : U x) : U (rr d m x) := by
  refine or3_u ⟨Int.ediv_nonneg hx.1 (by omega), ?_⟩ ⟨?_, ?_⟩
  · exact Int.le_trans (Int.ediv_le_self _ hx.1) hx.2
  · omega
  · omega
theorem rr_swap {d m x : Int} (hd : 1 ≤ d) (hx : U x) : bits .or .u32 (x * m % 4294967296) (x / d) = rr d m x := by
  refine or3_comm ⟨?_, ?_⟩ ⟨Int.ediv_nonneg hx.1 (by omega), ?_⟩
  · omega
  · omega
  · exact Int.le_trans (Int.ediv_le_self _ hx.1) hx.2


theorem rot7 (x : Int) (w : World) (hx : U x) : Calls Tryd.prog 42 #[.int .u32 x, .int .i64 (-7)] w fun e w' => e = .returned (.int .u32 (rr 128 33554432 x)) ∧ w = w' := by
  have e : bits BinOp.and IntKind.u64 (IntKind.u64.wrap (-7)) 31 = 25 := by kernel_rfl
  have HX := Lib.hid (rr_swap (d := 128) (m := 33554432) (by omega) hx)
  obtain ⟨h0, h1⟩ := hx
  go_enter Tryd.func42, Tryd.ntmps42
  go_wp2
  go_ret
  exact ⟨ret_int HX.out, rfl⟩
theorem ref7 (x : Int) (w : World) (hx : U x) : Calls Tryd.prog 44 #[.int .u32 x, .int .u64 7] w fun e w' => e = .returned (.int .u32 (rr 128 33554432 x)) ∧ w = w' := by
  obtain ⟨h0, h1⟩ := hx
  go_enter Tryd.func44, Tryd.ntmps44
  go_wp2
  go_ret
  exact ⟨rfl, rfl⟩

theorem rot18 (x : Int) (w : World) (hx : U x) : Calls Tryd.prog 42 #[.int .u32 x, .int .i64 (-18)] w fun e w' => e = .returned (.int .u32 (rr 262144 16384 x)) ∧ w = w' := by
  have e : bits BinOp.and IntKind.u64 (IntKind.u64.wrap (-18)) 31 = 14 := by kernel_rfl
  have HX := Lib.hid (rr_swap (d := 262144) (m := 16384) (by omega) hx)
  obtain ⟨h0, h1⟩ := hx
  go_enter Tryd.func42, Tryd.ntmps42
  go_wp2
  go_ret
  exact ⟨ret_int HX.out, rfl⟩
theorem ref18 (x : Int) (w : World) (hx : U x) : Calls Tryd.prog 44 #[.int .u32 x, .int .u64 18] w fun e w' => e = .returned (.int .u32 (rr 262144 16384 x)) ∧ w = w' := by
  obtain ⟨h0, h1⟩ := hx
  go_enter Tryd.func44, Tryd.ntmps44
  go_wp2
  go_ret
  exact ⟨rfl, rfl⟩

theorem rot17 (x : Int) (w : World) (hx : U x) : Calls Tryd.prog 42 #[.int .u32 x, .int .i64 (-17)] w fun e w' => e = .returned (.int .u32 (rr 131072 32768 x)) ∧ w = w' := by
  have e : bits BinOp.and IntKind.u64 (IntKind.u64.wrap (-17)) 31 = 15 := by kernel_rfl
  have HX := Lib.hid (rr_swap (d := 131072) (m := 32768) (by omega) hx)
  obtain ⟨h0, h1⟩ := hx
  go_enter Tryd.func42, Tryd.ntmps42
  go_wp2
  go_ret
  exact ⟨ret_int HX.out, rfl⟩
theorem ref17 (x : Int) (w : World) (hx : U x) : Calls Tryd.prog 44 #[.int .u32 x, .int .u64 17] w fun e w' => e = .returned (.int .u32 (rr 131072 32768 x)) ∧ w = w' := by
  obtain ⟨h0, h1⟩ := hx
  go_enter Tryd.func44, Tryd.ntmps44
  go_wp2
  go_ret
  exact ⟨rfl, rfl⟩

theorem rot19 (x : Int) (w : World) (hx : U x) : Calls Tryd.prog 42 #[.int .u32 x, .int .i64 (-19)] w fun e w' => e = .returned (.int .u32 (rr 524288 8192 x)) ∧ w = w' := by
  have e : bits BinOp.and IntKind.u64 (IntKind.u64.wrap (-19)) 31 = 13 := by kernel_rfl
  have HX := Lib.hid (rr_swap (d := 524288) (m := 8192) (by omega) hx)
  obtain ⟨h0, h1⟩ := hx
  go_enter Tryd.func42, Tryd.ntmps42
  go_wp2
  go_ret
  exact ⟨ret_int HX.out, rfl⟩
theorem ref19 (x : Int) (w : World) (hx : U x) : Calls Tryd.prog 44 #[.int .u32 x, .int .u64 19] w fun e w' => e = .returned (.int .u32 (rr 524288 8192 x)) ∧ w = w' := by
  obtain ⟨h0, h1⟩ := hx
  go_enter Tryd.func44, Tryd.ntmps44
  go_wp2
  go_ret
  exact ⟨rfl, rfl⟩

theorem rot6 (x : Int) (w : World) (hx : U x) : Calls Tryd.prog 42 #[.int .u32 x, .int .i64 (-6)] w fun e w' => e = .returned (.int .u32 (rr 64 67108864 x)) ∧ w = w' := by
  have e : bits BinOp.and IntKind.u64 (IntKind.u64.wrap (-6)) 31 = 26 := by kernel_rfl
  have HX := Lib.hid (rr_swap (d := 64) (m := 67108864) (by omega) hx)
  obtain ⟨h0, h1⟩ := hx
  go_enter Tryd.func42, Tryd.ntmps42
  go_wp2
  go_ret
  exact ⟨ret_int HX.out, rfl⟩
theorem ref6 (x : Int) (w : World) (hx : U x) : Calls Tryd.prog 44 #[.int .u32 x, .int .u64 6] w fun e w' => e = .returned (.int .u32 (rr 64 67108864 x)) ∧ w = w' := by
  obtain ⟨h0, h1⟩ := hx
  go_enter Tryd.func44, Tryd.ntmps44
  go_wp2
  go_ret
  exact ⟨rfl, rfl⟩

theorem rot11 (x : Int) (w : World) (hx : U x) : Calls Tryd.prog 42 #[.int .u32 x, .int .i64 (-11)] w fun e w' => e = .returned (.int .u32 (rr 2048 2097152 x)) ∧ w = w' := by
  have e : bits BinOp.and IntKind.u64 (IntKind.u64.wrap (-11)) 31 = 21 := by kernel_rfl
  have HX := Lib.hid (rr_swap (d := 2048) (m := 2097152) (by omega) hx)
  obtain ⟨h0, h1⟩ := hx
  go_enter Tryd.func42, Tryd.ntmps42
  go_wp2
  go_ret
  exact ⟨ret_int HX.out, rfl⟩
theorem ref11 (x : Int) (w : World) (hx : U x) : Calls Tryd.prog 44 #[.int .u32 x, .int .u64 11] w fun e w' => e = .returned (.int .u32 (rr 2048 2097152 x)) ∧ w = w' := by
  obtain ⟨h0, h1⟩ := hx
  go_enter Tryd.func44, Tryd.ntmps44
  go_wp2
  go_ret
  exact ⟨rfl, rfl⟩

theorem rot25 (x : Int) (w : World) (hx : U x) : Calls Tryd.prog 42 #[.int .u32 x, .int .i64 (-25)] w fun e w' => e = .returned (.int .u32 (rr 33554432 128 x)) ∧ w = w' := by
  have e : bits BinOp.and IntKind.u64 (IntKind.u64.wrap (-25)) 31 = 7 := by kernel_rfl
  have HX := Lib.hid (rr_swap (d := 33554432) (m := 128) (by omega) hx)
  obtain ⟨h0, h1⟩ := hx
  go_enter Tryd.func42, Tryd.ntmps42
  go_wp2
  go_ret
  exact ⟨ret_int HX.out, rfl⟩
theorem ref25 (x : Int) (w : World) (hx : U x) : Calls Tryd.prog 44 #[.int .u32 x, .int .u64 25] w fun e w' => e = .returned (.int .u32 (rr 33554432 128 x)) ∧ w = w' := by
  obtain ⟨h0, h1⟩ := hx
  go_enter Tryd.func44, Tryd.ntmps44
  go_wp2
  go_ret
  exact ⟨rfl, rfl⟩

theorem rot2 (x : Int) (w : World) (hx : U x) : Calls Tryd.prog 42 #[.int .u32 x, .int .i64 (-2)] w fun e w' => e = .returned (.int .u32 (rr 4 1073741824 x)) ∧ w = w' := by
  have e : bits BinOp.and IntKind.u64 (IntKind.u64.wrap (-2)) 31 = 30 := by kernel_rfl
  have HX := Lib.hid (rr_swap (d := 4) (m := 1073741824) (by omega) hx)
  obtain ⟨h0, h1⟩ := hx
  go_enter Tryd.func42, Tryd.ntmps42
  go_wp2
  go_ret
  exact ⟨ret_int HX.out, rfl⟩
theorem ref2 (x : Int) (w : World) (hx : U x) : Calls Tryd.prog 44 #[.int .u32 x, .int .u64 2] w fun e w' => e = .returned (.int .u32 (rr 4 1073741824 x)) ∧ w = w' := by
  obtain ⟨h0, h1⟩ := hx
  go_enter Tryd.func44, Tryd.ntmps44
  go_wp2
  go_ret
  exact ⟨rfl, rfl⟩

theorem rot13 (x : Int) (w : World) (hx : U x) : Calls Tryd.prog 42 #[.int .u32 x, .int .i64 (-13)] w fun e w' => e = .returned (.int .u32 (rr 8192 524288 x)) ∧ w = w' := by
  have e : bits BinOp.and IntKind.u64 (IntKind.u64.wrap (-13)) 31 = 19 := by kernel_rfl
  have HX := Lib.hid (rr_swap (d := 8192) (m := 524288) (by omega) hx)
  obtain ⟨h0, h1⟩ := hx
  go_enter Tryd.func42, Tryd.ntmps42
  go_wp2
  go_ret
  exact ⟨ret_int HX.out, rfl⟩
theorem ref13 (x : Int) (w : World) (hx : U x) : Calls Tryd.prog 44 #[.int .u32 x, .int .u64 13] w fun e w' => e = .returned (.int .u32 (rr 8192 524288 x)) ∧ w = w' := by
  obtain ⟨h0, h1⟩ := hx
  go_enter Tryd.func44, Tryd.ntmps44
  go_wp2
  go_ret
  exact ⟨rfl, rfl⟩

theorem rot22 (x : Int) (w : World) (hx : U x) : Calls Tryd.prog 42 #[.int .u32 x, .int .i64 (-22)] w fun e w' => e = .returned (.int .u32 (rr 4194304 1024 x)) ∧ w = w' := by
  have e : bits BinOp.and IntKind.u64 (IntKind.u64.wrap (-22)) 31 = 10 := by kernel_rfl
  have HX := Lib.hid (rr_swap (d := 4194304) (m := 1024) (by omega) hx)
  obtain ⟨h0, h1⟩ := hx
  go_enter Tryd.func42, Tryd.ntmps42
  go_wp2
  go_ret
  exact ⟨ret_int HX.out, rfl⟩
theorem ref22 (x : Int) (w : World) (hx : U x) : Calls Tryd.prog 44 #[.int .u32 x, .int .u64 22] w fun e w' => e = .returned (.int .u32 (rr 4194304 1024 x)) ∧ w = w' := by
  obtain ⟨h0, h1⟩ := hx
  go_enter Tryd.func44, Tryd.ntmps44
  go_wp2
  go_ret
  exact ⟨rfl, rfl⟩
end Go.Proofs.YtndbbbkdpjkljaaDoor
