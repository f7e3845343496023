/- awake answers true; Measure where it refuses. Condition: the round constants lie in block 0. -/
import Derived.Test.YtndbbbkdpjkljaaDoorM
import Derived.Test.YtndbbbkdpjkljaaDoorG
namespace Go.Proofs.YtndbbbkdpjkljaaDoor
open Go.RowKit
attribute [local go_sem ↓] alloc26 load26n store26n
attribute [local go_sem] stN_uc stN_b8 set_new fold_drew ldN_drew ldN_drewN stN_drew stN_drewN

theorem measure_bad (B : Nat) (r : Int) (t s : ByteArray) (w : World) (hr : r < 0 ∨ 8 ≤ r) :
    Calls Tryd.prog 24 #[.pointer (some ⟨B, 0, none⟩), .int .i64 r, .string t, .string s] w fun e w' => e = .returned (.int .i64 1) ∧ w = w' := by
  go_enter Tryd.func24, Tryd.ntmps24
  go_wp2_with (go_at_call 39; refine (isreg_no r _ hr).mono ?_; rintro e w1 ⟨rfl, rfl⟩)
  go_ret
  exact ⟨rfl, rfl⟩
theorem measure_long (B : Nat) (r : Int) (t s : ByteArray) (w : World) (h64 : 64 < t.size) :
    Calls Tryd.prog 24 #[.pointer (some ⟨B, 0, none⟩), .int .i64 r, .string t, .string s] w fun e w' => e = .returned (.int .i64 1) ∧ w = w' := by
  by_cases hr : r < 0 ∨ 8 ≤ r
  · exact measure_bad B r t s w hr
  · obtain ⟨n, rfl⟩ := Int.eq_ofNat_of_zero_le (show 0 ≤ r by omega)
    have d1 : decide ((t.size : Int) > 64) = true := by simp; omega
    go_enter Tryd.func24, Tryd.ntmps24
    go_wp2_with (go_at_call 39; refine (isreg_yes n _ (by omega)).mono ?_; rintro e w1 ⟨rfl, rfl⟩)
    go_ret
    exact ⟨rfl, rfl⟩
theorem measure_full (base B r : Nat) (es : List Ev) (t s : ByteArray) (w : World) (hr : r < 8) (ht : t.size ≤ 64) (hes : 256 ≤ es.length) (hes2 : es.length ≤ 1000) (h : LOG w base B es) :
    Calls Tryd.prog 24 #[.pointer (some ⟨B, 0, none⟩), .int .i64 (r : Int), .string t, .string s] w fun e w' => e = .returned (.int .i64 8) ∧ w = w' := by
  obtain ⟨hbB, v, hL, hO⟩ := h
  obtain ⟨va, vc, rfl⟩ := own_len hO
  have c256 : w.cell? ⟨B, 256, none⟩ = some (.slice va es.length vc) := Row.cell hL (i := 256) (by omega)
  have d1 : decide ((t.size : Int) > 64) = false := by simp; omega
  have d2 : decide ((es.length : Int) ≥ 256) = true := by simp; omega
  clear hL hO
  go_enter Tryd.func24, Tryd.ntmps24
  go_wp2_with (go_at_call 39; refine (isreg_yes r _ hr).mono ?_; rintro e w1 ⟨rfl, rfl⟩)
  go_ret
  exact ⟨rfl, rfl⟩
theorem log_new {w : World} {base B : Nat} (hB : base ≤ B) (h : LG w B (fun _ _ => 0) (.slice none 0 0)) : LOG w base B [] := ⟨hB, .slice none 0 0, h, rfl, .inl ⟨rfl, rfl⟩⟩
theorem LOG.below {w w' : World} {base B B0 : Nat} {es : List Ev} (h : LOG w base B es) (hb : Below B0 w w') (hB : w.heap.size ≤ B0) : LOG w' base B es := by
  obtain ⟨h1, v, h2, h3⟩ := h
  exact ⟨h1, v, h2.below hb (by have := h2.lt; omega), own_below h3 hb hB⟩
theorem LOG.lg {w : World} {base B : Nat} {es : List Ev} (h : LOG w base B es) : ∃ v, LG w B (regs es) v := by
  obtain ⟨_, v, h2, _⟩ := h
  exact ⟨v, h2⟩

set_option maxRecDepth 1000000 in
theorem abc_0 : sumD [97, 98, 99] 0 = 186 ∧ sumD [97, 98, 99] 1 = 120 ∧ sumD [97, 98, 99] 31 = 173 := by decide +kernel
set_option maxRecDepth 1000000 in
theorem mac_0 : macD [107, 101, 121] [84, 104, 101, 32, 113, 117, 105, 99, 107, 32, 98, 114, 111, 119, 110, 32, 102, 111, 120, 32, 106, 117, 109, 112, 115, 32, 111, 118, 101, 114, 32, 116, 104, 101, 32, 108, 97, 122, 121, 32, 100, 111, 103] 0 = 247 ∧
    macD [107, 101, 121] [84, 104, 101, 32, 113, 117, 105, 99, 107, 32, 98, 114, 111, 119, 110, 32, 102, 111, 120, 32, 106, 117, 109, 112, 115, 32, 111, 118, 101, 114, 32, 116, 104, 101, 32, 108, 97, 122, 121, 32, 100, 111, 103] 1 = 188 := by decide +kernel
end Go.Proofs.YtndbbbkdpjkljaaDoor
