/- The log: New, Register, isRegister. Condition: none. -/
import Derived.Test.YtndbbbkdpjkljaaDoorE
namespace Go.Proofs.YtndbbbkdpjkljaaDoor
open Go.RowKit

/-- The cells of a log: eight registers of 32 bytes, the slice of events. -/
def lgv (G : Nat → Nat → Int) (v : Value) (i : Nat) : Value := if i < 256 then .int .u8 (G (i / 32) (i % 32)) else v
theorem lgv_reg (G : Nat → Nat → Int) (v : Value) (r j : Nat) (hr : r < 8) (hj : j < 32) : lgv G v (r * 32 + j) = .int .u8 (G r j) := by
  unfold lgv; rw [if_pos (by omega), show (r * 32 + j) / 32 = r by omega, show (r * 32 + j) % 32 = j by omega]
theorem lgv_ev (G : Nat → Nat → Int) (v : Value) : lgv G v 256 = v := if_neg (by omega)
/-- Block B is a log. -/
def LG (w : World) (B : Nat) (G : Nat → Nat → Int) (v : Value) : Prop := Row w B 71 257 (lgv G v)

theorem zero71 (w : World) : Sem.run Tryd.prog (zeroValue 71) w = .ok (.agg (arr 257 (lgv (fun _ _ => 0) (.slice none 0 0)))) w := by kernel_rfl
set_option maxRecDepth 100000 in
theorem new_any (w : World) : Calls Tryd.prog 20 #[] w fun e w' => e = .returned (.pointer (some ⟨w.heap.size, 0, none⟩)) ∧ LG w' w.heap.size (fun _ _ => 0) (.slice none 0 0) ∧ Below w.heap.size w w' := by
  go_enter Tryd.func20, Tryd.ntmps20
  go_wp2_with fail
  rw [zero71]
  go_wp2_with fail
  go_ret
  exact ⟨rfl, Row.ofList w 71 _ _ 257 rfl, (Below.refl _ _).alloc (Nat.le_refl _) _⟩

theorem isreg_yes (r : Nat) (w : World) (hr : r < 8) : Calls Tryd.prog 39 #[.int .i64 (r : Int)] w fun e w' => e = .returned (.bool true) ∧ w = w' := by
  have d1 : decide ((0 : Int) ≤ (r : Int)) = true := by simp
  have d2 : decide ((r : Int) < 8) = true := by simp; omega
  go_enter Tryd.func39, Tryd.ntmps39
  go_wp2
  go_ret
  exact ⟨rfl, rfl⟩
theorem isreg_no (r : Int) (w : World) (hr : r < 0 ∨ 8 ≤ r) : Calls Tryd.prog 39 #[.int .i64 r] w fun e w' => e = .returned (.bool false) ∧ w = w' := by
  by_cases h : r < 0
  · have d1 : decide ((0 : Int) ≤ r) = false := by simp; omega
    go_enter Tryd.func39, Tryd.ntmps39
    go_wp2
    go_ret
    exact ⟨rfl, rfl⟩
  · have d1 : decide ((0 : Int) ≤ r) = true := by simp; omega
    have d2 : decide (r < 8) = false := by simp; omega
    go_enter Tryd.func39, Tryd.ntmps39
    go_wp2
    go_ret
    exact ⟨rfl, rfl⟩

def zD : Nat → Int := fun _ => 0
theorem LG.range {w : World} {B r : Nat} {G : Nat → Nat → Int} {v : Value} (h : LG w B G v) (hr : r < 8) : w.rangeAt B (r * 32) (arr 32 (b8 (G r))).toList := fun j u hu => by
  have hj : j < 32 := by have := (List.getElem?_eq_some_iff.1 hu).1; simpa [arr] using this
  have : u = b8 (G r) j := by simpa [arr, hj] using hu.symm
  rw [this, Row.cell h (by omega), lgv_reg _ _ _ _ hr hj]; rfl

theorem res2 {fn : Func} {p u : Tmp} {ty : TypeId} (h : fn.results = #[.cell p ty, .tmp u]) (tmps : Array Value) (w : World) (g : Nat) (cs : Array Value) (y : Value)
    (hp : tmps.getD p undef = .pointer (some ⟨g, 0, none⟩)) (hy : tmps.getD u undef = y) (hl : (loadVar ty ⟨g, 0, none⟩).run Tryd.prog w = .ok (.agg cs) w) :
    (results fn tmps).run Tryd.prog w = .ok (.tuple #[.agg cs, y]) w := by
  rw [results_cell_tmp h, hp, hy]
  simp [asAddr, hl, Result.andThen]
theorem zz32 : (#[Value.int .u8 0, .int .u8 0, .int .u8 0, .int .u8 0, .int .u8 0, .int .u8 0, .int .u8 0, .int .u8 0, .int .u8 0, .int .u8 0, .int .u8 0, .int .u8 0, .int .u8 0, .int .u8 0, .int .u8 0, .int .u8 0, .int .u8 0, .int .u8 0, .int .u8 0, .int .u8 0, .int .u8 0, .int .u8 0, .int .u8 0, .int .u8 0, .int .u8 0, .int .u8 0, .int .u8 0, .int .u8 0, .int .u8 0, .int .u8 0, .int .u8 0, .int .u8 0] : Array Value) = arr 32 zb := by kernel_rfl
theorem zz26 (w : World) : Sem.run Tryd.prog (zeroValue 26) w = .ok (.agg (arr 32 zb)) w := by kernel_rfl
set_option maxRecDepth 100000 in
set_option maxHeartbeats 1000000 in
theorem register_no (B : Nat) (r : Int) (w : World) (hr : r < 0 ∨ 8 ≤ r) : Calls Tryd.prog 22 #[.pointer (some ⟨B, 0, none⟩), .int .i64 r] w fun e w' => e = .returned (.tuple #[.agg (arr 32 (b8 zD)), .int .i64 1]) ∧ Below w.heap.size w w' := by
  have a1 : Row (w.alloc (.cells (arr 32 zb) 26)) w.heap.size 26 32 zb := Row.ofList w 26 _ _ 32 rfl
  have hT := Lib.hid a1.there
  have hrow := Lib.hid (Row.setWhole (u := b8 zD) a1)
  clear a1
  go_enter Tryd.func22, Tryd.ntmps22
  go_wp2_with (first | (go_at_call 39; (try rw [zz32]); refine (isreg_no r _ hr).mono ?_; rintro e w1 ⟨rfl, rfl⟩) | (rw [zz32]; refine wpList_store_mid rfl 26 _ _ rfl w.heap.size 0 (arr 32 zb) rfl rfl (by exact hT.out) (by kernel_rfl) (by kernel_rfl) ?_))
  exact bodyPost_ret (v := .tuple #[.agg (arr 32 (b8 zD)), .int .i64 1]) (res2 rfl _ _ w.heap.size (arr 32 (b8 zD)) (.int .i64 1) rfl rfl (run_loadVar_row _ _ 26 26 _ (0, 0) _ hrow.out.arr Tryd.underlying26 rfl (by kernel_rfl))) rfl ⟨rfl, Below.setAll (Nat.le_refl _) _ _ _ ((Below.refl _ _).alloc (Nat.le_refl _) _)⟩
set_option maxRecDepth 100000 in
set_option maxHeartbeats 1000000 in
theorem register_yes (B r : Nat) (G : Nat → Nat → Int) (v : Value) (w : World) (hr : r < 8) (h : LG w B G v) : Calls Tryd.prog 22 #[.pointer (some ⟨B, 0, none⟩), .int .i64 (r : Int)] w fun e w' => e = .returned (.tuple #[.agg (arr 32 (b8 (G r))), .int .i64 0]) ∧ Below w.heap.size w w' := by
  have hra := Lib.hid (World.rangeAt_alloc (h.range hr) (.cells (arr 32 zb) 26))
  have r1 : (r : Int) < 8 := by omega
  have a1 : Row (w.alloc (.cells (arr 32 zb) 26)) w.heap.size 26 32 zb := Row.ofList w 26 _ _ 32 rfl
  have hT := Lib.hid a1.there
  have hrow := Lib.hid (Row.setWhole (u := b8 (G r)) a1)
  clear a1
  clear h
  go_enter Tryd.func22, Tryd.ntmps22
  go_wp2_with (first | (go_at_call 39; (try rw [zz32]); refine (isreg_yes r _ hr).mono ?_; rintro e w1 ⟨rfl, rfl⟩) | (refine wpList_load_mid rfl 26 _ rfl B (r * 32) rfl (arr 32 (b8 (G r))).toList _ (by exact hra.out) Tryd.underlying26 rfl (by kernel_rfl) ?_) | (refine wpList_store_mid rfl 26 _ _ rfl w.heap.size 0 (arr 32 (b8 (G r))) rfl rfl (by exact hT.out) (by kernel_rfl) (by kernel_rfl) ?_))
  exact bodyPost_ret (v := .tuple #[.agg (arr 32 (b8 (G r))), .int .i64 0]) (res2 rfl _ _ w.heap.size (arr 32 (b8 (G r))) (.int .i64 0) rfl rfl (run_loadVar_row _ _ 26 26 _ (0, 0) _ hrow.out.arr Tryd.underlying26 rfl (by kernel_rfl))) rfl ⟨rfl, Below.setAll (Nat.le_refl _) _ _ _ ((Below.refl _ _).alloc (Nat.le_refl _) _)⟩
end Go.Proofs.YtndbbbkdpjkljaaDoor
