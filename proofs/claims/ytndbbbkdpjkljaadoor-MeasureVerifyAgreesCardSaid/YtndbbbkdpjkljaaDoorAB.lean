/- The reference's Register, and Quote in the program and in the reference. -/
import Derived.Test.YtndbbbkdpjkljaaDoorY
import Derived.Test.YtndbbbkdpjkljaaDoorPt
namespace Go.Proofs.YtndbbbkdpjkljaaDoor
open Go.RowKit
theorem build26 (ρ : Operand → Value) (d : Option Tmp) (ty : TypeId) (p : String) (af : Array Edge) (g : Option (Nat × Bool)) (w : World) :
    Sem.run Tryd.prog (execOp ρ { dst := d, op := .build 26 #[], type := ty, pos := p, after := af, guard := g }) w = .ok (.value (.agg (arr 32 (b8 zD)))) w := by kernel_rfl
attribute [local go_sem ↓] build26 alloc26 load26n store26n alloc45 load45n store45n
attribute [local go_sem] stN_uc stN_b8 set_new fold_drew ldN_drew ldN_drewN stN_drew stN_drewN stN_ev set_ev stN_b8c set_newc

set_option maxRecDepth 100000 in
set_option maxHeartbeats 1000000 in
theorem rregister_no (B : Nat) (r : Int) (w : World) (hr : r < 0 ∨ 8 ≤ r) : Calls Tryd.prog 23 #[.pointer (some ⟨B, 0, none⟩), .int .i64 r] w fun e w' => e = .returned (.tuple #[.agg (arr 32 (b8 zD)), .int .i64 1]) ∧ Below w.heap.size w w' := by
  have hrow : Hid (Row (w.alloc (.cells (arr 32 (b8 zD)) 26)) w.heap.size 26 32 (b8 zD)) := Row.ofList w 26 _ _ 32 rfl
  by_cases h : r < 0
  · have d1 : decide (r < 0) = true := by simpa using h
    go_enter Tryd.func23, Tryd.ntmps23
    go_wp2_with fail
    exact bodyPost_ret (v := .tuple #[.agg (arr 32 (b8 zD)), .int .i64 1]) (res2 rfl _ _ w.heap.size (arr 32 (b8 zD)) (.int .i64 1) rfl rfl (run_loadVar_row _ _ 26 26 _ (0, 0) _ hrow.out.arr Tryd.underlying26 rfl (by kernel_rfl))) rfl ⟨rfl, (Below.refl _ _).alloc (Nat.le_refl _) _⟩
  · have d1 : decide (r < 0) = false := by simpa using h
    have d2 : decide (r ≥ 8) = true := by simp; omega
    go_enter Tryd.func23, Tryd.ntmps23
    go_wp2_with fail
    exact bodyPost_ret (v := .tuple #[.agg (arr 32 (b8 zD)), .int .i64 1]) (res2 rfl _ _ w.heap.size (arr 32 (b8 zD)) (.int .i64 1) rfl rfl (run_loadVar_row _ _ 26 26 _ (0, 0) _ hrow.out.arr Tryd.underlying26 rfl (by kernel_rfl))) rfl ⟨rfl, (Below.refl _ _).alloc (Nat.le_refl _) _⟩
set_option maxRecDepth 100000 in
set_option maxHeartbeats 1000000 in
theorem rregister_yes (base B r : Nat) (es : List Ev) (w : World) (hr : r < 8) (hok : es.all okE = true) (hby : ∀ e ∈ es, Byt e.d) (hl : es.length ≤ 1000) (h : RLOG w base B es) : Calls Tryd.prog 23 #[.pointer (some ⟨B, 0, none⟩), .int .i64 (r : Int)] w fun e w' => e = .returned (.tuple #[.agg (arr 32 (b8 (regs es r))), .int .i64 0]) ∧ Below w.heap.size w w' := by
  obtain ⟨hbB, v, hL, hO⟩ := h
  have c0 : (w.alloc (.cells (arr 32 zb) 26)).cell? ⟨B, 0, none⟩ = some v := (World.cell?_of_block (w := w) (Below.heap_alloc w _ B hL.lt)).trans (Row.cell hL (i := 0) (by omega))
  have HRd := Lib.hid ((OE.rd hO).below ((Below.refl w.heap.size w).alloc (Nat.le_refl _) (.cells (arr 32 zb) 26)) (Nat.le_refl _))
  have a1 : Hid (Row (w.alloc (.cells (arr 32 zb) 26)) w.heap.size 26 32 zb) := Row.ofList w 26 _ _ 32 rfl
  have b1 : Hid (Below w.heap.size w (w.alloc (.cells (arr 32 zb) 26))) := (Below.refl _ _).alloc (Nat.le_refl _) _
  have d1 : decide ((r : Int) < 0) = false := by simp
  have d2 : decide ((r : Int) ≥ 8) = false := by simp; omega
  have r8 : (r : Int) < 8 := by omega
  have r0 : (0 : Int) ≤ (r : Int) := by omega
  have HOK := Lib.hid hok
  have HBY := Lib.hid hby
  clear hL hO hok hby
  obtain ⟨D, hD⟩ : ∃ D : Nat → Int, regs es r = D := ⟨_, rfl⟩
  rw [hD]
  have HD := Lib.hid hD
  clear hD
  go_enter Tryd.func23, Tryd.ntmps23
  go_wp2_with fail
  generalize w.alloc (.cells (arr 32 zb) 26) = W at c0 HRd a1 b1 ⊢
  go_wp2_with fail
  refine (rreplay_any v es W HRd.out hl HBY.out).mono ?_
  rintro e w1 hrep
  obtain ⟨g, rfl, hg, hG, hb⟩ := hrep.ok HOK.out
  have lB : ldN 32 w1 (.pointer (some ⟨g, r * 32, none⟩)) = some (arr 32 (b8 D)) := by
    rw [← HD.out]; exact ldN_of (hG.range hr) (by simp [arr])
  have a2 := Lib.hid (Row.below a1.out hb a1.out.lt)
  have B2 := Lib.hid (bss b1.out hb)
  have hst : stN 32 w1 (.pointer (some ⟨w.heap.size, 0, none⟩)) (.agg (arr 32 (b8 D))) = some (w.heap.size, 0, arr 32 (b8 D)) := stN_of (by simp [arr]) (Row.there a2.out) (all_one _ _ (fun _ => rfl))
  have hrow := Lib.hid (Row.setWhole (u := b8 D) a2.out)
  have B3 : Hid (Below w.heap.size w (w1.setCells w.heap.size 0 (arr 32 (b8 D)).toList)) := Below.setAll (Nat.le_refl _) _ _ _ B2.out
  clear hG hrep hb hg
  go_wp2_with fail
  exact bodyPost_ret (v := .tuple #[.agg (arr 32 (b8 D)), .int .i64 0]) (res2 rfl _ _ w.heap.size (arr 32 (b8 D)) (.int .i64 0) rfl rfl (run_loadVar_row _ _ 26 26 _ (0, 0) _ hrow.out.arr Tryd.underlying26 rfl (by kernel_rfl))) rfl ⟨rfl, B3.out⟩
end Go.Proofs.YtndbbbkdpjkljaaDoor
