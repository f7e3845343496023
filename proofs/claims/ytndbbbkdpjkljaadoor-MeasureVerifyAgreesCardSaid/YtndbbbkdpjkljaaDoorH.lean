/- The reference's block: what it computes. Condition: a block of 64 bytes, numbers below 2^32. -/
import Derived.Test.YtndbbbkdpjkljaaDoorE
import Derived.StillTailTactics
namespace Go.Proofs.YtndbbbkdpjkljaaDoor
open Go.RowKit

theorem or_add {a b i : Nat} (h : b < 2 ^ i) : a * 2 ^ i ||| b = a * 2 ^ i + b := by
  rw [← Nat.shiftLeft_eq, Nat.shiftLeft_add_eq_or_of_lt h]
theorem wd_add (s : List UInt8) (k : Nat) : wd s k = (bt s (4 * k) * 16777216 + bt s (4 * k + 1) * 65536 + bt s (4 * k + 2) * 256 + bt s (4 * k + 3)) % 4294967296 := by
  unfold wd or3 bt
  have l0 := (s.getD (4 * k) 0).toNat_lt
  have l1 := (s.getD (4 * k + 1) 0).toNat_lt
  have l2 := (s.getD (4 * k + 2) 0).toNat_lt
  have l3 := (s.getD (4 * k + 3) 0).toNat_lt
  generalize (s.getD (4 * k) 0).toNat = a at *
  generalize (s.getD (4 * k + 1) 0).toNat = b at *
  generalize (s.getD (4 * k + 2) 0).toNat = c at *
  generalize (s.getD (4 * k + 3) 0).toNat = d at *
  have e1 : (a : Int) * 16777216 = ((a * 16777216 : Nat) : Int) := by omega
  have e2 : (b : Int) * 65536 = ((b * 65536 : Nat) : Int) := by omega
  have e3 : (c : Int) * 256 = ((c * 256 : Nat) : Int) := by omega
  rw [e1, e2, e3, u32_or_nat _ _ (by omega) (by omega)]
  have o1 : a * 16777216 ||| b * 65536 = a * 16777216 + b * 65536 := or_add (i := 24) (by omega)
  rw [o1, u32_or_nat _ _ (by omega) (by omega)]
  have o2 : (a * 16777216 + b * 65536) ||| c * 256 = a * 16777216 + b * 65536 + c * 256 := by
    have := or_add (a := a * 256 + b) (b := c * 256) (i := 16) (by omega)
    rw [show (a * 256 + b) * 2 ^ 16 = a * 16777216 + b * 65536 by omega] at this
    exact this
  rw [o2, u32_or_nat _ _ (by omega) (by omega)]
  have o3 : (a * 16777216 + b * 65536 + c * 256) ||| d = a * 16777216 + b * 65536 + c * 256 + d := by
    have := or_add (a := a * 65536 + b * 256 + c) (b := d) (i := 8) (by omega)
    rw [show (a * 65536 + b * 256 + c) * 2 ^ 8 = a * 16777216 + b * 65536 + c * 256 by omega] at this
    exact this
  rw [o3]
  omega
theorem wdr_eq (s : ByteArray) (k : Nat) (h0 : 4 * k < s.size) (h1 : 4 * k + 1 < s.size) (h2 : 4 * k + 2 < s.size) (h3 : 4 * k + 3 < s.size) :
    ((((s[4 * k].toNat : Nat) : Int) % 4294967296 * 16777216 % 4294967296) + (((s[4 * k + 1].toNat : Nat) : Int) % 4294967296 * 65536 % 4294967296) + (((s[4 * k + 2].toNat : Nat) : Int) % 4294967296 * 256 % 4294967296) + (((s[4 * k + 3].toNat : Nat) : Int) % 4294967296)) % 4294967296 = wd s.data.toList k := by
  rw [byte_at s _ h0, byte_at s _ h1, byte_at s _ h2, byte_at s _ h3, wd_add]
  have b0 := bt_bd s.data.toList (4 * k)
  have b1 := bt_bd s.data.toList (4 * k + 1)
  have b2 := bt_bd s.data.toList (4 * k + 2)
  have b3 := bt_bd s.data.toList (4 * k + 3)
  omega

theorem stl {f : FuncId} {args : Array Value} {w : World} {v : Value} (h : Calls Tryd.prog f args w fun e w' => e = .returned v ∧ w = w') : Calls Tryd.prog f args w fun e w' => e = .returned v ∧ w' = w := h.mono fun _ _ ⟨a, b⟩ => ⟨a, b.symm⟩

/-- One operation, its run known. -/
theorem wpList_run {P : Program} {ops : Array Oper} {rest : List Oper} {o : Oper} {a : Act} {w : World} {Q : Exit → Act → World → Prop} (hg : o.guard = none) (v : Value) (w' : World)
    (h : (execOp a.eval o).run P w = .ok (.value v) w') (hK : wpList P ops Q rest (a.put o.dst v) w') : wpList P ops Q (o :: rest) a w :=
  wpList_plain hg fun K hk => by unfold Oper.wp; rw [h]; exact hk _ _ hK
theorem zz64 (w : World) : Sem.run Tryd.prog (zeroValue 77) w = .ok (.agg (arr 64 (uc fun _ => 0))) w := by kernel_rfl
set_option maxRecDepth 100000 in
set_option maxHeartbeats 1000000 in
theorem words_any (w : World) : Calls Tryd.prog 43 #[] w fun e w' => e = .returned (.agg (arr 64 (uc rc))) ∧ Below w.heap.size w w' := by
  have hT : (w.alloc (.cells (arr 64 (uc fun _ => 0)) 77)).there w.heap.size 0 64 := (Row.ofList w 77 _ _ 64 rfl).there
  have hrow := Row.setWhole (u := uc rc) (Row.ofList w 77 (arr 64 (uc fun _ => 0)) (uc fun _ => 0) 64 rfl)
  have HT := Lib.hid hT
  have HRow := Lib.hid hrow
  clear hT hrow
  go_enter Tryd.func43, Tryd.ntmps43
  iterate 3 go_step

  refine wpList_run (by rfl) (.pointer (some ⟨w.heap.size, 0, none⟩)) (w.alloc (.cells (arr 64 (uc fun _ => 0)) 77)) (by kernel_rfl) ?_
  go_wp2_with (first | (refine wpList_run (by rfl) (.agg (arr 64 (uc rc))) _ (by kernel_rfl) ?_) | (refine wpList_store_mid rfl 77 _ _ rfl w.heap.size 0 (arr 64 (uc rc)) rfl rfl (by exact HT.out) (by kernel_rfl) (by kernel_rfl) ?_))

  exact bodyPost_ret (v := .agg (arr 64 (uc rc))) (results_cell_row rfl _ _ w.heap.size 77 (arr 64 (uc rc)) (0, 0) _ rfl HRow.out.arr Tryd.underlying77 rfl (by kernel_rfl)) rfl ⟨rfl, Below.setAll (Nat.le_refl _) _ _ _ ((Below.refl _ _).alloc (Nat.le_refl _) _)⟩
end Go.Proofs.YtndbbbkdpjkljaaDoor
