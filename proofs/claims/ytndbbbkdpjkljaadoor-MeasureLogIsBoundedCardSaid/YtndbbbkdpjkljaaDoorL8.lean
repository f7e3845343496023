/- The walk of MeasureLogIsBounded. Condition: the round constants lie in block 0. -/
import Derived.Test.YtndbbbkdpjkljaaDoorS
namespace Go.Proofs.YtndbbbkdpjkljaaDoor
open Go.RowKit
attribute [local go_sem ↓] alloc26 load26n store26n
attribute [local go_sem] stN_uc stN_b8 set_new fold_drew ldN_drew ldN_drewN stN_drew stN_drewN

def txt : ByteArray := ⟨#[116]⟩
def lev (s : List UInt8) (n : Nat) : List Ev := (List.range n).map fun k => ⟨((k % 8 : Nat) : Int), sumD s, txt⟩
theorem lev_len (s : List UInt8) (n : Nat) : (lev s n).length = n := by simp [lev]
theorem lev_succ (s : List UInt8) (n : Nat) : lev s n ++ [⟨((n % 8 : Nat) : Int), sumD s, txt⟩] = lev s (n + 1) := by simp [lev, List.range_succ]
set_option maxRecDepth 100000 in
set_option maxHeartbeats 2000000 in
theorem bounded_walk (s : ByteArray) (w : World) (hr : Rnd w) (h0 : 0 < w.heap.size) :
    Calls Tryd.prog 8 #[.string s] w fun e w' => e = .returned (.bool true) ∧ Below w.heap.size w w' := by
  have HR := Lib.hid hr
  clear hr
  by_cases h5 : 50 < s.size
  · have d5 : decide ((s.size : Int) > 50) = true := by simp; omega
    go_enter Tryd.func8, Tryd.ntmps8
    go_wp2_with fail
    refine (awake_any _ HR.out h0).mono ?_
    rintro e w1 ⟨rfl, hb⟩
    go_wp2_with fail
    go_ret
    exact ⟨rfl, hb⟩
  · have d5 : decide ((s.size : Int) > 50) = false := by simp; omega
    go_enter Tryd.func8, Tryd.ntmps8
    go_wp2_with fail
    refine (new_any _).mono ?_
    rintro e w1 ⟨rfl, hL1, hb1⟩
    have q0 : Hid (LOG w1 w.heap.size w.heap.size (lev s.data.toList 0)) := log_new (Nat.le_refl _) hL1
    have B1 := Lib.hid hb1
    clear hL1 hb1
    go_wp2_with fail
    go_loopw [4] (fun x wr => ∃ i : Nat, i ≤ 256 ∧ x = .int .i64 i ∧ Hid (LOG wr w.heap.size w.heap.size (lev s.data.toList i)) ∧ Hid (Below w.heap.size w wr)) (fun x _ => 256 - (intOf x).toNat)
    case atStart => exact ⟨0, by omega, rfl, q0, B1⟩
    case round =>
      clear q0 B1
      obtain ⟨i, hi, rfl, hq, hb⟩ := hrel
      have hsz := hb.out.size
      by_cases hlt : i < 256
      · have z0 : (i : Int) < 256 := by omega
        have HC : Hid (Calls Tryd.prog 24 #[.pointer (some ⟨w.heap.size, 0, none⟩), .int .i64 ((i : Int) % 8), .string ⟨#[116]⟩, .string s] wr fun e w' => e = .returned (.int .i64 0) ∧ LOG w' w.heap.size w.heap.size (lev s.data.toList (i + 1)) ∧ Below w.heap.size wr w') := by
          have := measure_ok w.heap.size w.heap.size (i % 8) (lev s.data.toList i) txt s wr (by omega) (by decide) (by rw [lev_len]; omega) (by omega) (HR.out.below hb.out h0) (by omega) hq.out
          rw [lev_succ, show ((i % 8 : Nat) : Int) = (i : Int) % 8 by omega] at this
          exact this
        go_wp2_with fail
        refine HC.out.mono ?_
        rintro e w2 ⟨rfl, hL2, hb2⟩
        have q2 := Lib.hid hL2
        have B2 : Hid (Below w.heap.size w w2) := hb.out.trans hb2
        clear hL2 hb2 HC
        go_wp2_with fail
        exact ⟨⟨i + 1, by omega, by go_num, q2, B2⟩, by simp [intOf]; omega⟩
      · have z0 : ¬ (i : Int) < 256 := by omega
        have hlen : (lev s.data.toList i).length = i := lev_len _ _
        have hl2 : Hid (i = 256) := (by omega : i = 256)
        generalize lev s.data.toList i = es at hq hlen
        obtain ⟨vL, hLG⟩ := hq.out.lg
        obtain ⟨D, hD⟩ : ∃ D : Nat → Int, regs es 3 = D := ⟨_, rfl⟩
        have bD : Hid (Byt D) := by rw [← hD]; exact regs_byt _ _
        have HC3 : ∀ V, LG V w.heap.size (regs es) vL → Calls Tryd.prog 22 #[.pointer (some ⟨w.heap.size, 0, none⟩), .int .i64 3] V fun e w' => e = .returned (.tuple #[.agg (arr 32 (b8 D)), .int .i64 0]) ∧ Below V.heap.size V w' := fun V h => by
          rw [← hD]; exact register_yes w.heap.size 3 (regs es) vL V (by omega) h
        have HC := Lib.hid HC3
        have Hlen := Lib.hid hlen
        have HLG := Lib.hid hLG
        clear hD HC3 hlen hLG
        go_wp2_with fail
        refine (HC.out wr HLG.out).mono ?_
        rintro e w2 ⟨rfl, hb2⟩
        have B2 := Lib.hid (bss hb.out hb2)
        have L2 := Lib.hid (hq.out.below hb2 (Nat.le_refl _))
        have G2 : Hid (LG w2 w.heap.size (regs es) vL) := HLG.out.below hb2 HLG.out.lt
        clear hb2
        have rA : Hid (Row (w2.alloc (.cells (arr 32 (b8 D)) 26)) w2.heap.size 26 32 (b8 D)) := Row.ofList w2 26 _ _ 32 rfl
        have B3 : Hid (Below w.heap.size w (w2.alloc (.cells (arr 32 (b8 D)) 26))) := B2.out.alloc B2.out.size _
        have L3 : Hid (LOG (w2.alloc (.cells (arr 32 (b8 D)) 26)) w.heap.size w.heap.size es) := L2.out.below ((Below.refl w2.heap.size w2).alloc (Nat.le_refl _) _) (Nat.le_refl _)
        have G3 : Hid (LG (w2.alloc (.cells (arr 32 (b8 D)) 26)) w.heap.size (regs es) vL) := G2.out.alloc _
        go_wp2_with fail
        generalize w2.alloc (.cells (arr 32 (b8 D)) 26) = V3 at rA B3 L3 G3 ⊢
        generalize w2.heap.size = A at rA ⊢
        refine (measure_full w.heap.size w.heap.size 3 es ⟨#[116]⟩ s V3 (by omega) (by decide) (by have := Hlen.out; have := hl2.out; omega) (by have := Hlen.out; omega) L3.out).mono ?_
        rintro e w4 ⟨rfl, rfl⟩
        go_wp2_with fail
        refine (HC.out V3 G3.out).mono ?_
        rintro e w4 ⟨rfl, hb4⟩
        have rA4 := Lib.hid ((rA.out.below hb4 rA.out.lt).alloc (.cells (arr 32 (b8 D)) 26))
        have rB4 : Hid (Row (w4.alloc (.cells (arr 32 (b8 D)) 26)) w4.heap.size 26 32 (b8 D)) := Row.ofList w4 26 _ _ 32 rfl
        have B4 : Hid (Below w.heap.size w (w4.alloc (.cells (arr 32 (b8 D)) 26))) := (bss B3.out hb4).alloc (bss B3.out hb4).size _
        have L4 : Hid (LOG (w4.alloc (.cells (arr 32 (b8 D)) 26)) w.heap.size w.heap.size es) := (L3.out.below hb4 (Nat.le_refl _)).below ((Below.refl w4.heap.size w4).alloc (Nat.le_refl _) _) (Nat.le_refl _)
        clear hb4
        have heq : ∀ W, (binOp .eql 26 (.agg (arr 32 (b8 D))) (.agg (arr 32 (b8 D)))).run Tryd.prog W = .ok (.bool true) W := fun W => eqDD bD.out W
        have lA : ldN 32 (w4.alloc (.cells (arr 32 (b8 D)) 26)) (.pointer (some ⟨A, 0, none⟩)) = some (arr 32 (b8 D)) := ldN_of (Row.range0 rA4.out) (by simp [arr])
        have lB : ldN 32 (w4.alloc (.cells (arr 32 (b8 D)) 26)) (.pointer (some ⟨w4.heap.size, 0, none⟩)) = some (arr 32 (b8 D)) := ldN_of (Row.range0 rB4.out) (by simp [arr])
        go_wp2_with fail
        refine (events_any w.heap.size w.heap.size es _ L4.out (by have := Hlen.out; omega)).mono ?_
        rintro e w5 ⟨v5, rfl, hO5, hb5⟩
        obtain ⟨a5, c5, rfl⟩ := own_len hO5
        have B5 := Lib.hid (bss B4.out hb5)
        have d256 : ((es.length : Int) == 256) = true := by have := Hlen.out; have := hl2.out; simp; omega
        clear hO5 hb5 lA lB
        go_wp2_with fail
        refine (awake_any _ (HR.out.below B5.out h0) (by have := B5.out.size; omega)).mono ?_
        rintro e w6 ⟨rfl, hb6⟩
        have B6 := bss B5.out hb6
        go_wp2_with fail
        go_ret
        exact ⟨rfl, B6⟩
end Go.Proofs.YtndbbbkdpjkljaaDoor
