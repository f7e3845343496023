/- Buses: program and reference. No condition but that the topology lies in memory. -/
import Derived.Test.YtedihfcbpgogoaaP
import Derived.Test.YtedihfcbpgogoaaH
import Derived.Laws.MakeOwn
namespace Go.Proofs.Ytedihfcbpgogoaa
open Go.RowKit
def b0 : Nat → BN := fun _ => ⟨0, 0, 0⟩
def bus (T : List Fn) : Int × (Nat → BN) := num T (T.length + 1) (-1) 0 0 b0
theorem Try.info39 : (Try.prog.info? 39).map (fun i => (i.zero, i.size, i.bytes)) = some (some (.agg #[.int .i64 0, .int .i64 0, .int .i64 0]), 3, 24) := by kernel_rfl
theorem mk_bn (W : World) (n : Nat) (hn : n ≤ 1000000) : ∃ w', (Instr.makeSlice 31 (.int .i64 (n : Int)) (.int .i64 (n : Int))).run Try.prog W = .ok (.slice (some ⟨W.heap.size, 0, none⟩) n n) w' ∧ BR w' W.heap.size n b0 ∧ Below W.heap.size W w' := by
  obtain ⟨i0, hi, hy0, hy1, hy2⟩ := info_parts Try.info39
  have := run_make (P := Try.prog) W 31 39 i0 (.agg #[.int .i64 0, .int .i64 0, .int .i64 0]) Try.underlying31 hi hy0 .i64 .i64 n n (by omega) (by omega) (by rw [hy2]; omega) (by omega)
  rw [hy1] at this
  simp only [Int.toNat_natCast] at this
  refine ⟨_, this, ?_, (Below.refl _ _).alloc (Nat.le_refl _) _⟩
  unfold BR
  refine ⟨_, heap_alloc_new W _, by simp [madeCells], fun i hi => ?_⟩
  have hc : (Value.agg #[.int .i64 0, .int .i64 0, .int .i64 0]).cells = #[.int .i64 0, .int .i64 0, .int .i64 0] := by simp [Value.cells]
  have e : ∀ r, r < 3 → bnc (b0 (i / 3)) r = .int .i64 0 := fun r hr => by
    rcases (by omega : r = 0 ∨ r = 1 ∨ r = 2) with rfl | rfl | rfl <;> rfl
  show _ = some (bnc (b0 (i / 3)) (i % 3))
  rw [e _ (by omega)]
  have h3 : i % 3 = 0 ∨ i % 3 = 1 ∨ i % 3 = 2 := by omega
  rcases h3 with h3 | h3 | h3 <;> simp [madeCells, hc, hi, h3]
theorem bus_le {T : List Fn} (V : VT T) (hT : T.length ≤ 64) : 0 ≤ (bus T).1 ∧ (bus T).1 ≤ 100000 := by
  have h1 := (num_spec V (T.length + 1) (-1) 0 0 b0 (by omega) (by omega) (Int.le_refl _)).1
  have h2 := ws_le T V (Dn T (-1)) T.length (Nat.le_refl _)
  have h3 := h1.tot
  have e : bus T = num T (T.length + 1) (-1) 0 0 b0 := rfl
  rw [← e] at h3
  omega
def BusP (T : List Fn) (n : Int) (w : World) (e : Ending) (w' : World) : Prop := Below w.heap.size w w' ∧
  ((¬ (Vld T ∧ 1 ≤ n ∧ n ≤ 256) ∧ e = .returned (.tuple #[.slice none 0 0, .int .i64 1])) ∨
   (Vld T ∧ 1 ≤ n ∧ n ≤ 256 ∧ n ≤ (bus T).1 ∧ e = .returned (.tuple #[.slice none 0 0, .int .i64 19])) ∨
   (Vld T ∧ 1 ≤ n ∧ n ≤ 256 ∧ (bus T).1 < n ∧ ∃ B, w.heap.size ≤ B ∧ BR w' B T.length (bus T).2 ∧ e = .returned (.tuple #[.slice (some ⟨B, 0, none⟩) T.length T.length, .int .i64 0])))
theorem BusP.inv {T : List Fn} {n : Int} {w w' : World} (h : ¬ (Vld T ∧ 1 ≤ n ∧ n ≤ 256)) (b : Below w.heap.size w w') : BusP T n w (.returned (.tuple #[.slice none 0 0, .int .i64 1])) w' := ⟨b, .inl ⟨h, rfl⟩⟩
theorem BusP.full {T : List Fn} {n : Int} {w w' : World} (h : Vld T) (h1 : 1 ≤ n) (h2 : n ≤ 256) (h3 : n ≤ (bus T).1) (b : Below w.heap.size w w') : BusP T n w (.returned (.tuple #[.slice none 0 0, .int .i64 19])) w' := ⟨b, .inr (.inl ⟨h, h1, h2, h3, rfl⟩)⟩
theorem BusP.ok {T : List Fn} {n : Int} {w w' : World} {B len : Nat} (hl : T.length = len) (h : Vld T) (h1 : 1 ≤ n) (h2 : n ≤ 256) (h3 : (bus T).1 < n) (b : Below w.heap.size w w') (hB : w.heap.size ≤ B) (r : BR w' B len (bus T).2) : BusP T n w (.returned (.tuple #[.slice (some ⟨B, 0, none⟩) len len, .int .i64 0])) w' := by
  subst hl; exact ⟨b, .inr (.inr ⟨h, h1, h2, h3, B, hB, r, rfl⟩)⟩
set_option maxRecDepth 100000 in
set_option maxHeartbeats 2000000 in
theorem buses_any {w : World} {a : Option Addr} {len cap : Nat} {T : List Fn} {n : Int} (h : FnS w a len cap T) :
    Calls Try.prog 16 #[.slice a len cap, .int .i64 n] w (BusP T n w) := by
  have H := Lib.hid h
  obtain ⟨hT, hc, hm⟩ := h.len
  have HT := Lib.hid hT
  have HV := Lib.hid (valid_any h)
  clear h hT
  by_cases h1 : 1 ≤ n
  · by_cases h2 : n ≤ 256
    · have h1' : ¬ n < 1 := by omega
      have h2' : ¬ 256 < n := by omega
      go_enter Try.func16, Try.ntmps16
      go_wp2_with fail
      refine HV.out.mono ?_
      rintro e w1 ⟨b, rfl, hb, b1⟩
      have B1 := Lib.hid b1
      clear b1
      cases b
      · have hv : Hid (¬ Vld T) := Lib.hid (by simpa using hb)
        clear hb
        go_wp2_with fail
        go_ret2
        exact BusP.inv (fun q => hv.out q.1) B1.out
      · have hv : Hid (Vld T) := Lib.hid (by simpa using hb)
        clear hb
        have hl : len ≤ 64 := by have := hv.out.len; have := HT.out; omega
        obtain ⟨w2, hmk, r2, b2⟩ := mk_bn w1 len (by omega)
        have B2 : Hid (Below w.heap.size w w2) := bthen B1.out b2
        have hle := B1.out.size
        have HC := Lib.hid (number_any hv.out.vt H.out (by omega) (B := w1.heap.size) (cap2 := len) B1.out.size (Nat.le_refl _) (T.length + 1) (-1) 0 0 b0 w2 (by omega) (by have := HT.out; omega) (by omega) (by omega) (by have := HT.out; omega) B2.out r2)
        have hbus := bus_le hv.out.vt hv.out.len
        have e : bus T = num T (T.length + 1) (-1) 0 0 b0 := rfl
        rw [← e] at HC
        clear e r2 b2
        obtain ⟨X, hX⟩ : ∃ X, w1.heap.size = X := ⟨_, rfl⟩
        rw [hX] at hmk HC hle
        clear hX
        have HB0 : Hid (bus T = bus T) := rfl
        generalize hbT : bus T = bt at *
        have HBT := Lib.hid hbT
        obtain ⟨l1, bb⟩ := bt
        simp only at HC hbus
        clear hbT HB0
        go_wp2_with fail
        refine HC.out.mono ?_
        rintro e w3 ⟨rfl, r3, c3⟩
        have R3 := Lib.hid r3
        have B3 : Hid (Below w.heap.size w w3) := B2.out.trans (c3.below B2.out.size (fun k hk => by omega))
        clear r3 c3
        by_cases h3 : n ≤ l1
        · go_wp2_with fail
          go_ret2
          exact BusP.full hv.out h1 h2 (by rw [HBT.out]; exact h3) B3.out
        · have h3' : ¬ n ≤ l1 := h3
          go_wp2_with fail
          go_ret2
          exact BusP.ok HT.out hv.out h1 h2 (by rw [HBT.out]; show l1 < n; omega) B3.out hle (by rw [HBT.out]; exact R3.out)
    · have h1' : ¬ n < 1 := by omega
      have h2' : 256 < n := by omega
      go_enter Try.func16, Try.ntmps16
      go_wp2_with fail
      refine HV.out.mono ?_
      rintro e w1 ⟨b, rfl, hb, b1⟩
      have B1 := Lib.hid b1
      clear b1 hb
      cases b
      all_goals
        go_wp2_with fail
        go_ret2
        exact BusP.inv (fun q => by have := q.2.2; omega) B1.out
  · have h1' : n < 1 := by omega
    go_enter Try.func16, Try.ntmps16
    go_wp2_with fail
    refine HV.out.mono ?_
    rintro e w1 ⟨b, rfl, hb, b1⟩
    have B1 := Lib.hid b1
    clear b1 hb
    cases b
    all_goals
      go_wp2_with fail
      go_ret2
      exact BusP.inv (fun q => by have := q.2.1; omega) B1.out
set_option maxRecDepth 100000 in
set_option maxHeartbeats 2000000 in
theorem rnumbers_any {w0 w : World} {a : Option Addr} {len cap : Nat} {T : List Fn} (h : FnS w0 a len cap T) (hv : Vld T) (hb : Below w0.heap.size w0 w) :
    Calls Try.prog 28 #[.slice a len cap] w fun e w' => e = .returned (.tuple #[.slice (some ⟨w.heap.size, 0, none⟩) len len, .int .i64 (bus T).1]) ∧ BR w' w.heap.size len (bus T).2 ∧ Below w.heap.size w w' := by
  have HT := Lib.hid h.len.1
  have hl : len ≤ 64 := by have := hv.len; have := HT.out; omega
  obtain ⟨w2, hmk, r2, b2⟩ := mk_bn w len (by omega)
  have HC := Lib.hid (rnumber_any hv.vt h (by omega) (B := w.heap.size) (cap2 := len) hb.size (Nat.le_refl _) (T.length + 1) (-1) 0 0 b0 w2 (by omega) (by have := HT.out; omega) (by omega) (by omega) (by have := HT.out; omega) (bthen hb b2) r2)
  have e : bus T = num T (T.length + 1) (-1) 0 0 b0 := rfl
  rw [← e] at HC
  have B2 := Lib.hid b2
  have hbus := bus_le hv.vt hv.len
  clear e r2 b2 h hv hb HT
  obtain ⟨X, hX⟩ : ∃ X, w.heap.size = X := ⟨_, rfl⟩
  rw [hX] at hmk HC B2 ⊢
  have HXX := Lib.hid hX
  clear hX
  generalize bus T = bt at *
  obtain ⟨l1, bb⟩ := bt
  simp only at HC hbus ⊢
  go_enter Try.func28, Try.ntmps28
  go_wp2_with fail
  refine HC.out.mono ?_
  rintro e w3 ⟨rfl, r3, c3⟩
  have R3 := Lib.hid r3
  have C3 := Lib.hid c3
  clear r3 c3
  go_wp2_with fail
  go_ret2
  exact ⟨rfl, R3.out, B2.out.trans (C3.out.below (by have := B2.out.size; have := HXX.out; omega) (fun k hk => by omega))⟩
set_option maxRecDepth 100000 in
set_option maxHeartbeats 2000000 in
theorem rbuses_any {w : World} {a : Option Addr} {len cap : Nat} {T : List Fn} {n : Int} (h : FnS w a len cap T) :
    Calls Try.prog 13 #[.slice a len cap, .int .i64 n] w (BusP T n w) := by
  have H := Lib.hid h
  obtain ⟨hT, hc, hm⟩ := h.len
  have HT := Lib.hid hT
  have HV := Lib.hid (rvalid_any h)
  clear h hT
  by_cases h1 : 1 ≤ n
  · by_cases h2 : n ≤ 256
    · have h1' : ¬ n < 1 := by omega
      have h2' : ¬ 256 < n := by omega
      go_enter Try.func13, Try.ntmps13
      go_wp2_with fail
      refine HV.out.mono ?_
      rintro e w1 ⟨b, rfl, hb, b1⟩
      have B1 := Lib.hid b1
      clear b1
      cases b
      · have hv : Hid (¬ Vld T) := Lib.hid (by simpa using hb)
        clear hb
        go_wp2_with fail
        go_ret2
        exact BusP.inv (fun q => hv.out q.1) B1.out
      · have hv : Hid (Vld T) := Lib.hid (by simpa using hb)
        clear hb
        have hl : len ≤ 64 := by have := hv.out.len; have := HT.out; omega
        have HC := Lib.hid (rnumbers_any H.out hv.out B1.out)
        have hle := B1.out.size
        have hbus := bus_le hv.out.vt hv.out.len
        obtain ⟨X, hX⟩ : ∃ X, w1.heap.size = X := ⟨_, rfl⟩
        have HXX := Lib.hid hX
        rw [hX] at HC hle
        clear hX
        generalize hbT : bus T = bt at *
        have HBT := Lib.hid hbT
        obtain ⟨l1, bb⟩ := bt
        simp only at HC hbus
        clear hbT
        go_wp2_with fail
        refine HC.out.mono ?_
        rintro e w3 ⟨rfl, r3, c3⟩
        have R3 := Lib.hid r3
        have B3 : Hid (Below w.heap.size w w3) := B1.out.trans (c3.mono hle)
        clear r3 c3
        by_cases h3 : n ≤ l1
        · go_wp2_with fail
          go_ret2
          exact BusP.full hv.out h1 h2 (by rw [HBT.out]; exact h3) B3.out
        · have h3' : ¬ n ≤ l1 := h3
          go_wp2_with fail
          go_ret2
          exact BusP.ok HT.out hv.out h1 h2 (by rw [HBT.out]; show l1 < n; omega) B3.out hle (by rw [HBT.out]; exact R3.out)
    · have h1' : ¬ n < 1 := by omega
      have h2' : 256 < n := by omega
      go_enter Try.func13, Try.ntmps13
      go_wp2_with fail
      refine HV.out.mono ?_
      rintro e w1 ⟨b, rfl, hb, b1⟩
      have B1 := Lib.hid b1
      clear b1 hb
      cases b
      all_goals
        go_wp2_with fail
        go_ret2
        exact BusP.inv (fun q => by have := q.2.2; omega) B1.out
  · have h1' : n < 1 := by omega
    go_enter Try.func13, Try.ntmps13
    go_wp2_with fail
    refine HV.out.mono ?_
    rintro e w1 ⟨b, rfl, hb, b1⟩
    have B1 := Lib.hid b1
    clear b1 hb
    cases b
    all_goals
      go_wp2_with fail
      go_ret2
      exact BusP.inv (fun q => by have := q.2.1; omega) B1.out
end Go.Proofs.Ytedihfcbpgogoaa
