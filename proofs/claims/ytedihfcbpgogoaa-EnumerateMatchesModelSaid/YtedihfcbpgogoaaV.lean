/- Rows of bus numbers: equality; assigned, numbered. No condition but that the rows lie in memory. -/
import Derived.Test.YtedihfcbpgogoaaU
namespace Go.Proofs.Ytedihfcbpgogoaa
open Go.RowKit
/-- A slice reads as n bus numbers. -/
def BS (w : World) (a : Option Addr) (n cap : Nat) (b : Nat → BN) : Prop := n ≤ cap ∧ n ≤ 1000 ∧ (n = 0 ∨ ∃ B, a = some ⟨B, 0, none⟩ ∧ BR w B n b)
theorem BS.at {w : World} {a : Option Addr} {n cap i : Nat} {b : Nat → BN} (h : BS w a n cap b) (hi : i < n) : ∃ B, a = some ⟨B, 0, none⟩ ∧ B < w.heap.size ∧ w.cell? ⟨B, i * 3, none⟩ = some (.int .i64 (b i).bu) ∧ w.cell? ⟨B, i * 3 + 1, none⟩ = some (.int .i64 (b i).se) ∧ w.cell? ⟨B, i * 3 + 2, none⟩ = some (.int .i64 (b i).su) := by
  obtain ⟨_, _, h | ⟨B, e, h⟩⟩ := h
  · omega
  · exact ⟨B, e, Row.lt h, h.cell (r := 0) hi (by omega), h.cell (r := 1) hi (by omega), h.cell (r := 2) hi (by omega)⟩
theorem BS.below {w w' : World} {a : Option Addr} {n cap : Nat} {b : Nat → BN} (h : BS w a n cap b) (hb : Below w.heap.size w w') : BS w' a n cap b := by
  obtain ⟨h1, h2, h | ⟨B, e, h⟩⟩ := h
  · exact ⟨h1, h2, .inl h⟩
  · exact ⟨h1, h2, .inr ⟨B, e, Row.below h hb (Row.lt h)⟩⟩
def EqB (n m : Nat) (b c : Nat → BN) : Prop := n = m ∧ ∀ i, i < n → b i = c i
theorem bn_ext {x y : BN} : x = y ↔ x.bu = y.bu ∧ x.se = y.se ∧ x.su = y.su := by
  cases x; cases y; simp
def bnv (x : BN) : Value := .agg #[.int .i64 x.bu, .int .i64 x.se, .int .i64 x.su]
theorem fields39 : (Try.prog.fieldsOf 39).toList.map (fun f => (f.name, f.type, f.offset)) = [("Bus", 3, 0), ("Secondary", 3, 1), ("Subordinate", 3, 2)] := by kernel_rfl
theorem under39 : Try.prog.underlying 39 = some (.struct (Try.prog.fieldsOf 39)) := by kernel_rfl
theorem part39 (p q r : Int) (w : World) : Sem.run Try.prog (part 3 #[.int .i64 p, .int .i64 q, .int .i64 r] 0) w = .ok (.int .i64 p) w ∧ Sem.run Try.prog (part 3 #[.int .i64 p, .int .i64 q, .int .i64 r] 1) w = .ok (.int .i64 q) w ∧ Sem.run Try.prog (part 3 #[.int .i64 p, .int .i64 q, .int .i64 r] 2) w = .ok (.int .i64 r) w := ⟨by kernel_rfl, by kernel_rfl, by kernel_rfl⟩
theorem eqB (x y : BN) (w : World) : Sem.run Try.prog (Op.equalIn 10000 39 (bnv x) (bnv y)) w = .ok (x.bu == y.bu && x.se == y.se && x.su == y.su) w := by
  unfold bnv
  rw [run_equalIn_struct w 9999 39 _ _ under39 (by kernel_rfl)]
  have h3 : ∀ a b : Int, Sem.run Try.prog (Op.equalIn 9999 3 (.int .i64 a) (.int .i64 b)) w = .ok (a == b) w := fun a b => run_equalIn_int w 9998 3 .i64 .i64 a b Try.underlying3
  have hf := fields39
  obtain ⟨a0, a1, a2⟩ := part39 x.bu x.se x.su w
  obtain ⟨b0, b1, b2⟩ := part39 y.bu y.se y.su w
  generalize (Try.prog.fieldsOf 39).toList = fs at hf ⊢
  rcases fs with _ | ⟨f0, _ | ⟨f1, _ | ⟨f2, _ | ⟨f3, r⟩⟩⟩⟩
  · simp at hf
  · simp at hf
  · simp at hf
  · simp only [List.map_cons, List.map_nil, List.cons.injEq, Prod.mk.injEq, and_true] at hf
    obtain ⟨⟨n0, t0, o0⟩, ⟨n1, t1, o1⟩, n2, t2, o2⟩ := hf
    cases h0 : (x.bu == y.bu) <;> cases h1 : (x.se == y.se) <;> cases h2 : (x.su == y.su) <;>
    simp [Op.eqFields, n0, n1, n2, t0, t1, t2, o0, o1, o2, a0, a1, a2, b0, b1, b2, h3, h0, h1, h2]
  · simp at hf
theorem neB (x y : BN) (w : World) : ∃ t : Bool, (binOp .neq 39 (.agg #[.int .i64 x.bu, .int .i64 x.se, .int .i64 x.su]) (.agg #[.int .i64 y.bu, .int .i64 y.se, .int .i64 y.su])).run Try.prog w = .ok (.bool t) w ∧ (t = false ↔ x = y) := by
  refine ⟨!(x.bu == y.bu && x.se == y.se && x.su == y.su), ?_, ?_⟩
  · have := eqB x y w
    unfold bnv at this
    rw [run_neq_struct, this]; rfl
  · rw [bn_ext]; simp [and_assoc]
theorem neBs (x y : BN) : ∃ t : Bool, (∀ w, (binOp .neq 39 (.agg #[.int .i64 x.bu, .int .i64 x.se, .int .i64 x.su]) (.agg #[.int .i64 y.bu, .int .i64 y.se, .int .i64 y.su])).run Try.prog w = .ok (.bool t) w) ∧ (t = false ↔ x = y) := by
  obtain ⟨t, _, ht⟩ := neB x y default
  refine ⟨t, fun w => ?_, ht⟩
  obtain ⟨t', h, ht'⟩ := neB x y w
  rw [h]
  have : t' = t := by cases t <;> cases t' <;> simp_all
  rw [this]
set_option maxHeartbeats 1000000 in
theorem sequal_any {w : World} {a a' : Option Addr} {n cap m cap' : Nat} {b c : Nat → BN} (h : BS w a n cap b) (h' : BS w a' m cap' c) :
    Calls Try.prog 43 #[.slice a n cap, .slice a' m cap'] w (VPost (EqB n m b c) w) := by
  have H := Lib.hid h
  have H' := Lib.hid h'
  have hc1 := h.1
  have hc2 := h'.1
  have hn1 := h.2.1
  have hn2 := h'.2.1
  clear h h'
  by_cases hnm : n = m
  · subst hnm
    have hnn : ((n : Int) != (n : Int)) = false := by simp
    go_enter Try.func43, Try.ntmps43
    go_wp2_with fail
    go_loopw [5, 13] (fun _ z wr => ∃ i : Nat, i ≤ n ∧ z = .int .i64 (i : Int) ∧ Hid (Below w.heap.size w wr) ∧ Hid (∀ j, j < i → b j = c j)) (fun _ z _ => n - (intOf z).toNat)
    case atStart => exact ⟨0, by omega, rfl, Below.refl _ _, fun j hj => by omega⟩
    case round =>
      obtain ⟨i, hi, rfl, B, HI⟩ := hrel
      by_cases hin : i < n
      · have y1 : (i : Int) < n := by omega
        obtain ⟨g, rfl, hg, c0, c1, c2⟩ := (H.out.below B.out).at hin
        obtain ⟨g', rfl, hg', d0, d1, d2⟩ := (H'.out.below B.out).at hin
        obtain ⟨t, hne, ht⟩ := neBs (b i) (c i)
        have HI2 : Hid (b i = c i → ∀ j, j < i + 1 → b j = c j) := fun h j hj => by
          rcases Nat.lt_succ_iff_lt_or_eq.1 hj with h1 | rfl
          · exact HI.out j h1
          · exact h
        have HN : Hid (¬ b i = c i → ¬ EqB n n b c) := fun h1 h2 => h1 (h2.2 i hin)
        generalize (b i).bu = p0 at *
        generalize (b i).se = p1 at *
        generalize (b i).su = p2 at *
        generalize (c i).bu = q0 at *
        generalize (c i).se = q1 at *
        generalize (c i).su = q2 at *
        cases t
        · have h2 := Lib.hid (HI2.out (ht.1 rfl))
          clear ht HI2 HN
          go_wp2_with fail
          go_quiet (fail)
          go_wp2_with fail
          go_roundw
          case rel => exact ⟨i + 1, by omega, by go_num, bdN B.out _, h2⟩
          case measure => simp [intOf]; omega
        · have h2 := Lib.hid (HN.out (fun h => by have := ht.2 h; cases this))
          clear ht HI2 HN
          go_wp2_with fail
          go_quiet (fail)
          go_wp2_with fail
          go_ret
          exact vno h2.out (bdN B.out _)
      · have y1 : ¬ (i : Int) < n := by omega
        have hv : Hid (EqB n n b c) := ⟨rfl, fun j hj => HI.out j (by omega)⟩
        go_wp2_with fail
        go_ret
        exact vyes hv.out B.out
  · have hnn : ((n : Int) != (m : Int)) = true := by simp; omega
    have hv : Hid (¬ EqB n m b c) := fun h => hnm h.1
    go_enter Try.func43, Try.ntmps43
    go_wp2_with fail
    go_ret
    exact vno hv.out (Below.refl _ _)
end Go.Proofs.Ytedihfcbpgogoaa
