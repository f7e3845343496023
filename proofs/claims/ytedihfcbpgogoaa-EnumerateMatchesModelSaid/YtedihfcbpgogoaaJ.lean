/- pciconf.Valid. No condition but that the bars lie in memory. -/
import Derived.Test.YtedihfcbpgogoaaI
namespace Go.Proofs.Ytedihfcbpgogoaa
open Go.RowKit
theorem vyes {p : Prop} {w w' : World} (h : p) (hb : Below w.heap.size w w') : VPost p w (.returned (.bool true)) w' := ⟨true, rfl, by simp [h], hb⟩
theorem vno {p : Prop} {w w' : World} (h : ¬ p) (hb : Below w.heap.size w w') : VPost p w (.returned (.bool false)) w' := ⟨false, rfl, by simp [h], hb⟩
theorem BarS.drewN {w : World} {a : Option Addr} {len cap : Nat} {l : List (Int × Int)} (h : BarS w a len cap l) (n : Nat) : BarS (w.drewN n) a len cap l := h
theorem bdN {B : Nat} {w w' : World} (h : Below B w w') (n : Nat) : Below B w (w'.drewN n) := ⟨h.os, h.tape, h.output, h.size, h.block⟩
/-- What decides the head of a valid function. -/
theorem vH.three {f : Fn} (h : vH f) : (f.sp ≤ 0 ∧ f.br = false ∧ f.pf = false ∧ f.hp = false) ∨ (f.sp ≤ 0 ∧ f.br = true) ∨ (0 < f.sp ∧ f.br = true ∧ f.hp = true) := by
  by_cases hsp : 0 < f.sp
  · exact .inr (.inr ⟨hsp, h.hs hsp⟩)
  · cases hb : f.br
    · exact .inl ⟨by omega, rfl, h.nb hb⟩
    · exact .inr (.inl ⟨by omega, rfl⟩)
set_option maxRecDepth 100000 in
set_option maxHeartbeats 4000000 in
theorem pvalid_any {w : World} {f : Fn} {a : Option Addr} {n cap : Nat} (h : BarS w a n cap f.ba) :
    Calls Try.prog 38 #[.agg #[.int .i64 f.pa, .int .i64 f.sl, .int .i64 f.ve, .int .i64 f.de, .bool f.br, .bool f.pf, .bool f.hp, .int .i64 f.sp, .int .i64 f.pn, .int .i64 f.vc, .slice a n cap]] w (VPost (vF f) w) := by
  have hcc : n ≤ cap := h.2.1
  have hml : n ≤ 9223372036854775807 := by have := h.2.2.1; unfold maxLen at this; omega
  have HN := Lib.hid h.1
  have HB := Lib.hid h
  clear h
  have BN0 : Hid (∀ o : Obj, Below w.heap.size w (w.alloc o)) := fun o => (Below.refl _ _).alloc (Nat.le_refl _) o
  by_cases hv : vH f
  · have HV := Lib.hid hv
    have n3 := hv.three
    obtain ⟨rg, hrg⟩ : ∃ rg, rgs f.br = rg := ⟨_, rfl⟩
    have HR := Lib.hid hrg
    have HC : Hid (∀ W, Calls Try.prog 48 #[.bool f.br] W fun e w' => e = .returned (.int .i64 rg) ∧ w' = W) := fun W => (registers_any f.br W).mono fun e w' ⟨h1, h2⟩ => ⟨by rw [h1, hrg], h2.symm⟩
    clear hrg
    have fin : Hid ((∀ j, j < n → vBar f.ba j) → (n : Int) ≤ rg → vF f) := fun h1 h2 => ⟨HV.out, by rw [HN.out, HR.out]; exact h2, fun j hj => h1 j (by have := HN.out; omega)⟩
    have nreg : Hid (¬ (n : Int) ≤ rg → ¬ vF f) := fun h1 h2 => h1 (by have := h2.reg; rw [HN.out, HR.out] at this; exact this)
    have nbar : Hid (∀ i, i < n → ¬ vBar f.ba i → ¬ vF f) := fun i hi h1 h2 => h1 (h2.bar i (by have := HN.out; omega))
    obtain ⟨⟨v1, v2⟩, ⟨v3, v4⟩, ⟨v5, v6⟩, ⟨v7, v8⟩, ⟨v9, v10⟩, ⟨v11, v12⟩, v13, v14, v15⟩ := hv
    clear HV HR v14 v15
    generalize vF f = VF at *
    obtain ⟨pa, sl, ve, de, br, pf, hp, sp, pn, vc, bv, ba⟩ := f
    simp only at *
    rcases n3 with ⟨k1, rfl, rfl, rfl⟩ | ⟨k1, rfl⟩ | ⟨k1, rfl, rfl⟩
    all_goals
      by_cases hreg : (n : Int) ≤ rg
      · have hreg2 : ¬ rg < (n : Int) := by omega
        go_enter Try.func38, Try.ntmps38
        go_wp2_with fail
        go_quiet ((go_at_call 48; exact Calls.quiet_of_same (HC.out _)))
        go_wp2_with fail
        generalize hW : (w.alloc (Obj.cells _ 25)) = W0 at *
        have c10 : W0.cell? ⟨w.heap.size, 10, none⟩ = some (.slice a n cap) := by rw [← hW]; exact cell_of_row _ _ 10 _ _ _ (heap_alloc_new w _)
        have B0 : Hid (Below w.heap.size w W0) := by rw [← hW]; exact BN0.out _
        clear hW
        go_loop [3, 100] (fun _ z => ∃ i : Nat, i ≤ n ∧ z = .int .i64 (i : Int) ∧ Hid (∀ j, j < i → vBar ba j)) (fun _ z => n - (intOf z).toNat)
        case atStart => exact ⟨0, Nat.zero_le _, rfl, fun j hj => by omega⟩
        case round =>
          obtain ⟨i, hi, rfl, HI⟩ := hrel
          by_cases hlt : i < n
          · have hltI : (i : Int) < n := by omega
            have HC2 : Hid (∀ q, Calls Try.prog 49 #[.slice a n cap, .int .i64 (i : Int)] (W0.drewN q) (TPost (vBar ba i) (W0.drewN q))) := fun q => validBar_any (SLs.below HB.out (bdN B0.out q) (Nat.le_refl _)) hlt
            go_wp2_with fail
            refine (HC2.out _).mono ?_
            rintro e w' ⟨b, rfl, hb, rfl⟩
            cases b
            · have hb2 : ¬ vBar ba i := by simpa using hb
              clear hb
              go_wp2_with fail
              go_ret
              exact vno (nbar.out i hlt hb2) (bdN B0.out _)
            · have HI2 : Hid (∀ j, j < i + 1 → vBar ba j) := fun j hj => by
                rcases Nat.lt_succ_iff_lt_or_eq.1 hj with h1 | rfl
                · exact HI.out j h1
                · simpa using hb
              clear hb
              go_wp2_with fail
              go_round
              case rel => exact ⟨i + 1, by omega, by go_num, HI2⟩
              case measure => simp [intOf]; omega
          · have hltI : ¬ (i : Int) < n := by omega
            have HF : Hid VF := fin.out (fun j hj => HI.out j (by omega)) hreg
            go_wp2_with fail
            go_ret
            exact vyes HF.out (bdN B0.out _)
      · have hreg2 : rg < (n : Int) := by omega
        go_enter Try.func38, Try.ntmps38
        go_wp2_with fail
        go_quiet ((go_at_call 48; exact Calls.quiet_of_same (HC.out _)))
        go_wp2_with fail
        go_ret
        exact vno (nreg.out hreg) (bdN (BN0.out _) _)
  · have HV := Lib.hid hv
    clear hv
    go_enter Try.func38, Try.ntmps38
    go_wp2_with fail
    all_goals first
      | (go_ret; exact vno (fun v => HV.out v.head) (BN0.out _))
      | (exfalso; apply HV.out; constructor <;> first | omega | simp_all | (simp_all; omega))
end Go.Proofs.Ytedihfcbpgogoaa
