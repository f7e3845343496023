/- ref.ValidFunction. No condition but that the bars lie in memory. -/
import Derived.Test.YtedihfcbpgogoaaI
namespace Go.Proofs.Ytedihfcbpgogoaa
open Go.RowKit
theorem ryes {p : Prop} {w w' : World} (h : p) (hb : Below w.heap.size w w') : VPost p w (.returned (.bool true)) w' := ⟨true, rfl, by simp [h], hb⟩
theorem rno {p : Prop} {w w' : World} (h : ¬ p) (hb : Below w.heap.size w w') : VPost p w (.returned (.bool false)) w' := ⟨false, rfl, by simp [h], hb⟩
/-- What decides the head of a valid function. -/
theorem vH.threeR {f : Fn} (h : vH f) : (f.sp ≤ 0 ∧ f.br = false ∧ f.pf = false ∧ f.hp = false) ∨ (f.sp ≤ 0 ∧ f.br = true) ∨ (0 < f.sp ∧ f.br = true ∧ f.hp = true) := by
  by_cases hsp : 0 < f.sp
  · exact .inr (.inr ⟨hsp, h.hs hsp⟩)
  · cases hb : f.br
    · exact .inl ⟨by omega, rfl, h.nb hb⟩
    · exact .inr (.inl ⟨by omega, rfl⟩)
theorem rbar_facts {w : World} {a : Option Addr} {n cap i : Nat} {l : List (Int × Int)} (h : BarS w a n cap l) (hi : i < n) : ∃ b o k s k', a = some ⟨b, o, none⟩ ∧ b < w.heap.size ∧ w.cell? ⟨b, o + i * 2, none⟩ = some (.int .i64 k) ∧ w.cell? ⟨b, o + i * 2 + 1, none⟩ = some (.int .i64 s) ∧ (i + 1 < n → w.cell? ⟨b, o + (i + 1) * 2, none⟩ = some (.int .i64 k')) ∧
    (vBar l i ↔ (k = 0 ∧ s = 0) ∨ (k = 1 ∧ 2 ≤ s ∧ s ≤ 8) ∨ (k = 2 ∧ 4 ≤ s ∧ s ≤ 31) ∨ ((k = 3 ∨ k = 4) ∧ 4 ≤ s ∧ s ≤ 40 ∧ i + 1 < n ∧ k' = 0)) := by
  obtain ⟨b, o, rfl, hb, c0, c1⟩ := h.at hi
  refine ⟨b, o, _, _, (bAt l (i + 1)).1, rfl, hb, c0, c1, fun h2 => ?_, ?_⟩
  · obtain ⟨b', o', e, _, d, _⟩ := h.at h2
    injection e with e
    injection e with e1 e2 _
    subst e1 e2
    exact d
  · have hll : l.length = n := h.1
    unfold vBar
    rw [hll]
set_option maxRecDepth 100000 in
set_option maxHeartbeats 4000000 in
theorem rvalidF_no {w : World} {f : Fn} {a : Option Addr} {n cap : Nat} (hv : ¬ vH f) :
    Calls Try.prog 40 #[.agg #[.int .i64 f.pa, .int .i64 f.sl, .int .i64 f.ve, .int .i64 f.de, .bool f.br, .bool f.pf, .bool f.hp, .int .i64 f.sp, .int .i64 f.pn, .int .i64 f.vc, .slice a n cap]] w (VPost (vF f) w) := by
  have HV := Lib.hid hv
  clear hv
  have BN0 : Hid (∀ o : Obj, Below w.heap.size w (w.alloc o)) := fun o => (Below.refl _ _).alloc (Nat.le_refl _) o
  go_enter Try.func40, Try.ntmps40
  go_wp2_with fail
  all_goals first
    | (go_ret; exact rno (fun v => HV.out v.head) (BN0.out _))
    | (exfalso; apply HV.out; constructor <;> first | omega | simp_all | (simp_all; omega))
end Go.Proofs.Ytedihfcbpgogoaa
