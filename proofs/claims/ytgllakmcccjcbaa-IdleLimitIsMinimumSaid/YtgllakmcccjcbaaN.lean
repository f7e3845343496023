/- The program's limits and the reference's, side by side. No condition. -/
import Derived.Test.YtgllakmcccjcbaaM
namespace Go.Proofs.Ytgllakmcccjcbaa
open Go.RowKit K

/-- The two blocks agree where a request is set. -/
def Agree (has : Nat → Bool) (va vb : Nat → Int) : Prop := ∀ i, i < 32 → has i = true → va i = vb i

theorem lim_agree {has : Nat → Bool} {va vb : Nat → Int} (h : Agree has va vb) (k : Nat) (hk : k ≤ 32) : lim has va k = lim has vb k := by
  induction k with
  | zero => rfl
  | succ k ih =>
    have e := ih (by omega)
    by_cases hh : has k = true
    · have ev := h k (by omega) hh
      unfold lim
      rw [e, ev]
    · have hh' : has k = false := by simpa using hh
      rw [lim_keep (.inl hh'), lim_keep (.inl hh'), e]
theorem limit_agree {has : Nat → Bool} {va vb : Nat → Int} (h : Agree has va vb) : limit has va = limit has vb := by
  unfold limit; rw [lim_agree h 32 (Nat.le_refl _)]

def OpPost (B t : Nat) (r : Int) (has : Nat → Bool) (val : Nat → Int) (w : World) (e : Ending) (w' : World) : Prop :=
  e = .returned (.int .i64 r) ∧ LB w' B t has val ∧ Ch (· = B) w w'

theorem set_both (k x : Int) (has : Nat → Bool) (va vb : Nat → Int) (hag : Agree has va vb) :
    ∃ (r : Int) (has' : Nat → Bool) (va' vb' : Nat → Int), Agree has' va' vb' ∧
      (∀ w B, LB w B 70 has va → Calls Try.prog 29 #[.pointer (some ⟨B, 0, none⟩), .int .i64 k, .int .u64 x] w (OpPost B 70 r has' va' w)) ∧
      ∀ w B, LB w B 73 has vb → Calls Try.prog 34 #[.pointer (some ⟨B, 0, none⟩), .int .i64 k, .int .u64 x] w (OpPost B 73 r has' vb' w) := by
  by_cases hk : k < 0 ∨ 32 ≤ k
  · refine ⟨1, has, va, vb, hag, fun w B h => (set_no B k x w hk).mono ?_, fun w B h => (refset_no B k x w hk).mono ?_⟩
    · rintro e w' ⟨rfl, rfl⟩; exact ⟨rfl, h, Ch.refl _ _⟩
    · rintro e w' ⟨rfl, rfl⟩; exact ⟨rfl, h, Ch.refl _ _⟩
  · obtain ⟨c, rfl⟩ := Int.eq_ofNat_of_zero_le (show 0 ≤ k by omega)
    refine ⟨0, upd has c true, upd va c x, upd vb c x, fun i hi hh => ?_, fun w B h => set_yes B c x w has va (by omega) h, fun w B h => refset_yes B c x w has vb (by omega) h⟩
    by_cases e : i = c
    · subst e; rw [upd_hit, upd_hit]
    · rw [upd_miss _ _ e, upd_miss _ _ e]
      rw [upd_miss _ _ e] at hh
      exact hag i hi hh
theorem remove_both (k : Int) (has : Nat → Bool) (va vb : Nat → Int) (hag : Agree has va vb) :
    ∃ (r : Int) (has' : Nat → Bool) (va' vb' : Nat → Int), Agree has' va' vb' ∧
      (∀ w B, LB w B 70 has va → Calls Try.prog 32 #[.pointer (some ⟨B, 0, none⟩), .int .i64 k] w (OpPost B 70 r has' va' w)) ∧
      ∀ w B, LB w B 73 has vb → Calls Try.prog 33 #[.pointer (some ⟨B, 0, none⟩), .int .i64 k] w (OpPost B 73 r has' vb' w) := by
  by_cases hk : k < 0 ∨ 32 ≤ k
  · refine ⟨1, has, va, vb, hag, fun w B h => (remove_no B k w hk).mono ?_, fun w B h => (refremove_no B k w hk).mono ?_⟩
    · rintro e w' ⟨rfl, rfl⟩; exact ⟨rfl, h, Ch.refl _ _⟩
    · rintro e w' ⟨rfl, rfl⟩; exact ⟨rfl, h, Ch.refl _ _⟩
  · obtain ⟨c, rfl⟩ := Int.eq_ofNat_of_zero_le (show 0 ≤ k by omega)
    by_cases hh : has c = true
    · refine ⟨0, upd has c false, upd va c 0, vb, fun i hi hh => ?_, fun w B h => remove_yes B c w has va (by omega) h hh, fun w B h => refremove_yes B c w has vb (by omega) h hh⟩
      by_cases e : i = c
      · subst e; rw [upd_hit] at hh; cases hh
      · rw [upd_miss _ _ e]
        rw [upd_miss _ _ e] at hh
        exact hag i hi hh
    · have hh' : has c = false := by simpa using hh
      refine ⟨6, has, va, vb, hag, fun w B h => (remove_none B c w has va (by omega) h hh').mono ?_, fun w B h => (refremove_none B c w has vb (by omega) h hh').mono ?_⟩
      · rintro e w' ⟨rfl, rfl⟩; exact ⟨rfl, h, Ch.refl _ _⟩
      · rintro e w' ⟨rfl, rfl⟩; exact ⟨rfl, h, Ch.refl _ _⟩

theorem limit_q (B n : Nat) (w : World) (has : Nat → Bool) (val : Nat → Int) (h : LB w B 70 has val) :
    Calls Try.prog 30 #[.pointer (some ⟨B, 0, none⟩)] (w.drewN n) fun e w' => e = .returned (.int .u64 (limit has val)) ∧ ∃ m, w' = w.drewN m :=
  (limit_any B (w.drewN n) has val h).mono fun _ _ ⟨he, hw⟩ => ⟨he, n, hw.symm⟩
theorem reflimit_q (B n : Nat) (w : World) (has : Nat → Bool) (val : Nat → Int) (h : LB w B 73 has val) :
    Calls Try.prog 35 #[.pointer (some ⟨B, 0, none⟩)] (w.drewN n) fun e w' => e = .returned (.int .u64 (limit has val)) ∧ ∃ m, w' = w.drewN m :=
  (reflimit_any B (w.drewN n) has val h).mono fun _ _ ⟨he, hw⟩ => ⟨he, n, hw.symm⟩

/-- A request of the law. -/
structure Rq where
  c : Int
  l : Int
  rm : Bool
  raw : Bool
def Rq.wf (s : Rq) : Prop := -9223372036854775808 ≤ s.c ∧ s.c ≤ 9223372036854775807 ∧ 0 ≤ s.l ∧ s.l ≤ 18446744073709551615
def Rs (w : World) (B : Nat) (A : Option Addr) (n : Nat) (f : Nat → Rq) : Prop :=
  (∀ i, i < n → (f i).wf) ∧ (0 < n → ∃ b off, A = some ⟨b, off, none⟩ ∧ b < B ∧ ∀ i, i < n → w.cell? ⟨b, off + i * 4, none⟩ = some (.int .i64 (f i).c) ∧
    w.cell? ⟨b, off + i * 4 + 1, none⟩ = some (.int .u64 (f i).l) ∧ w.cell? ⟨b, off + i * 4 + 1 + 1, none⟩ = some (.bool (f i).rm) ∧ w.cell? ⟨b, off + i * 4 + 1 + 1 + 1, none⟩ = some (.bool (f i).raw))
theorem Rs.at_ {w w' : World} {B : Nat} {A : Option Addr} {n k : Nat} {f : Nat → Rq} (h : Rs w B A n f) (hb : Below B w w') (hk : k < n) :
    ∃ b off, A = some ⟨b, off, none⟩ ∧ b < B ∧ w'.cell? ⟨b, off + k * 4, none⟩ = some (.int .i64 (f k).c) ∧
    w'.cell? ⟨b, off + k * 4 + 1, none⟩ = some (.int .u64 (f k).l) ∧ w'.cell? ⟨b, off + k * 4 + 1 + 1, none⟩ = some (.bool (f k).rm) ∧ w'.cell? ⟨b, off + k * 4 + 1 + 1 + 1, none⟩ = some (.bool (f k).raw) := by
  obtain ⟨b, off, e, hlt, hc⟩ := h.2 (by omega)
  obtain ⟨c0, c1, c2, c3⟩ := hc k hk
  exact ⟨b, off, e, hlt, (hb.cell hlt).trans c0, (hb.cell hlt).trans c1, (hb.cell hlt).trans c2, (hb.cell hlt).trans c3⟩

end Go.Proofs.Ytgllakmcccjcbaa
