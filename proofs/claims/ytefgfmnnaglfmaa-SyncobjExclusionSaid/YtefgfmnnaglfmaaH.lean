/- Mod, awake. No condition. -/
import Derived.Test.YtefgfmnnaglfmaaG
namespace Go.Proofs.Ytefgfmnnaglfmaa
open Go.RowKit
def two64 : Int := 18446744073709551616
def mo (n : Int) (m : Nat) : Nat := (n % two64).toNat % m
theorem mo_lt (n : Int) (m : Nat) (hm : 0 < m) : mo n m < m := Nat.mod_lt _ hm
theorem mo_eq (n : Int) (m : Nat) : (n % 18446744073709551616) % (m : Int) = ((mo n m : Nat) : Int) := by
  have h : 0 ≤ n % 18446744073709551616 := Int.emod_nonneg _ (by decide)
  unfold mo two64
  rw [Int.natCast_emod, Int.toNat_of_nonneg h]
theorem mo_walk (v : Int) (m : Nat) (h2 : 1 ≤ m) (h3 : m ≤ 1000000) : wrap64 ((IntKind.u64.wrap v).tmod m) = ((mo v m : Nat) : Int) := by
  have e : IntKind.u64.wrap v = v % 18446744073709551616 := by simp [IntKind.wrap_u64]
  have h' := mo_lt v m h2
  rw [e, IntWalk.rem_in _ _ (by omega), mo_eq]
  exact IntWalk.wrap64_in _ (by omega)
theorem mod_any (n : Int) (m : Nat) (w : World) (hm : 1 ≤ m) (hm2 : m ≤ 1000000) : Calls Try.prog 10 #[.int .i64 n, .int .i64 (m : Int)] w fun e w' => e = .returned (.int .i64 ((mo n m : Nat) : Int)) ∧ w = w' := by
  go_enter Try.func10, Try.ntmps10
  go_wp2
  go_ret
  exact ⟨ret_int (mo_walk n m hm hm2), rfl⟩

def a1 : LK := (addM s0 5 1).2
def a2 : LK := (acqS a1 1 5 0 0).2.2
def a3 : LK := (acqS a2 2 5 0 10).2.2
def a4 : LK := (relS a3 1 5).2
theorem in_small {i : Int} (h : -1000 ≤ i ∧ i ≤ 1000) : InI i := ⟨by omega, by omega⟩
theorem a1o : a1.o 5 = some ⟨true, 1, 0, 0, []⟩ := rfl
theorem a2o : a2.o 5 = some ⟨true, 1, 1, 1, []⟩ := rfl
theorem a3o : a3.o 5 = some ⟨true, 1, 1, 1, [2]⟩ := rfl
theorem a3t : ∀ i t, a3.t i = some t → t.hd.length ≤ 1000 := by
  intro i t h
  have e : a3.t i = if i = 2 then some ⟨2, 5, false, 10, []⟩ else if i = 1 then some ⟨1, 0, false, 0, [5]⟩ else none := rfl
  rw [e] at h
  split at h
  · injection h with h; subst h; simp
  · split at h
    · injection h with h; subst h; simp
    · cases h
set_option maxRecDepth 100000 in
set_option maxHeartbeats 1000000 in
theorem awake_any (w : World) : Calls Try.prog 11 #[] w fun e w' => e = .returned (.bool true) ∧ Below w.heap.size w w' := by
  go_enter Try.func11, Try.ntmps11
  go_wp2_with fail
  obtain ⟨F, hF⟩ : ∃ F : Nat → Prop, F = fun k => k < w.heap.size := ⟨_, rfl⟩
  refine (new_any F w (fun k hk => by rw [hF] at hk; exact hk)).mono ?_
  rintro e w1 ⟨rfl, ⟨y1, h1⟩, hb1⟩
  have hN : ∀ k, k < w.heap.size → F k := fun k hk => by rw [hF]; exact hk
  have HN := Lib.hid hN
  clear hN hF
  have HC := Lib.hid (addMutex_any (id := 5) (lv := 1) h1 (in_small (by omega)) (by omega))
  rw [show (addM s0 5 1).1 = 0 from rfl] at HC
  have B1 := Lib.hid hb1
  clear h1 hb1
  go_wp2_with fail
  refine HC.out.mono ?_
  rintro e w2 ⟨rfl, ⟨y2, h2⟩, hb2⟩
  have B2 : Hid (Keep F w w2) := B1.out.trans hb2
  have HC2 := Lib.hid (acquire_any (s := a1) (i := 1) (id := 5) (now := 0) (to := 0) h2 (in_small (by omega)) (in_small (by omega)) (by omega) (fun x hx => by rw [a1o] at hx; injection hx with hx; subst hx; exact ⟨by simp, by simp⟩) (fun k hk => by rw [show (stT a1 1).hd = [] from rfl] at hk; cases hk) (by rw [show (stT a1 1).hd = [] from rfl]; simp))
  rw [show (acqS a1 1 5 0 0).1 = 1 from rfl, show (acqS a1 1 5 0 0).2.1 = 0 from rfl] at HC2
  clear h2 hb2 HC B1
  go_wp2_with fail
  refine HC2.out.mono ?_
  rintro e w3 ⟨rfl, ⟨y3, h3⟩, hb3⟩
  have B3 : Hid (Keep F w w3) := B2.out.trans hb3
  have HC3 := Lib.hid (acquire_any (s := a2) (i := 2) (id := 5) (now := 0) (to := 10) h3 (in_small (by omega)) (in_small (by omega)) (by omega) (fun x hx => by rw [a2o] at hx; injection hx with hx; subst hx; exact ⟨by simp, by simp⟩) (fun k hk => by rw [show (stT a2 2).hd = [] from rfl] at hk; cases hk) (by rw [show (stT a2 2).hd = [] from rfl]; simp))
  rw [show (acqS a2 2 5 0 10).1 = 2 from rfl, show (acqS a2 2 5 0 10).2.1 = 0 from rfl] at HC3
  clear h3 hb3 HC2 B2
  go_wp2_with fail
  refine HC3.out.mono ?_
  rintro e w4 ⟨rfl, ⟨y4, h4⟩, hb4⟩
  have B4 : Hid (Keep F w w4) := B3.out.trans hb4
  have HC4 := Lib.hid (release_any (s := a3) (i := 1) (id := 5) h4 (in_small (by omega)) (in_small (by omega)) (by omega) (fun x hx => by rw [a3o] at hx; injection hx with hx; subst hx; exact ⟨by simp, by simp, by simp, fun a ha => by rw [List.mem_singleton.1 ha]; exact in_small (by omega)⟩)
    (fun k hk => by rw [show (stT a3 1).hd = [5] from rfl] at hk; rw [List.mem_singleton.1 hk]; exact ⟨in_small (by omega), rfl⟩) a3t (fun x _ _ _ _ => ⟨_, rfl, by simp⟩))
  rw [show (relS a3 1 5).1 = 0 from rfl] at HC4
  clear h4 hb4 HC3 B3
  go_wp2_with fail
  refine HC4.out.mono ?_
  rintro e w5 ⟨rfl, ⟨y5, h5⟩, hb5⟩
  have B5 : Hid (Keep F w w5) := B4.out.trans hb5
  have HC5 := Lib.hid (owner_any (s := a4) (id := 5) h5 (in_small (by omega)))
  rw [show (ownr a4 5).1 = 2 from rfl, show (ownr a4 5).2 = true from rfl] at HC5
  have HC6 := Lib.hid (status_any (s := a4) (i := 2) h5 (in_small (by omega)))
  rw [show stat a4 2 = 1 from rfl] at HC6
  clear h5 hb5 HC4 B4
  go_wp2_with fail
  refine HC5.out.mono ?_
  rintro e w6 ⟨rfl, rfl⟩
  go_wp2_with fail
  refine HC6.out.mono ?_
  rintro e w6 ⟨rfl, rfl⟩
  go_wp2_with fail
  go_ret
  exact ⟨rfl, Keep.below B5.out HN.out (Nat.le_refl _)⟩
end Go.Proofs.Ytefgfmnnaglfmaa
