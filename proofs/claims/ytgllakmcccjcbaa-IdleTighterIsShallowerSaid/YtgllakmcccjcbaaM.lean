/- The limits of the program and of the reference: what each call does to their block. No condition. -/
import Derived.Test.YtgllakmcccjcbaaK
import Derived.Deep.QuietTactic
import Derived.BigQuiet
import Derived.RegionTactic
import Derived.Deep.MidRow
namespace Go.Proofs.Ytgllakmcccjcbaa
open Go.RowKit K

/-- The cells of a block of limits: 32 marks, 32 requests. -/
def lv (has : Nat → Bool) (val : Nat → Int) (i : Nat) : Value := if i < 32 then .bool (has i) else .int .u64 (val (i - 32))
theorem lv_has (has : Nat → Bool) (val : Nat → Int) {i : Nat} (h : i < 32) : lv has val i = .bool (has i) := if_pos h
theorem lv_val (has : Nat → Bool) (val : Nat → Int) (i : Nat) : lv has val (32 + i) = .int .u64 (val i) := by
  unfold lv; rw [if_neg (by omega), show 32 + i - 32 = i by omega]

/-- Block B is a block of limits of type t. -/
def LB (w : World) (B t : Nat) (has : Nat → Bool) (val : Nat → Int) : Prop := Row w B t 64 (lv has val)

section
variable {w : World} {B t k : Nat} {has : Nat → Bool} {val : Nat → Int}
theorem LB.at_ (h : LB w B t has val) (hk : k < 32) : w.cell? ⟨B, k, none⟩ = some (.bool (has k)) ∧ w.cell? ⟨B, 32 + k, none⟩ = some (.int .u64 (val k)) ∧ w.frozen? ⟨B, k, none⟩ = false ∧ w.frozen? ⟨B, 32 + k, none⟩ = false := by
  refine ⟨?_, ?_, Row.frozen h _, Row.frozen h _⟩
  · rw [Row.cell h (by omega), lv_has _ _ hk]
  · rw [Row.cell h (by omega), lv_val]
theorem LB.drew (h : LB w B t has val) : LB w.drew B t has val := h
theorem LB.ch {w' : World} {C : Nat → Prop} (h : LB w B t has val) (k : Ch C w w') (hB : ¬ C B) : LB w' B t has val := Row.ch h k hB
theorem LB.below {w' : World} {B0 : Nat} (h : LB w B t has val) (k : Below B0 w w') (hB : B < B0) : LB w' B t has val := Row.below h k hB
theorem LB.lt (h : LB w B t has val) : B < w.heap.size := Row.lt h
theorem LB.put (h : LB w B t has val) (hk : k < 32) (u : Bool) (x : Int) : LB ((w.setCell ⟨B, k, none⟩ (.bool u)).setCell ⟨B, 32 + k, none⟩ (.int .u64 x)) B t (upd has k u) (upd val k x) := by
  refine Row.congr (Row.set (Row.set h (i := k) (by omega) _) (i := 32 + k) (by omega) _) fun i hi => ?_
  by_cases h1 : i < 32
  · have e1 : i ≠ 32 + k := by omega
    rw [upd_miss _ _ e1, lv_has _ _ h1]
    by_cases e : i = k
    · subst e; rw [upd_hit, upd_hit]
    · rw [upd_miss _ _ e, upd_miss _ _ e, lv_has _ _ h1]
  · obtain ⟨j, rfl⟩ : ∃ j, i = 32 + j := ⟨i - 32, by omega⟩
    rw [lv_val]
    by_cases e : j = k
    · subst e; rw [upd_hit, upd_hit]
    · rw [upd_miss _ _ (by omega), upd_miss _ _ (by omega), upd_miss _ _ e, lv_val]
theorem LB.mark (h : LB w B t has val) (hk : k < 32) (u : Bool) : LB (w.setCell ⟨B, k, none⟩ (.bool u)) B t (upd has k u) val := by
  refine Row.congr (Row.set h (i := k) (by omega) _) fun i hi => ?_
  by_cases h1 : i < 32
  · rw [lv_has _ _ h1]
    by_cases e : i = k
    · subst e; rw [upd_hit, upd_hit]
    · rw [upd_miss _ _ e, upd_miss _ _ e, lv_has _ _ h1]
  · obtain ⟨j, rfl⟩ : ∃ j, i = 32 + j := ⟨i - 32, by omega⟩
    rw [lv_val, upd_miss _ _ (by omega), lv_val]
end

/-- NewLimits. -/
theorem newlimits_any (w : World) : Calls Try.prog 28 #[] w fun e w' => e = .returned (.pointer (some ⟨w.heap.size, 0, none⟩)) ∧ LB w' w.heap.size 70 (fun _ => false) (fun _ => 0) ∧ Below w.heap.size w w' := by
  go_enter Try.func28, Try.ntmps28
  go_wp2
  go_ret
  refine ⟨rfl, ?_, (Below.refl _ _).alloc (Nat.le_refl _) _⟩
  exact Row.ofList w 70 _ _ 64 (by kernel_rfl)
set_option maxHeartbeats 400000 in
theorem isclient_yes (k : Nat) (w : World) (hk : k < 32) : Calls Try.prog 36 #[.int .i64 (k : Int)] w fun e w' => e = .returned (.bool true) ∧ w = w' := by
  have d1 : decide ((0 : Int) ≤ (k : Int)) = true := by simp
  have d2 : decide ((k : Int) < 32) = true := by simp; omega
  go_enter Try.func36, Try.ntmps36
  go_wp2
  go_ret
  exact ⟨rfl, rfl⟩
theorem isclient_no (k : Int) (w : World) (hk : k < 0 ∨ 32 ≤ k) : Calls Try.prog 36 #[.int .i64 k] w fun e w' => e = .returned (.bool false) ∧ w = w' := by
  by_cases h : k < 0
  · have d1 : decide ((0 : Int) ≤ k) = false := by simp; omega
    go_enter Try.func36, Try.ntmps36
    go_wp2
    go_ret
    exact ⟨rfl, rfl⟩
  · have d1 : decide ((0 : Int) ≤ k) = true := by simp; omega
    have d2 : decide (k < 32) = false := by simp; omega
    go_enter Try.func36, Try.ntmps36
    go_wp2
    go_ret
    exact ⟨rfl, rfl⟩

set_option maxHeartbeats 400000 in
theorem set_no (B : Nat) (k x : Int) (w : World) (hk : k < 0 ∨ 32 ≤ k) : Calls Try.prog 29 #[.pointer (some ⟨B, 0, none⟩), .int .i64 k, .int .u64 x] w fun e w' => e = .returned (.int .i64 1) ∧ w = w' := by
  go_enter Try.func29, Try.ntmps29
  go_wp2_with (go_at_call 36; refine (isclient_no k _ hk).mono ?_; rintro e w1 ⟨rfl, rfl⟩)
  go_ret
  exact ⟨rfl, rfl⟩
set_option maxHeartbeats 400000 in
theorem set_yes (B k : Nat) (x : Int) (w : World) (has : Nat → Bool) (val : Nat → Int) (hk : k < 32) (h : LB w B 70 has val) :
    Calls Try.prog 29 #[.pointer (some ⟨B, 0, none⟩), .int .i64 (k : Int), .int .u64 x] w fun e w' => e = .returned (.int .i64 0) ∧ LB w' B 70 (upd has k true) (upd val k x) ∧ Ch (· = B) w w' := by
  have H := Lib.hid h
  obtain ⟨c0, c1, f0, f1⟩ := h.at_ hk
  have hB := Row.lt h
  clear h
  have k0 : (0 : Int) ≤ (k : Int) := by omega
  have k1 : (k : Int) < 32 := by omega
  go_enter Try.func29, Try.ntmps29
  go_wp2_with (go_at_call 36; refine (isclient_yes k _ hk).mono ?_; rintro e w1 ⟨rfl, rfl⟩)
  go_ret
  exact ⟨rfl, H.out.put hk _ _, ((Ch.refl (· = B) w).setCell (p := ⟨B, k, none⟩) (fun _ => rfl) _).setCell (p := ⟨B, 32 + k, none⟩) (fun _ => rfl) _⟩

theorem remove_no (B : Nat) (k : Int) (w : World) (hk : k < 0 ∨ 32 ≤ k) : Calls Try.prog 32 #[.pointer (some ⟨B, 0, none⟩), .int .i64 k] w fun e w' => e = .returned (.int .i64 1) ∧ w = w' := by
  go_enter Try.func32, Try.ntmps32
  go_wp2_with (go_at_call 36; refine (isclient_no k _ hk).mono ?_; rintro e w1 ⟨rfl, rfl⟩)
  go_ret
  exact ⟨rfl, rfl⟩
set_option maxHeartbeats 400000 in
theorem remove_none (B k : Nat) (w : World) (has : Nat → Bool) (val : Nat → Int) (hk : k < 32) (h : LB w B 70 has val) (hh : has k = false) :
    Calls Try.prog 32 #[.pointer (some ⟨B, 0, none⟩), .int .i64 (k : Int)] w fun e w' => e = .returned (.int .i64 6) ∧ w = w' := by
  obtain ⟨c0, -, -, -⟩ := h.at_ hk
  rw [hh] at c0
  clear h hh
  have k0 : (0 : Int) ≤ (k : Int) := by omega
  have k1 : (k : Int) < 32 := by omega
  go_enter Try.func32, Try.ntmps32
  go_wp2_with (go_at_call 36; refine (isclient_yes k _ hk).mono ?_; rintro e w1 ⟨rfl, rfl⟩)
  go_ret
  exact ⟨rfl, rfl⟩
set_option maxHeartbeats 400000 in
theorem remove_yes (B k : Nat) (w : World) (has : Nat → Bool) (val : Nat → Int) (hk : k < 32) (h : LB w B 70 has val) (hh : has k = true) :
    Calls Try.prog 32 #[.pointer (some ⟨B, 0, none⟩), .int .i64 (k : Int)] w fun e w' => e = .returned (.int .i64 0) ∧ LB w' B 70 (upd has k false) (upd val k 0) ∧ Ch (· = B) w w' := by
  have H := Lib.hid h
  obtain ⟨c0, c1, f0, f1⟩ := h.at_ hk
  rw [hh] at c0
  clear h hh
  have k0 : (0 : Int) ≤ (k : Int) := by omega
  have k1 : (k : Int) < 32 := by omega
  go_enter Try.func32, Try.ntmps32
  go_wp2_with (go_at_call 36; refine (isclient_yes k _ hk).mono ?_; rintro e w1 ⟨rfl, rfl⟩)
  go_ret
  exact ⟨rfl, H.out.put hk _ _, ((Ch.refl (· = B) w).setCell (p := ⟨B, k, none⟩) (fun _ => rfl) _).setCell (p := ⟨B, 32 + k, none⟩) (fun _ => rfl) _⟩

/-- The smallest request among the first k clients. -/
def lim (has : Nat → Bool) (val : Nat → Int) : Nat → Bool × Int
  | 0 => (false, 0)
  | k + 1 => if has k = true ∧ ((lim has val k).1 = false ∨ val k < (lim has val k).2) then (true, val k) else lim has val k

def limit (has : Nat → Bool) (val : Nat → Int) : Int := if (lim has val 32).1 then (lim has val 32).2 else 1152921504606846976

theorem lim_take {has : Nat → Bool} {val : Nat → Int} {k : Nat} (h1 : has k = true) (h2 : (lim has val k).1 = false ∨ val k < (lim has val k).2) : lim has val (k + 1) = (true, val k) := by
  rw [lim]; exact if_pos ⟨h1, h2⟩
theorem lim_keep {has : Nat → Bool} {val : Nat → Int} {k : Nat} (h : has k = false ∨ ((lim has val k).1 = true ∧ (lim has val k).2 ≤ val k)) : lim has val (k + 1) = lim has val k := by
  rw [lim]; refine if_neg ?_
  rintro ⟨h1, h2⟩
  rcases h with h | ⟨h3, h4⟩
  · rw [h] at h1; cases h1
  · rcases h2 with h2 | h2
    · rw [h3] at h2; cases h2
    · omega
theorem limit_yes {has : Nat → Bool} {val : Nat → Int} (h : (lim has val 32).1 = true) : limit has val = (lim has val 32).2 := by unfold limit; rw [if_pos h]
theorem limit_no {has : Nat → Bool} {val : Nat → Int} (h : (lim has val 32).1 = false) : limit has val = 1152921504606846976 := by unfold limit; rw [if_neg (by rw [h]; simp)]

def lvs (has : Nat → Bool) : List Value := (List.range 32).map fun i => Value.bool (has i)
theorem lvs_len (has : Nat → Bool) : (lvs has).length = 32 := by simp [lvs]
theorem lvs_at (has : Nat → Bool) {k : Nat} (h : k < 32) : (lvs has).toArray[k]? = some (.bool (has k)) := by simp [lvs, h]
theorem LB.range {w : World} {B t : Nat} {has : Nat → Bool} {val : Nat → Int} (h : LB w B t has val) : w.rangeAt B 0 (lvs has) := fun j u hu => by
  have hj : j < 32 := by have := (List.getElem?_eq_some_iff.1 hu).1; rwa [lvs_len] at this
  have := lvs_at has hj
  simp only [List.getElem?_toArray] at this
  rw [hu] at this
  rw [Nat.zero_add, (h.at_ hj).1, ← this]

theorem Try.info67 : (Try.prog.info? 67).map (·.size) = some 32 := by kernel_rfl
theorem Try.info4 : (Try.prog.info? 4).map (fun i => (i.zero, i.size, i.bytes)) = some (some (.bool false), 1, 1) := by kernel_rfl

set_option maxHeartbeats 1000000 in
theorem limit_any (B : Nat) (w : World) (has : Nat → Bool) (val : Nat → Int) (h : LB w B 70 has val) :
    Calls Try.prog 30 #[.pointer (some ⟨B, 0, none⟩)] w fun e w' => e = .returned (.int .u64 (limit has val)) ∧ w = w' := by
  have H := Lib.hid h
  obtain ⟨i0, hi, hz0, hz1, hz2⟩ := info_parts Try.info4
  have HX := Lib.hid (fun (k : Nat) (hk : k < 32) (W : World) => run_index_array (P := Try.prog) 67 4 32 _ i0 (lvs has).toArray k _ Try.underlying67 Try.underlying4 rfl hi hz1 hk (lvs_at has hk) W)
  clear h hi hz0 hz1 hz2
  go_enter Try.func30, Try.ntmps30
  go_wp2_with (refine wpList_load_mid rfl 67 _ rfl B 0 rfl (lvs has) _ H.out.range Try.underlying67 rfl (by rw [lvs_len]; exact Try.info67) ?_)
  go_loop [3, 4, 11] (fun a b i => ∃ k : Nat, k ≤ 32 ∧ i = .int .i64 k ∧ a = .bool (lim has val k).1 ∧ b = .int .u64 (lim has val k).2) (fun _ _ i => 32 - (intOf i).toNat)
  case atStart => exact ⟨0, by omega, rfl, rfl, rfl⟩
  case round =>
    obtain ⟨k, hk, rfl, rfl, rfl⟩ := hrel
    by_cases hlt : k < 32
    · have hx := HX.out k hlt
      obtain ⟨-, c1, -, -⟩ := H.out.at_ hlt
      have k0 : (0 : Int) ≤ (k : Int) := by omega
      have k1 : (k : Int) < 32 := by omega
      by_cases hh : has k = true
      · by_cases hf : (lim has val k).1 = true
        · by_cases hv : val k < (lim has val k).2
          · have e := Lib.hid (lim_take hh (.inr hv))
            go_wp2_with fail
            go_round
            case rel => exact ⟨k + 1, by omega, by go_num, by rw [e.out], by rw [e.out]⟩
            case measure => simp [intOf]; omega
          · have e := Lib.hid (lim_keep (.inr ⟨hf, by omega⟩))
            go_wp2_with fail
            go_round
            case rel => exact ⟨k + 1, by omega, by go_num, by rw [e.out, hf], by rw [e.out]⟩
            case measure => simp [intOf]; omega
        · have hf' : (lim has val k).1 = false := by simpa using hf
          have e := Lib.hid (lim_take hh (.inl hf'))
          clear hf
          go_wp2_with fail
          go_round
          case rel => exact ⟨k + 1, by omega, by go_num, by rw [e.out], by rw [e.out]⟩
          case measure => simp [intOf]; omega
      · have hh' : has k = false := by simpa using hh
        have e := Lib.hid (lim_keep (val := val) (.inl hh'))
        clear hh
        go_wp2_with fail
        go_round
        case rel => exact ⟨k + 1, by omega, by go_num, by rw [e.out], by rw [e.out]⟩
        case measure => simp [intOf]; omega
    · have k1 : ¬ (k : Int) < 32 := by omega
      obtain rfl : k = 32 := by omega
      by_cases hf : (lim has val 32).1 = true
      · have e := Lib.hid (limit_yes hf)
        go_wp2_with fail
        go_ret
        exact ⟨ret_int e.out.symm, rfl⟩
      · have hf' : (lim has val 32).1 = false := by simpa using hf
        have e := Lib.hid (limit_no hf')
        clear hf
        go_wp2_with fail
        go_ret
        exact ⟨ret_int e.out.symm, rfl⟩

/-! The reference's. -/
theorem refnew_any (w : World) : Calls Try.prog 31 #[] w fun e w' => e = .returned (.pointer (some ⟨w.heap.size, 0, none⟩)) ∧ LB w' w.heap.size 73 (fun _ => false) (fun _ => 0) ∧ Below w.heap.size w w' := by
  go_enter Try.func31, Try.ntmps31
  go_wp2
  go_ret
  refine ⟨rfl, ?_, (Below.refl _ _).alloc (Nat.le_refl _) _⟩
  exact Row.ofList w 73 _ _ 64 (by kernel_rfl)

theorem refset_no (B : Nat) (k x : Int) (w : World) (hk : k < 0 ∨ 32 ≤ k) : Calls Try.prog 34 #[.pointer (some ⟨B, 0, none⟩), .int .i64 k, .int .u64 x] w fun e w' => e = .returned (.int .i64 1) ∧ w = w' := by
  by_cases h : k < 0
  · have d1 : decide (k < 0) = true := by simp; omega
    go_enter Try.func34, Try.ntmps34
    go_wp2
    go_ret
    exact ⟨rfl, rfl⟩
  · have d1 : decide (k < 0) = false := by simp; omega
    have d2 : decide (32 ≤ k) = true := by simp; omega
    go_enter Try.func34, Try.ntmps34
    go_wp2
    go_ret
    exact ⟨rfl, rfl⟩
set_option maxHeartbeats 400000 in
theorem refset_yes (B k : Nat) (x : Int) (w : World) (has : Nat → Bool) (val : Nat → Int) (hk : k < 32) (h : LB w B 73 has val) :
    Calls Try.prog 34 #[.pointer (some ⟨B, 0, none⟩), .int .i64 (k : Int), .int .u64 x] w fun e w' => e = .returned (.int .i64 0) ∧ LB w' B 73 (upd has k true) (upd val k x) ∧ Ch (· = B) w w' := by
  have H := Lib.hid h
  obtain ⟨c0, c1, f0, f1⟩ := h.at_ hk
  clear h
  have k0 : (0 : Int) ≤ (k : Int) := by omega
  have k1 : (k : Int) < 32 := by omega
  have d1 : decide ((k : Int) < 0) = false := by simp
  have d2 : decide (32 ≤ (k : Int)) = false := by simp; omega
  go_enter Try.func34, Try.ntmps34
  go_wp2
  go_region
  go_wp2
  go_ret
  exact ⟨rfl, (H.out.put hk _ _).drew, (((Ch.refl (· = B) w).setCell (p := ⟨B, k, none⟩) (fun _ => rfl) _).setCell (p := ⟨B, 32 + k, none⟩) (fun _ => rfl) _).drew⟩

theorem refremove_no (B : Nat) (k : Int) (w : World) (hk : k < 0 ∨ 32 ≤ k) : Calls Try.prog 33 #[.pointer (some ⟨B, 0, none⟩), .int .i64 k] w fun e w' => e = .returned (.int .i64 1) ∧ w = w' := by
  by_cases h : k < 0
  · have d1 : decide (k < 0) = true := by simp; omega
    go_enter Try.func33, Try.ntmps33
    go_wp2
    go_ret
    exact ⟨rfl, rfl⟩
  · have d1 : decide (k < 0) = false := by simp; omega
    have d2 : decide (32 ≤ k) = true := by simp; omega
    go_enter Try.func33, Try.ntmps33
    go_wp2
    go_ret
    exact ⟨rfl, rfl⟩
set_option maxHeartbeats 400000 in
theorem refremove_none (B k : Nat) (w : World) (has : Nat → Bool) (val : Nat → Int) (hk : k < 32) (h : LB w B 73 has val) (hh : has k = false) :
    Calls Try.prog 33 #[.pointer (some ⟨B, 0, none⟩), .int .i64 (k : Int)] w fun e w' => e = .returned (.int .i64 6) ∧ w = w' := by
  obtain ⟨c0, -, -, -⟩ := h.at_ hk
  rw [hh] at c0
  clear h hh
  have k0 : (0 : Int) ≤ (k : Int) := by omega
  have k1 : (k : Int) < 32 := by omega
  have d1 : decide ((k : Int) < 0) = false := by simp
  have d2 : decide (32 ≤ (k : Int)) = false := by simp; omega
  go_enter Try.func33, Try.ntmps33
  go_wp2
  go_ret
  exact ⟨rfl, rfl⟩
set_option maxHeartbeats 400000 in
theorem refremove_yes (B k : Nat) (w : World) (has : Nat → Bool) (val : Nat → Int) (hk : k < 32) (h : LB w B 73 has val) (hh : has k = true) :
    Calls Try.prog 33 #[.pointer (some ⟨B, 0, none⟩), .int .i64 (k : Int)] w fun e w' => e = .returned (.int .i64 0) ∧ LB w' B 73 (upd has k false) val ∧ Ch (· = B) w w' := by
  have H := Lib.hid h
  obtain ⟨c0, c1, f0, f1⟩ := h.at_ hk
  rw [hh] at c0
  clear h hh
  have k0 : (0 : Int) ≤ (k : Int) := by omega
  have k1 : (k : Int) < 32 := by omega
  have d1 : decide ((k : Int) < 0) = false := by simp
  have d2 : decide (32 ≤ (k : Int)) = false := by simp; omega
  go_enter Try.func33, Try.ntmps33
  go_wp2
  go_ret
  exact ⟨rfl, H.out.mark hk _, (Ch.refl (· = B) w).setCell (p := ⟨B, k, none⟩) (fun _ => rfl) _⟩

/-- The reference begins with the greatest time. -/
def rl (has : Nat → Bool) (val : Nat → Int) (k : Nat) : Int := if (lim has val k).1 = true then (lim has val k).2 else 1152921504606846976

set_option maxHeartbeats 1000000 in
theorem reflimit_any (B : Nat) (w : World) (has : Nat → Bool) (val : Nat → Int) (h : LB w B 73 has val) :
    Calls Try.prog 35 #[.pointer (some ⟨B, 0, none⟩)] w fun e w' => e = .returned (.int .u64 (limit has val)) ∧ w = w' := by
  have H := Lib.hid h
  clear h
  go_enter Try.func35, Try.ntmps35
  go_wp2_with fail
  go_loop [3, 4, 5] (fun b a i => ∃ k : Nat, k ≤ 32 ∧ i = .int .i64 k ∧ a = .bool (lim has val k).1 ∧ b = .int .u64 (rl has val k)) (fun _ _ i => 32 - (intOf i).toNat)
  case atStart => exact ⟨0, by omega, rfl, rfl, rfl⟩
  case round =>
    obtain ⟨k, hk, rfl, rfl, rfl⟩ := hrel
    by_cases hlt : k < 32
    · obtain ⟨c0, c1, -, -⟩ := H.out.at_ hlt
      have k0 : (0 : Int) ≤ (k : Int) := by omega
      have k1 : (k : Int) < 32 := by omega
      by_cases hh : has k = true
      · by_cases hf : (lim has val k).1 = true
        · have er : rl has val k = (lim has val k).2 := if_pos hf
          by_cases hv : val k < (lim has val k).2
          · have e := Lib.hid (lim_take hh (.inr hv))
            go_wp2_with fail
            go_round
            case rel => exact ⟨k + 1, by omega, by go_num, by rw [e.out], by unfold rl; rw [e.out]; rfl⟩
            case measure => simp [intOf]; omega
          · have e := Lib.hid (lim_keep (.inr ⟨hf, by omega⟩))
            go_wp2_with fail
            go_round
            case rel => exact ⟨k + 1, by omega, by go_num, by rw [e.out, hf], by unfold rl; rw [e.out, if_pos hf]⟩
            case measure => simp [intOf]; omega
        · have hf' : (lim has val k).1 = false := by simpa using hf
          have e := Lib.hid (lim_take hh (.inl hf'))
          clear hf
          go_wp2_with fail
          go_round
          case rel => exact ⟨k + 1, by omega, by go_num, by rw [e.out], by unfold rl; rw [e.out]; rfl⟩
          case measure => simp [intOf]; omega
      · have hh' : has k = false := by simpa using hh
        have e := Lib.hid (lim_keep (val := val) (.inl hh'))
        clear hh
        go_wp2_with fail
        go_round
        case rel => exact ⟨k + 1, by omega, by go_num, by rw [e.out], by unfold rl; rw [e.out]⟩
        case measure => simp [intOf]; omega
    · have k1 : ¬ (k : Int) < 32 := by omega
      obtain rfl : k = 32 := by omega
      go_wp2_with fail
      go_ret
      exact ⟨rfl, rfl⟩
end Go.Proofs.Ytgllakmcccjcbaa
