/- The walk of IdleLimitIsMinimum: it returns true and writes nothing that was there. No condition. -/
import Derived.Test.YtgllakmcccjcbaaN
import Derived.Test.YtgllakmcccjcbaaE
namespace Go.Proofs.Ytgllakmcccjcbaa
open Go.RowKit K

/-- A slice of numbers. -/
def Us (w : World) (B : Nat) (A : Option Addr) (n : Nat) (f : Nat → Int) : Prop :=
  (∀ i, i < n → 0 ≤ f i ∧ f i ≤ 18446744073709551615) ∧ (0 < n → ∃ b off, A = some ⟨b, off, none⟩ ∧ b < B ∧ ∀ i, i < n → w.cell? ⟨b, off + i, none⟩ = some (.int .u64 (f i)))
theorem Us.at_ {w w' : World} {B : Nat} {A : Option Addr} {n k : Nat} {f : Nat → Int} (h : Us w B A n f) (hb : Below B w w') (hk : k < n) :
    ∃ b off, A = some ⟨b, off, none⟩ ∧ b < B ∧ w'.cell? ⟨b, off + k, none⟩ = some (.int .u64 (f k)) := by
  obtain ⟨b, off, e, hlt, hc⟩ := h.2 (by omega)
  exact ⟨b, off, e, hlt, (hb.cell hlt).trans (hc k hk)⟩

theorem lim_spec (has : Nat → Bool) (val : Nat → Int) (k : Nat) :
    ((lim has val k).1 = true → (∀ i, i < k → has i = true → (lim has val k).2 ≤ val i) ∧ ∃ i, i < k ∧ has i = true ∧ (lim has val k).2 = val i) ∧ ((lim has val k).1 = false → ∀ i, i < k → has i = false) := by
  induction k with
  | zero => exact ⟨fun h => Bool.noConfusion h, fun _ i hi => by omega⟩
  | succ k ih =>
    obtain ⟨ih1, ih2⟩ := ih
    by_cases hh : has k = true
    · by_cases hf : (lim has val k).1 = true
      · obtain ⟨a1, i, a2, a3, a4⟩ := ih1 hf
        by_cases hv : val k < (lim has val k).2
        · rw [lim_take hh (.inr hv)]
          refine ⟨fun _ => ⟨fun j hj hhj => ?_, k, by omega, hh, rfl⟩, fun h => by cases h⟩
          by_cases e : j = k
          · subst e; exact Int.le_refl _
          · have := a1 j (by omega) hhj; show val k ≤ val j; omega
        · rw [lim_keep (.inr ⟨hf, by omega⟩)]
          refine ⟨fun _ => ⟨fun j hj hhj => ?_, i, by omega, a3, a4⟩, fun h => by rw [hf] at h; cases h⟩
          by_cases e : j = k
          · subst e; omega
          · exact a1 j (by omega) hhj
      · have hf' : (lim has val k).1 = false := by simpa using hf
        rw [lim_take hh (.inl hf')]
        refine ⟨fun _ => ⟨fun j hj hhj => ?_, k, by omega, hh, rfl⟩, fun h => by cases h⟩
        by_cases e : j = k
        · subst e; exact Int.le_refl _
        · rw [ih2 hf' j (by omega)] at hhj; cases hhj
    · have hh' : has k = false := by simpa using hh
      rw [lim_keep (.inl hh')]
      refine ⟨fun h => ?_, fun h j hj => ?_⟩
      · obtain ⟨a1, i, a2, a3, a4⟩ := ih1 h
        refine ⟨fun j hj hhj => ?_, i, by omega, a3, a4⟩
        by_cases e : j = k
        · subst e; rw [hh'] at hhj; cases hhj
        · exact a1 j (by omega) hhj
      · by_cases e : j = k
        · subst e; exact hh'
        · exact ih2 h j (by omega)

theorem lim_congr {has has' : Nat → Bool} {va vb : Nat → Int} (h : ∀ i, i < 32 → has i = has' i) (hv : ∀ i, i < 32 → has i = true → va i = vb i) : limit has va = limit has' vb := by
  have key : ∀ k, k ≤ 32 → lim has va k = lim has' vb k := by
    intro k
    induction k with
    | zero => intro _; rfl
    | succ k ih =>
      intro hk
      have e := ih (by omega)
      have eh := h k (by omega)
      by_cases hh : has k = true
      · have ev := hv k (by omega) hh
        unfold lim
        rw [e, ev, eh]
      · have hh' : has k = false := by simpa using hh
        rw [lim_keep (.inl hh'), lim_keep (.inl (by rw [← eh]; exact hh')), e]
  unfold limit; rw [key 32 (Nat.le_refl _)]

/-- a after m rounds -/
def IA (has : Nat → Bool) (va lat : Nat → Int) (m : Nat) : Prop := (∀ j, has j = true ↔ j < m) ∧ ∀ j, j < m → va j = lat j
/-- b after m rounds -/
def IB (has : Nat → Bool) (vb lat : Nat → Int) (s n m : Nat) : Prop := (∀ i, i < m → has ((i + s) % n) = true) ∧ ∀ j, has j = true → j < n ∧ vb j = lat j

theorem IA.step {has : Nat → Bool} {va lat : Nat → Int} {m : Nat} (h : IA has va lat m) : IA (upd has m true) (upd va m (lat m)) lat (m + 1) := by
  refine ⟨fun j => ?_, fun j hj => ?_⟩
  · by_cases e : j = m
    · subst e; rw [upd_hit]; simp
    · rw [upd_miss _ _ e, h.1]; omega
  · by_cases e : j = m
    · subst e; rw [upd_hit]
    · rw [upd_miss _ _ e]; exact h.2 j (by omega)
theorem IB.step {has : Nat → Bool} {vb lat : Nat → Int} {s n m : Nat} (h : IB has vb lat s n m) (hn : 0 < n) :
    IB (upd has ((m + s) % n) true) (upd vb ((m + s) % n) (lat ((m + s) % n))) lat s n (m + 1) := by
  refine ⟨fun i hi => ?_, fun j hj => ?_⟩
  · by_cases e : (i + s) % n = (m + s) % n
    · rw [e, upd_hit]
    · rw [upd_miss _ _ e]; exact h.1 i (by
        rcases Nat.lt_or_ge i m with h1 | h1
        · exact h1
        · exact absurd (by rw [show i = m by omega]) e)
  · by_cases e : j = (m + s) % n
    · subst e; exact ⟨Nat.mod_lt _ hn, by rw [upd_hit]⟩
    · rw [upd_miss _ _ e] at hj
      rw [upd_miss _ _ e]; exact h.2 j hj
theorem ab_limit {ha hb : Nat → Bool} {va vb lat : Nat → Int} {s n : Nat} (h : IA ha va lat n) (k : IB hb vb lat s n n) (hs : s < n) : limit ha va = limit hb vb := by
  have hB : ∀ j, j < n → hb j = true := by
    intro j hj
    rcases Nat.lt_or_ge j s with h1 | h1
    · have := k.1 (j + n - s) (by omega)
      rwa [show j + n - s + s = j + n by omega, Nat.add_mod_right, Nat.mod_eq_of_lt hj] at this
    · have := k.1 (j - s) (by omega)
      rwa [show j - s + s = j by omega, Nat.mod_eq_of_lt hj] at this
  refine lim_congr (fun i _ => ?_) (fun i _ hi => ?_)
  · by_cases e : i < n
    · rw [(h.1 i).2 e, hB i e]
    · have h1 : ha i = false := by
        rcases hq : ha i with _ | _
        · rfl
        · exact absurd ((h.1 i).1 hq) e
      have h2 : hb i = false := by
        rcases hq : hb i with _ | _
        · rfl
        · exact absurd (k.2 i hq).1 e
      rw [h1, h2]
  · have e := (h.1 i).1 hi
    rw [h.2 i e, (k.2 i (hB i e)).2]

/-- The limit is a least request, and one of them. -/
theorem a_limit {ha : Nat → Bool} {va lat : Nat → Int} {n : Nat} (h : IA ha va lat n) (hn : 0 < n) (h32 : n ≤ 32) : (∀ i, i < n → limit ha va ≤ lat i) ∧ ∃ i, i < n ∧ limit ha va = lat i := by
  have hsp := lim_spec ha va 32
  have h0 : ha 0 = true := (h.1 0).2 hn
  have hf : (lim ha va 32).1 = true := by
    rcases hq : (lim ha va 32).1 with _ | _
    · rw [hsp.2 hq 0 (by omega)] at h0; cases h0
    · rfl
  obtain ⟨a1, i, a2, a3, a4⟩ := hsp.1 hf
  rw [limit_yes hf]
  refine ⟨fun j hj => ?_, i, (h.1 i).1 a3, ?_⟩
  · rw [← h.2 j hj]; exact a1 j (by omega) ((h.1 j).2 hj)
  · rw [a4, h.2 i ((h.1 i).1 a3)]

def fnd (lat : Nat → Int) (m : Int) : Nat → Bool
  | 0 => false
  | k + 1 => fnd lat m k || (m == lat k)
theorem fnd_of {lat : Nat → Int} {m : Int} {i n : Nat} (hi : i < n) (h : m = lat i) : fnd lat m n = true := by
  induction n with
  | zero => omega
  | succ n ih =>
    unfold fnd
    by_cases e : i = n
    · subst e; simp [h]
    · rw [ih (by omega)]; rfl

theorem set_at (B c : Nat) (k x : Int) (w : World) (has : Nat → Bool) (val : Nat → Int) (e : k = c) (hk : c < 32) (h : LB w B 70 has val) :
    Calls Try.prog 29 #[.pointer (some ⟨B, 0, none⟩), .int .i64 k, .int .u64 x] w fun e w' => e = .returned (.int .i64 0) ∧ LB w' B 70 (upd has c true) (upd val c x) ∧ Ch (· = B) w w' := by
  subst e; exact set_yes B c x w has val hk h

theorem limit_q2 (B a n : Nat) (w : World) (has : Nat → Bool) (val : Nat → Int) (h : LB w B 70 has val) :
    Calls Try.prog 30 #[.pointer (some ⟨B, 0, none⟩)] (w.drewN (a + n)) fun e w' => e = .returned (.int .u64 (limit has val)) ∧ ∃ m, w' = w.drewN (a + m) :=
  (limit_any B (w.drewN (a + n)) has val h).mono fun _ _ ⟨he, hw⟩ => ⟨he, n, hw.symm⟩

set_option maxRecDepth 100000 in
set_option maxHeartbeats 2000000 in
theorem minimum_walk (A : Option Addr) (len c : Nat) (v : Int) (w : World) (lat : Nat → Int) (hn : len ≤ 9223372036854775807) (hsl : Us w w.heap.size A len lat) (_hv0 : -9223372036854775808 ≤ v ∧ v ≤ 9223372036854775807) :
    Calls Try.prog 10 #[.slice A len c, .int .i64 v] w fun e w' => e = .returned (.bool true) ∧ Below w.heap.size w w' := by
  have HS := Lib.hid hsl
  clear hsl
  by_cases h20 : 20 < len
  · have d1 : decide ((20 : Int) < (len : Int)) = true := by simp; omega
    go_enter Try.func10, Try.ntmps10
    go_wp2_with (go_at_call 13; refine (awake_any _).mono ?_; rintro e w1 ⟨rfl, hb1⟩)
    go_ret
    exact ⟨rfl, hb1⟩
  have d1 : decide ((20 : Int) < (len : Int)) = false := by simp; omega
  go_enter Try.func10, Try.ntmps10
  go_wp2_with fail
  refine (newlimits_any _).mono ?_
  rintro e w1 ⟨rfl, hl1, hb1⟩
  have L1 := Lib.hid hl1
  clear hl1
  go_wp2_with fail
  refine (newlimits_any _).mono ?_
  rintro e w2 ⟨rfl, hl2, hb2⟩
  have L2 := Lib.hid (L1.out.below hb2 L1.out.lt)
  have M2 := Lib.hid hl2
  have hlt : w.heap.size < w1.heap.size := L1.out.lt
  have hb12 := bthen hb1 hb2
  clear hl2 L1 hb1 hb2 d1
  obtain ⟨s, hs, hmod⟩ : ∃ s : Nat, (0 < len → s < len) ∧ (0 < len → ∀ W : World, Calls Try.prog 15 #[.int .i64 v, .int .i64 (len : Int)] W fun e w' => e = .returned (.int .i64 (s : Int)) ∧ W = w') := by
    by_cases h0 : 0 < len
    · have m1 := md_lo v len (by omega)
      have m2 := md_hi v len (by omega)
      obtain ⟨k, hk⟩ := Int.eq_ofNat_of_zero_le m1
      exact ⟨k, fun _ => by omega, fun _ W => (mod_any v len W (by omega) (by omega)).mono fun e w' h => by rw [hk] at h; exact h⟩
    · exact ⟨0, fun h => absurd h h0, fun h => absurd h h0⟩
  have HMD := Lib.hid hmod
  have HSS := Lib.hid hs
  clear hmod hs
  go_wp2_with fail
  go_loopw [8] (fun i wr => ∃ (k : Nat) (ha hb : Nat → Bool) (va vb : Nat → Int), k ≤ len ∧ i = .int .i64 k ∧ Hid (IA ha va lat k) ∧ Hid (IB hb vb lat s len k) ∧ Hid (LB wr w.heap.size 70 ha va) ∧ Hid (LB wr w1.heap.size 70 hb vb) ∧ Below w.heap.size w wr) (fun i _ => len - (intOf i).toNat)
  case atStart => exact ⟨0, _, _, _, _, by omega, rfl, ⟨fun j => ⟨fun h => Bool.noConfusion h, fun h => by omega⟩, fun j hj => by omega⟩, ⟨fun i hi => by omega, fun j h => Bool.noConfusion h⟩, L2, M2, hb12⟩
  case round =>
    clear L2 M2 hb12
    obtain ⟨k, ha, hb, va, vb, hk, rfl, hIA, hIB, LA, LBB, hbel⟩ := hrel
    have hsz := hbel.size
    by_cases hlk : k < len
    · have hs := HSS.out (by omega)
      obtain ⟨b, off, rfl, hbo, c0⟩ := HS.out.at_ hbel hlk
      have hpl : (k + s) % len < len := Nat.mod_lt _ (by omega)
      go_wp2_with fail
      refine (HMD.out (by omega) _).mono ?_
      rintro e w3 ⟨rfl, rfl⟩
      go_wp2_with fail
      refine (set_yes _ k _ _ _ _ (by omega) LA.out).mono ?_
      rintro e w3 ⟨rfl, ha3, hc3⟩
      have LA3 := Lib.hid ha3
      have LB3 := Lib.hid (LBB.out.ch hc3 (by omega))
      have hb3 : Below w.heap.size w w3 := Below.thenCh hbel hc3 hsz (by intro i hi; omega)
      clear ha3 hc3
      obtain ⟨b', off', e', _, c1⟩ := HS.out.at_ hb3 hpl
      simp only [Option.some.injEq, Addr.mk.injEq, and_true] at e'
      obtain ⟨rfl, rfl⟩ := e'
      have pe : Hid (((k : Int) + (s : Int)) % (len : Int) = (((k + s) % len : Nat) : Int)) := (rfl : ((k : Int) + (s : Int)) % (len : Int) = (((k + s) % len : Nat) : Int))
      have p1 : (0 : Int) ≤ ((k : Int) + (s : Int)) % (len : Int) := by rw [pe.out]; omega
      have p2 : ((k : Int) + (s : Int)) % (len : Int) < (len : Int) := by rw [pe.out]; omega
      go_wp2_with fail
      refine (set_at _ ((k + s) % len) _ _ _ _ _ pe.out (by omega) LB3.out).mono ?_
      rintro e w4 ⟨rfl, hb4, hc4⟩
      have LA4 := Lib.hid (LA3.out.ch hc4 (by omega))
      have LB4 := Lib.hid hb4
      have hb5 : Below w.heap.size w w4 := Below.thenCh hb3 hc4 hb3.size (by intro i hi; omega)
      clear hb4 hc4
      go_wp2_with fail
      go_roundw
      case rel => exact ⟨k + 1, _, _, _, _, by omega, by go_num, hIA.out.step, hIB.out.step (by omega), LA4, LB4, hb5⟩
      case measure => simp [intOf]; omega
    · obtain rfl : k = len := by omega
      by_cases h0 : k = 0
      · have e0 : ((k : Int) == 0) = true := by simp [h0]
        have eL : limit ha va = 1152921504606846976 := by
          apply limit_no
          rcases hq : (lim ha va 32).1 with _ | _
          · rfl
          · obtain ⟨_, i, _, a3, _⟩ := (lim_spec ha va 32).1 hq
            have := (hIA.out.1 i).1 a3
            omega
        have EL : (limit ha va == 1152921504606846976) = true := by rw [eL]; rfl
        clear h0 eL
        go_wp2_with fail
        refine (limit_any _ _ _ _ LA.out).mono ?_
        rintro e w5 ⟨rfl, rfl⟩
        go_wp2_with fail
        refine (awake_any _).mono ?_
        rintro e w6 ⟨rfl, hb6⟩
        go_wp2_with fail
        go_ret
        exact ⟨rfl, bthen hbel hb6⟩
      · have e0 : ((k : Int) == 0) = false := by simp [h0]
        have hpos : 0 < k := by omega
        have hmin := Lib.hid (a_limit hIA.out hpos (by omega))
        have heq := Lib.hid (ab_limit hIA.out hIB.out (HSS.out hpos))
        obtain ⟨b, off, rfl, hbo, -⟩ := HS.out.at_ hbel hpos
        clear h0 hIA hIB
        go_wp2_with fail
        obtain ⟨wo, rfl⟩ : ∃ wo : World, wo = wr := ⟨_, rfl⟩
        go_loopw [10, 11] (fun t i wr => ∃ j : Nat, j ≤ k ∧ i = .int .i64 j ∧ t = .bool (fnd lat (limit ha va) j) ∧ Hid (LB wr w.heap.size 70 ha va) ∧ Hid (LB wr w1.heap.size 70 hb vb) ∧ Below w.heap.size w wr) (fun _ i _ => k - (intOf i).toNat)
        case atStart => exact ⟨0, by omega, rfl, rfl, LA, LBB, hbel⟩
        case round =>
          clear LA LBB hbel hsz
          obtain ⟨j, hj, rfl, rfl, LA, LBB, hbel⟩ := hrel
          by_cases hjk : j < k
          · obtain ⟨b', off', e', _, c0⟩ := HS.out.at_ hbel hjk
            simp only [Option.some.injEq, Addr.mk.injEq, and_true] at e'
            obtain ⟨rfl, rfl⟩ := e'
            have hm := hmin.out.1 j hjk
            have a1 : decide (lat j < limit ha va) = false := by simp; omega
            rcases hf : fnd lat (limit ha va) j with _ | _
            · have ef : fnd lat (limit ha va) (j + 1) = (limit ha va == lat j) := by rw [fnd, hf]; rfl
              have EF := Lib.hid ef
              clear ef hf
              go_wp2_with fail
              go_quiet ((go_at_call 30; exact limit_q _ _ _ _ _ LA.out))
              go_wp2_with fail
              go_quiet ((go_at_call 30; exact limit_q2 _ _ _ _ _ _ LA.out))
              go_wp2_with fail
              go_roundw
              case rel => exact ⟨j + 1, by omega, by go_num, by rw [EF.out], LA, LBB, below_drewN hbel _⟩
              case measure => simp [intOf]; omega
            · have ef : fnd lat (limit ha va) (j + 1) = true := by rw [fnd, hf]; rfl
              have EF := Lib.hid ef
              clear ef hf
              go_wp2_with fail
              go_quiet ((go_at_call 30; exact limit_q _ _ _ _ _ LA.out))
              go_wp2_with fail
              go_quiet (fail)
              go_wp2_with fail
              go_roundw
              case rel => exact ⟨j + 1, by omega, by go_num, by rw [EF.out], LA, LBB, below_drewN hbel _⟩
              case measure => simp [intOf]; omega
          · obtain rfl : j = k := by omega
            obtain ⟨i0, hi0, hi1⟩ := hmin.out.2
            have hf : fnd lat (limit ha va) j = true := fnd_of hi0 hi1
            have eq2 : (limit hb vb == limit ha va) = true := by rw [heq.out]; simp
            clear hi1
            go_wp2_with fail
            refine (limit_any _ _ _ _ (by exact LBB.out)).mono ?_
            rintro e w5 ⟨rfl, rfl⟩
            go_wp2_with fail
            refine (limit_any _ _ _ _ (by exact LA.out)).mono ?_
            rintro e w5 ⟨rfl, rfl⟩
            go_wp2_with fail
            refine (awake_any _).mono ?_
            rintro e w6 ⟨rfl, hb6⟩
            go_wp2_with fail
            go_ret
            exact ⟨rfl, bthen hbel hb6⟩
end Go.Proofs.Ytgllakmcccjcbaa
