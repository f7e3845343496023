/- The reference's predictor: what each call does to its memory. Conditions: at most 1000 durations. -/
import Derived.Test.YtgllakmcccjcbaaQ
namespace Go.Proofs.Ytgllakmcccjcbaa
open Go.RowKit K

def dsl (m : Nat) (ds : Nat → Int) : List Value := (List.range m).map fun i => Value.int .u64 (ds i)
theorem dsl_len (m : Nat) (ds : Nat → Int) : (dsl m ds).length = m := by simp [dsl]
theorem dsl_snoc (m : Nat) (ds : Nat → Int) (d : Int) : dsl m ds ++ [.int .u64 d] = dsl (m + 1) (upd ds m d) := by
  unfold dsl
  rw [List.range_succ, List.map_append]
  congr 1
  · apply List.map_congr_left
    intro i hi
    rw [upd_miss _ _ (by have := List.mem_range.1 hi; omega)]
  · simp [upd_hit]

/-- The reference's predictor at block B: its one field is the slice v. -/
def RP (w : World) (base B : Nat) (v : Value) (m : Nat) (ds : Nat → Int) : Prop := Row w B 66 1 (fun _ => v) ∧ w.ownsRow base 23 1 v m (dsl m ds)

/-- what Record may write -/
def RC (w : World) (base B : Nat) (b : Nat) : Prop := b = B ∨ (base ≤ b ∧ ∃ cs, w.heap[b]? = some (.cells cs 23 (0, 0)))

theorem refnewpred_any (w : World) : Calls Try.prog 23 #[] w fun e w' => e = .returned (.pointer (some ⟨w.heap.size, 0, none⟩)) ∧ RP w' w.heap.size w.heap.size (.slice none 0 0) 0 (fun _ => 0) ∧ Below w.heap.size w w' := by
  go_enter Try.func23, Try.ntmps23
  go_wp2
  go_ret
  refine ⟨rfl, ⟨?_, rfl, .inl ⟨rfl, rfl⟩⟩, (Below.refl _ _).alloc (Nat.le_refl _) _⟩
  exact Row.ofList w 66 _ _ 1 rfl

theorem refrecord_no (B : Nat) (d : Int) (w : World) (hd : 1152921504606846976 < d) : Calls Try.prog 25 #[.pointer (some ⟨B, 0, none⟩), .int .u64 d] w fun e w' => e = .returned (.int .i64 1) ∧ w = w' := by
  have d1 : decide (1152921504606846976 < d) = true := by simp; omega
  go_enter Try.func25, Try.ntmps25
  go_wp2
  go_ret
  exact ⟨rfl, rfl⟩

theorem row_ne {w : World} {base e size n g t N : Nat} {v : Value} {xs : List Value} {u : Nat → Value} (h : w.ownsRow base e size v n xs) (hr : Row w g t N u) (hne : e ≠ t) : v.ownBlock ≠ some g := by
  rcases h.2 with ⟨rfl, _⟩ | ⟨g', cap, cur, rfl, _, hh, _⟩
  · simp [Value.ownBlock]
  · intro he
    have : g' = g := by simpa [Value.ownBlock] using he
    subst this
    obtain ⟨cs, hc, _⟩ := hr
    rw [hh] at hc
    injection hc with hc
    injection hc with _ ht
    exact hne ht

theorem ownsRow_far {w : World} {base e size n g cap B : Nat} {xs : List Value} (h : w.ownsRow base e size (.slice (some ⟨g, 0, none⟩) n cap) n xs) (hg : g ≠ B) (u : Value) :
    (w.setCell ⟨B, 0, none⟩ u).ownsRow base e size (.slice (some ⟨g, 0, none⟩) n cap) n xs := by
  obtain ⟨h1, h2⟩ := h
  refine ⟨h1, ?_⟩
  rcases h2 with ⟨h2, _⟩ | ⟨g', cap', cur, hv, hb, hh, r⟩
  · cases h2
  · refine .inr ⟨g', cap', cur, hv, hb, ?_, r⟩
    have : g' = g := by injection hv with hv; injection hv with hv; injection hv with hv; exact hv.symm
    subst this
    exact (Below.heap_setCell w ⟨B, 0, none⟩ u g' hg).trans hh

set_option maxHeartbeats 1000000 in
theorem refrecord_yes (base B : Nat) (v : Value) (m : Nat) (ds : Nat → Int) (d : Int) (w : World) (hd : d ≤ 1152921504606846976) (hm : m ≤ 1000) (hb : base ≤ w.heap.size) (h : RP w base B v m ds) :
    Calls Try.prog 25 #[.pointer (some ⟨B, 0, none⟩), .int .u64 d] w fun e w' => e = .returned (.int .i64 0) ∧ (∃ v', RP w' base B v' (m + 1) (upd ds m d)) ∧ Ch (RC w base B) w w' := by
  have d1 : decide (1152921504606846976 < d) = false := by simp; omega
  have H := Lib.hid h
  have hB : B < w.heap.size := Row.lt h.1
  have c0 := Row.cell h.1 (i := 0) (by omega)
  have f0 := Row.frozen h.1 0
  obtain ⟨i0, hi, hz0, hz1, hz2⟩ := info_parts Try.info23
  clear h
  have hown := Lib.hid (H.out.2.alloc (.cells #[.int .u64 d] 23))
  go_enter Try.func25, Try.ntmps25
  go_wp2_with (at_builtin; refine wpList_append_own _ rfl _ _ 39 rfl base 23 i0 (.int .u64 0) 1 8 Try.underlying39 hi hz0 hz1 hz2 rfl (by decide) _ m _ rfl hown.out ⟨w.heap.size, 0, none⟩ 1 1 [.int .u64 d] rfl rfl (cell_one_new _ _ _) ?c2 ?c3 ?c4 ?c5 ?_)
  case c2 => simp [Value.oneCell']
  case c3 => unfold maxLen; omega
  case c4 => omega
  case c5 => simp; omega
  intro v' w1 hown1 hgrow1 hne
  rw [dsl_snoc] at hown1
  have hex : ∃ g cap, v' = .slice (some ⟨g, 0, none⟩) (m + 1) cap := by
    rcases hown1.2 with ⟨h, _⟩ | ⟨g, cap, _, h, _⟩
    · exact absurd h hne
    · exact ⟨g, cap, h⟩
  have H1 := Lib.hid hown1
  have hnb : v.ownBlock ≠ some B := row_ne H.out.2 H.out.1 (by omega)
  have hch : Ch (RC w base B) w w1 := by
    have k : Ch (RC w base B) (w.alloc (.cells #[.int .u64 d] 23)) w1 := Ch.of_grown hgrow1 fun k hk hlt => by
      rcases H.out.2.2 with ⟨e, _⟩ | ⟨g, cap, cur, e, hbg, hh, _⟩
      · rw [e] at hk; simp [Value.ownBlock] at hk
      · rw [e] at hk
        have : g = k := by simpa [Value.ownBlock] using hk
        subst this
        exact .inr ⟨hbg, cur, hh⟩
    exact ((Ch.refl _ w).alloc _).andThen k (fun i hi _ => hi)
  have hrow : Row w1 B 66 1 (fun _ => v) := by
    obtain ⟨cs, hh, hs, hc⟩ := Row.alloc H.out.1 (.cells #[.int .u64 d] 23)
    exact ⟨cs, (hgrow1.block B (by simp; omega) (fun e => hnb e.symm)).trans hh, hs, hc⟩
  have R1 := Lib.hid hrow
  have k0 := Row.cell hrow (i := 0) (by omega)
  have k1 := Row.frozen hrow 0
  have C1 := Lib.hid hch
  clear hown1 hgrow1 hne hrow hch c0 f0 hown hi hz0 hz1 hz2
  obtain ⟨g, cap, hv⟩ := hex
  rw [hv]
  rw [hv] at H1
  clear hv
  go_wp2
  go_ret
  refine ⟨rfl, ⟨.slice (some ⟨g, 0, none⟩) (m + 1) cap, ?_, ?_⟩, ?_⟩
  · exact Row.congr (Row.set R1.out (i := 0) (by omega) _) fun i hi => by
      obtain rfl : i = 0 := by omega
      exact upd_hit _ _ _
  · have hg : g ≠ B := fun e => row_ne H1.out R1.out (by omega) (by rw [e]; rfl)
    exact ownsRow_far H1.out hg _
  · exact C1.out.setCell (p := ⟨B, 0, none⟩) (fun _ => .inl rfl) _

theorem RP.cells {w : World} {base B m : Nat} {v : Value} {ds : Nat → Int} (h : RP w base B v m ds) (hm : 0 < m) :
    ∃ g cap, v = .slice (some ⟨g, 0, none⟩) m cap ∧ ∀ i, i < m → w.cell? ⟨g, i, none⟩ = some (.int .u64 (ds i)) := by
  rcases h.2.2 with ⟨_, h0⟩ | ⟨g, cap, cur, hv, _, hh, _, _, _, ht⟩
  · omega
  · refine ⟨g, cap, hv, fun i hi => ?_⟩
    have h1 : (cur.toList.take (m * 1))[i]? = (dsl m ds)[i]? := by rw [ht]
    rw [List.getElem?_take_of_lt (by omega)] at h1
    rw [cell_of_row w g i cur 23 (0, 0) hh, ← Array.getElem?_toList, h1]
    simp [dsl, hi]

theorem refexpected_few (base B m : Nat) (v : Value) (ds : Nat → Int) (t : Int) (w : World) (hm : m < 8) (h : RP w base B v m ds) :
    Calls Try.prog 27 #[.pointer (some ⟨B, 0, none⟩), .int .u64 t] w fun e w' => e = .returned (.int .u64 t) ∧ w = w' := by
  have c0 := Row.cell h.1 (i := 0) (by omega)
  have hex : ∃ A cap, v = .slice A m cap := by
    rcases h.2.2 with ⟨h, h0⟩ | ⟨g, cap, _, h, _⟩
    · exact ⟨none, 0, by rw [h, h0]⟩
    · exact ⟨_, cap, h⟩
  obtain ⟨A, cap, rfl⟩ := hex
  clear h
  have d1 : decide ((m : Int) < 8) = true := by simp; omega
  go_enter Try.func27, Try.ntmps27
  go_wp2
  go_ret
  exact ⟨rfl, rfl⟩

set_option maxHeartbeats 1000000 in
theorem refexpected_any (base B m : Nat) (v : Value) (ds : Nat → Int) (t : Int) (w : World) (hm : 8 ≤ m) (hm2 : m ≤ 1000) (hR : ∀ i, i < m → 0 ≤ ds i ∧ ds i ≤ 1152921504606846976) (h : RP w base B v m ds) :
    Calls Try.prog 27 #[.pointer (some ⟨B, 0, none⟩), .int .u64 t] w fun e w' => e = .returned (.int .u64 (expd (sm (fun j => ds (m - 8 + j)) 8) (mx (fun j => ds (m - 8 + j)) 8) t)) ∧ w = w' := by
  have c0 := Row.cell h.1 (i := 0) (by omega)
  obtain ⟨g, cap, rfl, hc⟩ := h.cells (by omega)
  have HC := Lib.hid hc
  have HR := Lib.hid hR
  clear h hc hR
  have d1 : decide ((m : Int) < 8) = false := by simp; omega
  generalize hD : (fun j => ds (m - 8 + j)) = D
  have HD := Lib.hid (fun j => (congrFun hD j).symm)
  clear hD
  go_enter Try.func27, Try.ntmps27
  go_wp2
  go_loop [5, 6, 7] (fun a b i => ∃ k : Nat, k ≤ 8 ∧ i = .int .i64 ((m : Int) - 8 + k) ∧ a = .int .u64 (sm D k) ∧ b = .int .u64 (mx D k)) (fun _ _ i => ((m : Int) - intOf i).toNat)
  case atStart => exact ⟨0, by omega, by go_num, rfl, rfl⟩
  case round =>
    obtain ⟨k, hk, rfl, rfl, rfl⟩ := hrel
    have HB : Hid (∀ i, i < 8 → 0 ≤ D i ∧ D i ≤ 1152921504606846976) := fun i hi => by rw [HD.out i]; exact HR.out _ (by omega)
    obtain ⟨s0, s1⟩ := sm_bd D k 1152921504606846976 fun i hi => HB.out i (by omega)
    have m0 := mx_nonneg D k
    have m1 := mx_le_sm D k fun i hi => (HB.out i (by omega)).1
    by_cases hlt : k < 8
    · have hx := HC.out (m - 8 + k) (by omega)
      rw [← HD.out k] at hx
      obtain ⟨r0, r1⟩ := HB.out k hlt
      have k0 : (0 : Int) ≤ (m : Int) - 8 + k := by omega
      have k1 : (m : Int) - 8 + k < m := by omega
      have k2 : Hid (((m : Int) - 8 + k).toNat = m - 8 + k) := (by omega : ((m : Int) - 8 + k).toNat = m - 8 + k)
      have ES := Lib.hid (show sm D (k + 1) = sm D k + D k from rfl)
      by_cases hmx : mx D k < D k
      · have EM := Lib.hid (show mx D (k + 1) = D k from if_pos hmx)
        go_wp2_with fail
        all_goals
          go_round
          case rel => exact ⟨k + 1, by omega, by go_num, by rw [ES.out], by rw [EM.out]; try (congr 1; omega)⟩
          case measure => simp [intOf]; omega
      · have EM := Lib.hid (show mx D (k + 1) = mx D k from if_neg hmx)
        go_wp2_with fail
        all_goals
          go_round
          case rel => exact ⟨k + 1, by omega, by go_num, by rw [ES.out], by rw [EM.out]; try (congr 1; omega)⟩
          case measure => simp [intOf]; omega
    · have k1 : ¬ (m : Int) - 8 + k < m := by omega
      obtain rfl : k = 8 := by omega
      by_cases hmx : t < (sm D 8 - mx D 8) / 7
      · have EX := Lib.hid (show expd (sm D 8) (mx D 8) t = t from if_pos hmx)
        go_wp2_with fail
        all_goals go_ret
        all_goals exact ⟨by rw [EX.out]; rfl, rfl⟩
      · have EX := Lib.hid (show expd (sm D 8) (mx D 8) t = (sm D 8 - mx D 8) / 7 from if_neg hmx)
        go_wp2_with fail
        all_goals go_ret
        all_goals first | exact ⟨by rw [EX.out]; rfl, rfl⟩ | exact ⟨by rw [EX.out]; exact ret_int (by omega), rfl⟩
end Go.Proofs.Ytgllakmcccjcbaa
