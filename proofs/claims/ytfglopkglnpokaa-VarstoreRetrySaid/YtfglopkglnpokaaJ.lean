/- usable, isBlank, readBlock. Condition: sizes. -/
import Derived.Test.YtfglopkglnpokaaI
namespace Go.Proofs.Ytfglopkglnpokaa
open Go.RowKit
/-- These pages can be read at block g from offset o on. -/
def PS (w : World) (g o cap : Nat) (ps : List Str) : Prop := g < w.heap.size ∧ ps.length ≤ cap ∧ cap ≤ maxLen ∧ ∀ j, j < ps.length → w.cell? ⟨g, o + j, none⟩ = some (str (ps.getD j []))
theorem PS.below {w w' : World} {g o cap : Nat} {ps : List Str} (h : PS w g o cap ps) (b : Below w.heap.size w w') : PS w' g o cap ps :=
  ⟨Nat.lt_of_lt_of_le h.1 b.size, h.2.1, h.2.2.1, fun j hj => (b.cell (p := ⟨g, o + j, none⟩) h.1).trans (h.2.2.2 j hj)⟩
theorem PS.ch {C : Nat → Prop} {w w' : World} {g o cap : Nat} {ps : List Str} (h : PS w g o cap ps) (b : Ch C w w') (hg : ¬ C g) : PS w' g o cap ps :=
  ⟨Nat.lt_of_lt_of_le h.1 b.size, h.2.1, h.2.2.1, fun j hj => (b.cell ⟨g, o + j, none⟩ h.1 hg).trans (h.2.2.2 j hj)⟩
theorem PS.drop {w : World} {g o cap : Nat} {ps : List Str} (h : PS w g o cap ps) {k : Nat} (hk : k ≤ ps.length) : PS w g (o + k) (cap - k) (ps.drop k) := by
  obtain ⟨h1, h2, h3, h4⟩ := h
  refine ⟨h1, by rw [List.length_drop]; omega, by omega, fun j hj => ?_⟩
  rw [List.length_drop] at hj
  rw [Nat.add_assoc, h4 (k + j) (by omega), List.getD_eq_getElem?_getD, List.getD_eq_getElem?_getD, List.getElem?_drop]
theorem PS.take {w : World} {g o cap : Nat} {ps : List Str} (h : PS w g o cap ps) {k : Nat} (hk : k ≤ ps.length) : PS w g o cap (ps.take k) := by
  obtain ⟨h1, h2, h3, h4⟩ := h
  refine ⟨h1, by rw [List.length_take]; omega, h3, fun j hj => ?_⟩
  rw [List.length_take] at hj
  rw [h4 j (by omega), List.getD_eq_getElem?_getD, List.getD_eq_getElem?_getD, List.getElem?_take_of_lt (by omega)]
def blankP (ps : List Str) : Bool := ps.all fun p => zeros p == 0
set_option maxHeartbeats 1000000 in
theorem isBlank_any {w : World} {g o cap n : Nat} {ps : List Str} (h : PS w g o cap ps) (hn : ps.length = n) (hl : ∀ p ∈ ps, p.length ≤ 1000) (hps : n ≤ 1000) :
    Calls Try.prog 45 #[.slice (some ⟨g, o, none⟩) n cap] w fun e w' => e = .returned (.bool (blankP ps)) ∧ w = w' := by
  obtain ⟨_, _, _, hc⟩ := h
  have HC := Lib.hid hc
  have HL := Lib.hid hl
  have HN := Lib.hid hn
  clear hc hl hn
  go_enter Try.func45, Try.ntmps45
  go_wp2_with fail
  go_loop [7] (fun z => ∃ i : Nat, i ≤ n ∧ z = .int .i64 (i : Int) ∧ Hid (∀ j, j < i → zeros (ps.getD j []) = 0)) (fun z => n - (intOf z).toNat)
  case atStart => exact ⟨0, by omega, rfl, fun j hj => by omega⟩
  case round =>
    obtain ⟨i, hi, rfl, HJ⟩ := hrel
    by_cases hin : i < n
    · have y0 : (i : Int) < n := by omega
      have hil : i < ps.length := by have := HN.out; omega
      have hgd : ps.getD i [] = ps[i] := by rw [List.getD_eq_getElem?_getD, List.getElem?_eq_getElem hil]; rfl
      have hlen := HL.out ps[i] (List.getElem_mem hil)
      have hc := HC.out i (by have := HN.out; omega)
      obtain ⟨s, hs⟩ : ∃ s : ByteArray, s = ⟨(ps.getD i []).toArray⟩ := ⟨_, rfl⟩
      have hsl : s.data.toList = ps.getD i [] := by rw [hs]
      rw [show str (ps.getD i []) = .string s by rw [hs]] at hc
      have hss : s.size ≤ 1000000 := by rw [hs, hgd]; show (ps[i].toArray).size ≤ _; simp; omega
      have HZ := Lib.hid (zeroBits_any s w hss)
      have hzb := zeros_le (ps.getD i [])
      rw [hgd] at hzb
      by_cases hz : zeros (ps.getD i []) = 0
      · rw [hsl, hz] at HZ
        have HJ2 : Hid (∀ j, j < i + 1 → zeros (ps.getD j []) = 0) := fun j hj => by
          rcases (by omega : j < i ∨ j = i) with h1 | h1
          · exact HJ.out j h1
          · rw [h1]; exact hz
        clear hsl hs hgd hz HJ hss
        go_wp2_with fail
        refine HZ.out.mono ?_
        rintro e w' ⟨rfl, rfl⟩
        go_wp2_with fail
        go_round
        case rel => exact ⟨i + 1, by omega, by go_num, HJ2⟩
        case measure => simp [intOf]; omega
      · have HF : Hid (blankP ps = false) := by
          show _ = _
          unfold blankP
          rw [List.all_eq_false]
          exact ⟨ps[i], List.getElem_mem hil, by rw [← hgd]; simpa using hz⟩
        rw [hsl] at HZ
        obtain ⟨z, hzz⟩ : ∃ z, zeros (ps.getD i []) = z := ⟨_, rfl⟩
        rw [hzz] at HZ hz
        have hzI : ((z : Nat) : Int) ≠ 0 := by omega
        have hzd : ((z : Int) == 0) = false := by simpa using hzI
        clear hsl hs hgd HJ hss hzb hzz
        go_wp2_with fail
        refine HZ.out.mono ?_
        rintro e w' ⟨rfl, rfl⟩
        go_wp2_with fail
        go_ret
        rw [HF.out]
        exact ⟨rfl, rfl⟩
    · have y0 : ¬ (i : Int) < n := by omega
      have HF : Hid (blankP ps = true) := by
        show _ = _
        unfold blankP
        rw [List.all_eq_true]
        intro x hx
        obtain ⟨j, hj, rfl⟩ := List.getElem_of_mem hx
        have := HJ.out j (by have := HN.out; omega)
        rw [List.getD_eq_getElem?_getD, List.getElem?_eq_getElem hj] at this
        simpa using this
      go_wp2_with fail
      go_ret
      rw [HF.out]
      exact ⟨rfl, rfl⟩
theorem field_B (a b c : Value) (w : World) : (Instr.field 23 (.agg #[a, b, c]) 0).run Try.prog w = .ok a w := by kernel_rfl
theorem field_P (a b c : Value) (w : World) : (Instr.field 23 (.agg #[a, b, c]) 1).run Try.prog w = .ok b w := by kernel_rfl
theorem field_E (a b c : Value) (w : World) : (Instr.field 23 (.agg #[a, b, c]) 2).run Try.prog w = .ok c w := by kernel_rfl
section
variable {w : World} {D : Nat → Prop} {X : Nat} {y : FLay} {fl : FL}
theorem usable_any (h : FW w D X y fl) : Calls Try.prog 35 #[fptr X] w fun e w' => e = .returned (.bool (decide (2 ≤ fl.B) && decide (2 ≤ fl.P))) ∧ Below w.heap.size w w' := by
  have HS := Lib.hid (shape_any h)
  have hB := h.hB
  have hP := h.hP
  clear h
  go_enter Try.func35, Try.ntmps35
  go_wp2_with fail
  refine HS.out.mono ?_
  rintro e w1 ⟨rfl, b1⟩
  have B1 := Lib.hid b1
  clear b1 HS
  go_wp2_with fail
  all_goals
    go_ret
    refine ⟨?_, B1.out.alloc B1.out.size _⟩
    show Ending.returned (Value.bool _) = Ending.returned (Value.bool _)
    congr 2
    rw [Bool.eq_iff_iff]
    simp at *
    omega
/-- The pages of a block. -/
def pgsF (fl : FL) (b : Nat) : List Str := (List.range fl.P).map (fl.pg b)
theorem pgsF_len (fl : FL) (b : Nat) : (pgsF fl b).length = fl.P := by simp [pgsF]
theorem pgsF_get (fl : FL) (b j : Nat) (h : j < fl.P) : (pgsF fl b).getD j [] = fl.pg b j := by
  unfold pgsF
  rw [List.getD_eq_getElem?_getD, List.getElem?_map, List.getElem?_range h]
  rfl
set_option maxRecDepth 100000 in
set_option maxHeartbeats 2000000 in
theorem readBlock_any (h : FW w D X y fl) {b : Nat} (hb : b < fl.B) : Calls Try.prog 37 #[fptr X, .int .i64 b] w fun e w' => Below w.heap.size w w' ∧
    ((fl.off = true ∧ e = .returned (.tuple #[.slice none 0 0, .int .i64 16])) ∨ (fl.off = false ∧ ∃ g, e = .returned (.tuple #[.slice (some ⟨g, 0, none⟩) fl.P fl.P, .int .i64 0]) ∧ w.heap.size ≤ g ∧ PS w' g 0 fl.P (pgsF fl b))) := by
  obtain ⟨i0, hi0, hx0, hx1, hx2⟩ := info_parts Try.infoS
  have HS := Lib.hid (shape_any h)
  have hP := h.hP
  have H := Lib.hid h
  clear h
  go_enter Try.func37, Try.ntmps37
  go_wp2_with fail
  refine HS.out.mono ?_
  rintro e w1 ⟨rfl, b1⟩
  have hfp := field_P (.int .i64 fl.B) (.int .i64 fl.P) (.int .i64 fl.E) w1
  have hmk : (Instr.makeSlice 71 (.int .i64 (fl.P : Int)) (.int .i64 (fl.P : Int))).run Try.prog w1 = .ok (.slice (some ⟨w1.heap.size, 0, none⟩) fl.P fl.P) (w1.alloc (.cells (madeCells (Value.string ⟨#[]⟩).cells fl.P) 9)) := by
    have := run_make (P := Try.prog) w1 71 9 i0 (.string ⟨#[]⟩) Try.underlying71 hi0 hx0 .i64 .i64 (fl.P : Int) (fl.P : Int) (by omega) (by omega) (by rw [hx2]; omega) (by omega)
    rw [hx1] at this
    simpa using this
  have R1 := Rg.made w1 9 fl.P (.string ⟨#[]⟩) rfl
  have B1 : Below w.heap.size w (w1.alloc (.cells (madeCells (Value.string ⟨#[]⟩).cells fl.P) 9)) := b1.alloc b1.size _
  have hgl := b1.size
  obtain ⟨w2, hw2⟩ : ∃ w2, w1.alloc (.cells (madeCells (Value.string ⟨#[]⟩).cells fl.P) 9) = w2 := ⟨_, rfl⟩
  obtain ⟨g, hg⟩ : ∃ g, w1.heap.size = g := ⟨_, rfl⟩
  rw [hw2, hg] at hmk R1
  rw [hw2] at B1
  rw [hg] at hgl
  have HR : Hid (Rg w2 g 9 fl.P (fun j => if j < 0 then str (fl.pg b j) else str [])) := R1.congr fun j _ => by rw [if_neg (by omega)]
  have HB := Lib.hid B1
  clear R1 B1 b1 hw2 hg
  go_wp2_with fail
  clear hmk HS hfp
  go_loopw [16] (fun z wr => ∃ k : Nat, k ≤ fl.P ∧ z = .int .i64 (k : Int) ∧ Hid (0 < k → fl.off = false) ∧ Hid (Rg wr g 9 fl.P (fun j => if j < k then str (fl.pg b j) else str [])) ∧ Hid (Below w.heap.size w wr)) (fun z _ => fl.P - (intOf z).toNat)
  case atStart => exact ⟨0, by omega, rfl, fun h => by omega, HR, HB⟩
  case round =>
    clear HR HB
    obtain ⟨k, hk, rfl, HO, HR, HB⟩ := hrel
    by_cases hkP : k < fl.P
    · have y0 : (k : Int) < fl.P := by omega
      have HRd := Lib.hid (read_any (H.out.below HB.out) hb hkP)
      unfold readF at HRd
      rcases ho : fl.off with _ | _
      · rw [ho, if_neg (by simp)] at HRd
        have ck : wr.cell? ⟨g, k, none⟩ = some (str []) := by rw [HR.out.cell hkP, if_neg (by omega)]
        have fk := HR.out.frozen k
        have HR2 : Hid (Rg (wr.setCell ⟨g, k, none⟩ (str (fl.pg b k))) g 9 fl.P (fun j => if j < k + 1 then str (fl.pg b j) else str [])) := (HR.out.set hkP _).congr fun j hj => by
          by_cases e : j = k
          · subst e; rw [upd_hit, if_pos (by omega)]
          · rw [upd_miss _ _ e]
            by_cases e2 : j < k
            · rw [if_pos e2, if_pos (by omega)]
            · rw [if_neg e2, if_neg (by omega)]
        have HB2 : Hid (Below w.heap.size w (wr.setCell ⟨g, k, none⟩ (str (fl.pg b k)))) := HB.out.setCell (p := ⟨g, k, none⟩) hgl _
        obtain ⟨pv, hpv⟩ : ∃ pv : ByteArray, str (fl.pg b k) = .string pv := ⟨_, rfl⟩
        have HRe : Hid (Calls Try.prog 30 #[fptr X, .int .i64 b, .int .i64 k] wr fun e w' => e = .returned (.tuple #[.string pv, .int .i64 0]) ∧ wr = w') := by rw [← hpv]; exact HRd
        rw [hpv] at HR2 HB2
        clear hpv HR HB HRd HO
        go_wp2_with fail
        refine HRe.out.mono ?_
        rintro e w' ⟨rfl, rfl⟩
        go_wp2_with fail
        go_roundw
        case rel => exact ⟨k + 1, by omega, by go_num, (fun _ => trivial), HR2, HB2⟩
        case measure => simp [intOf]; omega
      · rw [ho, if_pos rfl] at HRd
        go_wp2_with fail
        refine HRd.out.mono ?_
        rintro e w' ⟨rfl, rfl⟩
        go_wp2_with fail
        go_ret2
        exact ⟨HB.out, .inl ⟨ho, rfl⟩⟩
    · have y0 : ¬ (k : Int) < fl.P := by omega
      have ek : k = fl.P := by omega
      have HPS : Hid (PS wr g 0 fl.P (pgsF fl b)) := by
        refine ⟨HR.out.lt, by rw [pgsF_len]; exact Nat.le_refl _, by unfold maxLen; omega, fun j hj => ?_⟩
        rw [pgsF_len] at hj
        rw [Nat.zero_add, HR.out.cell hj, if_pos (by omega), pgsF_get fl b j hj]
      have HOF : Hid (fl.off = false) := HO.out (by omega)
      go_wp2_with fail
      go_ret2
      exact ⟨HB.out, .inr ⟨HOF.out, g, rfl, hgl, HPS.out⟩⟩
end
end Go.Proofs.Ytfglopkglnpokaa
