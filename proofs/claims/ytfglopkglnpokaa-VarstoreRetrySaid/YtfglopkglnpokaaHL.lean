/- Lists of variables: find, need. Condition: sizes. -/
import Derived.Test.YtfglopkglnpokaaRP
namespace Go.Proofs.Ytfglopkglnpokaa
open Go.RowKit
/-- These variables can be read behind this address. -/
def VS (w : World) (a : Option Addr) (cap : Nat) (V : Vars) : Prop :=
  V.length ≤ cap ∧ cap ≤ maxLen ∧ (V ≠ [] → ∃ g, a = some ⟨g, 0, none⟩ ∧ g < w.heap.size ∧ ∀ j, j < V.length → w.cell? ⟨g, j * 2, none⟩ = some (str (V.getD j ([], [])).1) ∧ w.cell? ⟨g, j * 2 + 1, none⟩ = some (str (V.getD j ([], [])).2))
theorem VS.ch {C : Nat → Prop} {w w' : World} {a : Option Addr} {cap : Nat} {V : Vars} (h : VS w a cap V) (c : Ch C w w') (hC : ∀ g, a = some ⟨g, 0, none⟩ → ¬ C g) : VS w' a cap V :=
  ⟨h.1, h.2.1, fun hne => by
    obtain ⟨g, e, hg, hc⟩ := h.2.2 hne
    exact ⟨g, e, Nat.lt_of_lt_of_le hg c.size, fun j hj => ⟨(c.cell ⟨g, j * 2, none⟩ hg (hC g e)).trans (hc j hj).1, (c.cell ⟨g, j * 2 + 1, none⟩ hg (hC g e)).trans (hc j hj).2⟩⟩⟩
theorem VS.below {w w' : World} {a : Option Addr} {cap : Nat} {V : Vars} (h : VS w a cap V) (c : Below w.heap.size w w') : VS w' a cap V := h.ch (Ch.of_below c (fun _ => False)) (fun _ _ h => h)
def findV (o : Option Str) : Value := .tuple #[str (o.getD []), .bool o.isSome]
theorem getV_first {V : Vars} {k : Str} {i : Nat} (hi : i < V.length) (h : ∀ j, j < i → (V.getD j ([], [])).1 ≠ k) (e : (V.getD i ([], [])).1 = k) : getV V k = some (V.getD i ([], [])).2 := by
  induction V generalizing i with
  | nil => cases hi
  | cons p r ih =>
    cases i with
    | zero =>
      simp at e
      simp [getV, e]
    | succ i =>
      have h0 := h 0 (by omega)
      simp at h0
      have hb : (p.1 == k) = false := by simpa using h0
      have := ih (i := i) (by simpa using hi) (fun j hj => by have := h (j + 1) (by omega); simpa using this) (by simpa using e)
      simpa [getV, hb] using this
theorem getV_no {V : Vars} {k : Str} (h : ∀ j, j < V.length → (V.getD j ([], [])).1 ≠ k) : getV V k = none := by
  unfold getV
  rw [Option.map_eq_none_iff, List.find?_eq_none]
  intro p hp
  obtain ⟨j, hj, rfl⟩ := List.getElem_of_mem hp
  have := h j hj
  rw [List.getD_eq_getElem?_getD, List.getElem?_eq_getElem hj] at this
  simpa using this
section
variable {w : World} {a : Option Addr} {cap L : Nat} {V : Vars}
set_option maxHeartbeats 1000000 in
theorem find_any (h : VS w a cap V) (hL : V.length = L) (k : ByteArray) : Calls Try.prog 18 #[.slice a L cap, .string k] w fun e w' => e = .returned (findV (getV V k.data.toList)) ∧ w = w' := by
  have H := Lib.hid h
  have HL := Lib.hid hL
  have hLm : L ≤ maxLen := by have := h.1; have := h.2.1; omega
  unfold maxLen at hLm
  clear h hL
  go_enter Try.func18, Try.ntmps18
  go_wp2_with fail
  go_loop [6] (fun z => ∃ i : Nat, i ≤ L ∧ z = .int .i64 (i : Int) ∧ Hid (∀ j, j < i → (V.getD j ([], [])).1 ≠ k.data.toList)) (fun z => L - (intOf z).toNat)
  case atStart => exact ⟨0, by omega, rfl, fun j hj => by omega⟩
  case round =>
    obtain ⟨i, hi, rfl, HJ⟩ := hrel
    by_cases hlt : i < L
    · have y0 : (i : Int) < L := by omega
      have hiV : i < V.length := by rw [HL.out]; exact hlt
      obtain ⟨g, rfl, hg, hc⟩ := H.out.2.2 (by intro e; rw [e] at hiV; cases hiV)
      have c0 := (hc i hiV).1
      have c1 := (hc i hiV).2
      obtain ⟨ke, hke⟩ : ∃ s : ByteArray, s = ⟨(V.getD i ([], [])).1.toArray⟩ := ⟨_, rfl⟩
      obtain ⟨ve, hve⟩ : ∃ s : ByteArray, s = ⟨(V.getD i ([], [])).2.toArray⟩ := ⟨_, rfl⟩
      have hkl : ke.data.toList = (V.getD i ([], [])).1 := by rw [hke]
      have HVL : Hid (str (V.getD i ([], [])).2 = .string ve) := by show _ = _; rw [hve]
      rw [show str (V.getD i ([], [])).1 = .string ke by rw [hke]] at c0
      rw [show str (V.getD i ([], [])).2 = .string ve by rw [hve]] at c1
      by_cases heq : (V.getD i ([], [])).1 = k.data.toList
      · have HE : Hid (getV V k.data.toList = some (V.getD i ([], [])).2) := getV_first hiV HJ.out heq
        have hd : (ke.toList == k.toList) = true := by rw [ByteArray.toList_eq, ByteArray.toList_eq, hkl, heq]; simp
        clear hc hke hve hkl heq HJ hiV
        go_wp2_with fail
        go_ret2
        rw [HE.out]
        exact ⟨by show _ = Ending.returned (Value.tuple #[str (V.getD i ([], [])).2, .bool true]); rw [HVL.out]; rfl, rfl⟩
      · have HJ2 : Hid (∀ j, j < i + 1 → (V.getD j ([], [])).1 ≠ k.data.toList) := fun j hj => by
          rcases (by omega : j < i ∨ j = i) with h1 | h1
          · exact HJ.out j h1
          · rw [h1]; exact heq
        have hd : (ke.toList == k.toList) = false := by rw [ByteArray.toList_eq, ByteArray.toList_eq, hkl]; simpa using heq
        clear hc hke hve hkl heq HJ hiV
        go_wp2_with fail
        go_round
        case rel => exact ⟨i + 1, by omega, by go_num, HJ2⟩
        case measure => simp [intOf]; omega
    · have y0 : ¬ (i : Int) < L := by omega
      have HE : Hid (getV V k.data.toList = none) := getV_no fun j hj => HJ.out j (by rw [HL.out] at hj; omega)
      go_wp2_with fail
      go_ret2
      rw [HE.out]
      exact ⟨rfl, rfl⟩
theorem need_arith (s a b : Nat) (hs : s ≤ 1000000) (ha : a ≤ 1000) (hb : b ≤ 1000) :
    IntKind.i64.wrap ((s : Int) + IntKind.i64.wrap ((IntKind.i64.wrap (IntKind.i64.wrap (IntKind.i64.wrap (IntKind.i64.wrap (5 + (a : Int)) + (b : Int)) + 64) - 1)).tdiv 64)) = ((s + (5 + a + b + 63) / 64 : Nat) : Int) := by
  have e1 : IntKind.i64.wrap (5 + (a : Int)) = 5 + (a : Int) := IntWalk.i64_in _ ⟨by omega, by omega⟩
  rw [e1]
  have e2 : IntKind.i64.wrap (5 + (a : Int) + b) = 5 + (a : Int) + b := IntWalk.i64_in _ ⟨by omega, by omega⟩
  rw [e2]
  have e3 : IntKind.i64.wrap (5 + (a : Int) + b + 64) = 5 + (a : Int) + b + 64 := IntWalk.i64_in _ ⟨by omega, by omega⟩
  rw [e3]
  have e4 : IntKind.i64.wrap (5 + (a : Int) + b + 64 - 1) = 5 + (a : Int) + b + 64 - 1 := IntWalk.i64_in _ ⟨by omega, by omega⟩
  rw [e4, Int.tdiv_eq_ediv_of_nonneg (by omega)]
  have e5 : IntKind.i64.wrap ((5 + (a : Int) + b + 64 - 1) / 64) = (5 + (a : Int) + b + 64 - 1) / 64 := IntWalk.i64_in _ ⟨by omega, by omega⟩
  rw [e5]
  have e6 : IntKind.i64.wrap ((s : Int) + (5 + (a : Int) + b + 64 - 1) / 64) = (s : Int) + (5 + (a : Int) + b + 64 - 1) / 64 := IntWalk.i64_in _ ⟨by omega, by omega⟩
  rw [e6]
  omega
def needV (V : Vars) : Nat := (V.map fun p => pgs (5 + p.1.length + p.2.length)).sum
theorem needV_take {V : Vars} {i : Nat} (h : i < V.length) : needV (V.take (i + 1)) = needV (V.take i) + pgs (5 + (V.getD i ([], [])).1.length + (V.getD i ([], [])).2.length) := by
  unfold needV
  rw [List.take_succ_eq_append_getElem h, List.map_append, List.sum_append, List.getD_eq_getElem?_getD, List.getElem?_eq_getElem h]
  simp
set_option maxHeartbeats 1000000 in
theorem need_any (h : VS w a cap V) (hL : V.length = L) (hL2 : L ≤ 100) (hv : ∀ p ∈ V, p.1.length ≤ 24 ∧ p.2.length ≤ 128) : Calls Try.prog 21 #[.slice a L cap] w fun e w' => e = .returned (.int .i64 (needV V : Nat)) ∧ Ch (fun _ => False) w w' := by
  have H := Lib.hid h
  have HL := Lib.hid hL
  have HV := Lib.hid hv
  have HC0 : Hid (Ch (fun _ => False) w w) := Ch.refl _ _
  clear h hL hv
  go_enter Try.func21, Try.ntmps21
  go_wp2_with fail
  go_loopw [3, 4] (fun x z wr => ∃ (i s : Nat), i ≤ L ∧ s ≤ 5 * i ∧ x = .int .i64 (s : Int) ∧ z = .int .i64 (i : Int) ∧ Hid (s = needV (V.take i)) ∧ Hid (Ch (fun _ => False) w wr)) (fun _ z _ => L - (intOf z).toNat)
  case atStart => exact ⟨0, 0, by omega, by omega, rfl, rfl, rfl, HC0⟩
  case round =>
    clear HC0
    obtain ⟨i, s, hi, hs, rfl, rfl, HS, HC⟩ := hrel
    by_cases hlt : i < L
    · have y0 : (i : Int) < L := by omega
      have hiV : i < V.length := by rw [HL.out]; exact hlt
      obtain ⟨g, rfl, hg, hc⟩ := (H.out.ch HC.out (fun _ _ h => h)).2.2 (by intro e; rw [e] at hiV; cases hiV)
      have c0 := (hc i hiV).1
      have c1 := (hc i hiV).2
      obtain ⟨ke, hke⟩ : ∃ s : ByteArray, s = ⟨(V.getD i ([], [])).1.toArray⟩ := ⟨_, rfl⟩
      obtain ⟨ve, hve⟩ : ∃ s : ByteArray, s = ⟨(V.getD i ([], [])).2.toArray⟩ := ⟨_, rfl⟩
      have hgd : V.getD i ([], []) = V[i] := by rw [List.getD_eq_getElem?_getD, List.getElem?_eq_getElem hiV]; rfl
      have hlen := HV.out V[i] (List.getElem_mem hiV)
      rw [← hgd] at hlen
      have hks : ke.size = (V.getD i ([], [])).1.length := by rw [bsz, hke]
      have hvs : ve.size = (V.getD i ([], [])).2.length := by rw [bsz, hve]
      rw [show str (V.getD i ([], [])).1 = .string ke by rw [hke]] at c0
      rw [show str (V.getD i ([], [])).2 = .string ve by rw [hve]] at c1
      have hk24 : ke.size ≤ 24 := by omega
      have hv128 : ve.size ≤ 128 := by omega
      have HS2 : Hid (s + (5 + ke.size + ve.size + 63) / 64 = needV (V.take (i + 1))) := by show _ = _; rw [needV_take hiV, ← HS.out, hks, hvs]; rfl
      have S1 : Hid (wr.drew.cell? ⟨g, i * 2, none⟩ = some (.string ke) ∧ wr.drew.cell? ⟨g, i * 2 + 1, none⟩ = some (.string ve)) := ⟨c0, c1⟩
      have HC2 : Hid (Ch (fun _ => False) w wr.drew) := HC.out.drew
      have hcap : L ≤ cap := by have := H.out.1; rw [HL.out] at this; exact this
      clear hc hke hve hgd hlen hks hvs hiV c0 c1 HS HC
      go_wp2_with fail
      refine wp_region_pl (fun Y => Y.cell? ⟨g, i * 2, none⟩ = some (.string ke) ∧ Y.cell? ⟨g, i * 2 + 1, none⟩ = some (.string ve)) ((0, 0) :: (1, 0) :: (2, 0) :: (3, 0) :: (4, 0) :: (5, 0) :: (6, 0) :: (7, 0) :: (8, 0) :: (9, 0) :: (10, 0) :: (11, 0) :: (12, 0) :: (13, 0) :: (14, 0) :: (15, 0) :: (16, 0) :: (17, 0) :: (18, 0) :: (19, 0) :: []) (by kernel_rfl) (by kernel_rfl) ?_
      iterate 20 (apply wpP_go; (focus rfl); (focus rfl); (focus exact S1.out); (focus (rintro Z ⟨s0, s1⟩; go_simp; exact rfl)); intro K hK; go_simp; refine hK _ ?_; clear hK K)
      refine wpP_done ?_
      clear S1
      generalize wr.drew = w3 at *
      go_wp2_with fail
      go_roundw
      case rel => exact ⟨i + 1, s + (5 + ke.size + ve.size + 63) / 64, by omega, by omega, by rw [need_arith s ke.size ve.size (by omega) (by omega) (by omega)], by go_num, HS2, HC2⟩
      case measure => simp [intOf]; omega
    · have ei : V.take i = V := List.take_of_length_le (by rw [HL.out]; omega)
      have HE : Hid (s = needV V) := by show _ = _; rw [HS.out, ei]
      go_wp2_with fail
      go_ret
      rw [← HE.out]
      exact ⟨rfl, HC.out⟩
end
end Go.Proofs.Ytfglopkglnpokaa
