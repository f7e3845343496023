/- The walks of MeasureSumAgrees and MeasureMACAgrees. Condition: the round constants lie in block 0. -/
import Derived.Test.YtndbbbkdpjkljaaDoorO
namespace Go.Proofs.YtndbbbkdpjkljaaDoor
open Go.RowKit
attribute [local go_sem ↓] alloc26 load26n store26n
attribute [local go_sem] stN_uc stN_b8 set_new fold_drew ldN_drew ldN_drewN stN_drew stN_drewN

def two64 : Int := 18446744073709551616
def mo (n : Int) (m : Nat) : Nat := (n % two64).toNat % m
theorem mo_lt (n : Int) (m : Nat) (hm : 0 < m) : mo n m < m := Nat.mod_lt _ hm
theorem mo_eq (n : Int) (m : Nat) : (n % 18446744073709551616) % (m : Int) = ((mo n m : Nat) : Int) := by
  have h : 0 ≤ n % 18446744073709551616 := Int.emod_nonneg _ (by decide)
  unfold mo two64
  rw [Int.natCast_emod, Int.toNat_of_nonneg h]
theorem mo_walk (v : Int) (m : Nat) (h2 : 1 ≤ m) (h3 : m ≤ 1000000) : wrap64 ((IntKind.u64.wrap v).tmod m) = ((mo v m : Nat) : Int) := by
  have e : IntKind.u64.wrap v = v % 18446744073709551616 := by simp [IntKind.wrap_u64]
  have h' := mo_lt v m h2
  rw [e, IntWalk.rem_in _ _ (by omega), mo_eq]
  exact IntWalk.wrap64_in _ (by omega)
theorem mod_any (n : Int) (m : Nat) (w : World) (hm : 1 ≤ m) (hm2 : m ≤ 1000000) : Calls Tryd.prog 14 #[.int .i64 n, .int .i64 (m : Int)] w fun e w' => e = .returned (.int .i64 ((mo n m : Nat) : Int)) ∧ w = w' := by
  go_enter Tryd.func14, Tryd.ntmps14
  go_wp2
  go_ret
  exact ⟨ret_int (mo_walk n m hm hm2), rfl⟩
-- GEN
theorem mk_bytes (W : World) (n : Nat) (hn : n ≤ 1000000) : (Instr.makeSlice 23 (.int .i64 (n : Int)) (.int .i64 (n : Int))).run Tryd.prog W = .ok (.slice (some ⟨W.heap.size, 0, none⟩) n n) (W.alloc (.cells (arr n zb) 5)) := by
  obtain ⟨i0, hi, hy0, hy1, hy2⟩ := info_parts Tryd.info5
  have := run_make (P := Tryd.prog) W 23 5 i0 (.int .u8 0) Tryd.underlying23 hi hy0 .i64 .i64 n n (by omega) (by omega) (by rw [hy2]; omega) (by omega)
  rw [this, hy1]
  have e : madeCells (Value.int .u8 0).cells ((n : Int).toNat * 1) = arr n zb := by
    apply Array.ext
    · simp [madeCells, arr]
    · intro i h1 h2
      simp [madeCells, arr, zb, Value.cells, Nat.mod_one]
  rw [e]
  simp
/-- The bytes of b, the first n set. -/
def cc (c : Int) (n i : Nat) : Value := if i < n then .int .u8 c else zb i
theorem cc_hi (c : Int) (n i : Nat) (h : n ≤ i) : cc c n i = zb i := if_neg (by omega)
theorem cc_lo (c : Int) (n i : Nat) (h : i < n) : cc c n i = .int .u8 c := if_pos h
theorem cc_step (c : Int) (n : Nat) : upd (cc c n) n (.int .u8 c) = cc c (n + 1) := by
  funext q
  by_cases e : q = n
  · subst e; rw [upd_hit, cc_lo _ _ _ (by omega)]
  · rw [upd_miss _ _ e]
    by_cases h : q < n
    · rw [cc_lo _ _ _ h, cc_lo _ _ _ (by omega)]
    · rw [cc_hi _ _ _ (by omega), cc_hi _ _ _ (by omega)]
def rep (R : Nat) (c : Int) : List UInt8 := List.replicate R (UInt8.ofNat c.toNat)
theorem rep_len (R : Nat) (c : Int) : (rep R c).length = R := by simp [rep]
theorem cc_str {W : World} {B R : Nat} {c : Int} (h0 : 0 ≤ c) (h1 : c ≤ 255) (h : Row W B 5 R (cc c R)) : (convert 23 9 (.slice (some ⟨B, 0, none⟩) R R)).run Tryd.prog W = .ok (.string ⟨(rep R c).toArray⟩) W :=
  row_str (rep R c) (rep_len R c) (fun i hi => by
    rw [cc_lo _ _ _ hi]
    have : (rep R c).getD i 0 = UInt8.ofNat c.toNat := by simp [rep, hi]
    rw [this, UInt8.toNat_ofNat']
    congr 1; omega) h
theorem bss {w w1 w2 : World} (h : Below w.heap.size w w1) (k : Below w1.heap.size w1 w2) : Below w.heap.size w w2 := h.trans (k.mono h.size)

set_option maxRecDepth 100000 in
set_option maxHeartbeats 2000000 in
theorem sumagrees_walk (s : ByteArray) (n c : Int) (w : World) (hc0 : 0 ≤ c) (hc1 : c ≤ 255) (hr : Rnd w) (h0 : 0 < w.heap.size) :
    Calls Tryd.prog 3 #[.string s, .int .i64 n, .int .u8 c] w fun e w' => e = .returned (.bool true) ∧ Below w.heap.size w w' := by
  have HR := Lib.hid hr
  clear hr
  by_cases h5 : 500 < s.size
  · have d5 : decide ((s.size : Int) > 500) = true := by simp; omega
    go_enter Tryd.func3, Tryd.ntmps3
    go_wp2_with fail
    refine (awake_any _ HR.out h0).mono ?_
    rintro e w1 ⟨rfl, hb⟩
    go_wp2_with fail
    go_ret
    exact ⟨rfl, hb⟩
  · have d5 : decide ((s.size : Int) > 500) = false := by simp; omega
    have hR := mo_lt n 200 (by omega)
    go_enter Tryd.func3, Tryd.ntmps3
    go_wp2_with fail
    refine (mod_any n 200 _ (by omega) (by omega)).mono ?_
    rintro e w1 ⟨rfl, rfl⟩
    generalize mo n 200 = R at hR ⊢
    have hmk := mk_bytes w R (by omega)
    go_wp2_with fail
    have q0 : Hid (Row (w.alloc (.cells (arr R zb) 5)) w.heap.size 5 R (cc c 0)) := Row.ofList w 5 _ _ R rfl
    have b0 : Below w.heap.size w (w.alloc (.cells (arr R zb) 5)) := (Below.refl _ _).alloc (Nat.le_refl _) _
    clear hmk
    generalize w.alloc (.cells (arr R zb) 5) = W0 at q0 b0 ⊢
    go_loopw [8] (fun x wr => ∃ i : Nat, i ≤ R ∧ x = .int .i64 i ∧ Hid (Row wr w.heap.size 5 R (cc c i)) ∧ Below w.heap.size w wr) (fun x _ => R - (intOf x).toNat)
    case atStart => exact ⟨0, by omega, rfl, q0, b0⟩
    case round =>
      clear q0 b0
      obtain ⟨i, hi, rfl, hq, hb⟩ := hrel
      by_cases hlt : i < R
      · have z0 : (i : Int) < R := by omega
        have c1 := Row.cell hq.out hlt
        rw [cc_hi _ _ _ (Nat.le_refl _)] at c1
        unfold zb at c1
        have f1 := Row.frozen hq.out i
        go_wp2_with fail
        refine ⟨⟨i + 1, by omega, by go_num, ?_, hb.setCell (Nat.le_refl _) _⟩, by simp [intOf]; omega⟩
        have := Row.set hq.out (i := i) hlt (.int .u8 c)
        rw [cc_step] at this
        exact this
      · have z0 : ¬ (i : Int) < R := by omega
        have hq1 : Hid (Row wr w.heap.size 5 R (cc c R)) := by rw [show i = R by omega] at hq; exact hq
        clear hq
        have hSK : Hid (∀ X, Row X w.heap.size 5 R (cc c R) → (convert 23 9 (.slice (some ⟨w.heap.size, 0, none⟩) R R)).run Tryd.prog X = .ok (.string ⟨(rep R c).toArray⟩) X) := fun X h => cc_str hc0 hc1 h
        have hT : (⟨(rep R c).toArray⟩ : ByteArray).size ≤ 1073741824 := by rw [size_eq]; simp [rep_len]; omega
        have heq : ∀ W, (binOp .eql 26 (.agg (arr 32 (b8 (sumD s.data.toList)))) (.agg (arr 32 (b8 (sumD s.data.toList))))).run Tryd.prog W = .ok (.bool true) W := fun W => eqDD (sumD_byt _) W
        have heq2 : ∀ W, (binOp .eql 26 (.agg (arr 32 (b8 (sumD (rep R c))))) (.agg (arr 32 (b8 (sumD (rep R c)))))).run Tryd.prog W = .ok (.bool true) W := fun W => eqDD (sumD_byt _) W
        have hszw : w.heap.size ≤ wr.heap.size := hb.size
        have S0 := Lib.hid (hSK.out _ hq1.out.drew)
        go_wp2_with fail
        refine wp_region_pl (fun X => (convert 23 9 (.slice (some ⟨w.heap.size, 0, none⟩) R R)).run Tryd.prog X = .ok (.string ⟨(rep R c).toArray⟩) X)
          ((0, 0) :: (2, 0) :: (1, 1) :: (3, 1) :: (4, 1) :: (5, 1) :: (6, 0) :: (9, 0) :: (7, 0) :: (10, 0) :: (8, 1) :: (11, 1) :: (12, 1) :: (13, 1) :: (14, 1) :: (15, 1) :: (16, 1) :: (17, 1) :: []) (by kernel_rfl) (by kernel_rfl) ?_
        iterate 2 (apply wpP_go; (focus rfl); (focus rfl); (focus exact S0.out); (focus (rintro X sX; go_simp; exact rfl)); intro K hK; go_simp; refine hK _ ?_; clear hK K)
        apply wpP_one
        focus rfl
        intro K hK
        go_simp
        refine (sum_any s _ (by omega) (by exact HR.out.below hb.drew h0) (by show 0 < wr.heap.size; omega)).mono ?_
        rintro e w1 ⟨rfl, hb1⟩
        have q1 := Lib.hid (hq1.out.drew.below hb1 hq1.out.lt)
        have S1 := Lib.hid (hSK.out _ q1.out)
        have B1 := bss hb.drew hb1
        refine hK _ _ S1.out ?_
        clear hK K
        apply wpP_one
        focus rfl
        intro K hK
        go_simp
        refine (rsum_any s _ (by omega)).mono ?_
        rintro e w2 ⟨rfl, hb2⟩
        have q2 := Lib.hid (q1.out.below hb2 q1.out.lt)
        have S2 := Lib.hid (hSK.out _ q2.out)
        have B2 := bss B1 hb2
        refine hK _ _ S2.out ?_
        clear hK K
        iterate 2 (apply wpP_one; (focus rfl); intro K hK; go_simp; refine hK _ _ S2.out ?_; clear hK K)
        iterate 4 (apply wpP_go; (focus rfl); (focus rfl); (focus exact S2.out); (focus (rintro X sX; go_simp; exact rfl)); intro K hK; go_simp; refine hK _ ?_; clear hK K)
        apply wpP_one
        focus rfl
        intro K hK
        go_simp
        refine (sum_any ⟨(rep R c).toArray⟩ _ hT (by exact HR.out.below B2 h0) (by have := B2.size; omega)).mono ?_
        rintro e w3 ⟨rfl, hb3⟩
        have q3 := Lib.hid (q2.out.below hb3 q2.out.lt)
        have S3 := Lib.hid (hSK.out _ q3.out)
        have B3 := bss B2 hb3
        refine hK _ _ S3.out ?_
        clear hK K
        apply wpP_one
        focus rfl
        intro K hK
        go_simp
        refine (rsum_any ⟨(rep R c).toArray⟩ _ hT).mono ?_
        rintro e w4 ⟨rfl, hb4⟩
        have q4 := Lib.hid (q3.out.below hb4 q3.out.lt)
        have S4 := Lib.hid (hSK.out _ q4.out)
        have B4 := bss B3 hb4
        refine hK _ _ S4.out ?_
        clear hK K
        iterate 3 (apply wpP_one; (focus rfl); intro K hK; go_simp; refine hK _ _ S4.out ?_; clear hK K)
        apply wpP_one
        focus rfl
        intro K hK
        go_simp
        refine (awake_any _ (by exact HR.out.below B4 h0) (by have := B4.size; omega)).mono ?_
        rintro e w5 ⟨rfl, hb5⟩
        have q5 := Lib.hid (q4.out.below hb5 q4.out.lt)
        have S5 := Lib.hid (hSK.out _ q5.out)
        have B5 := bss B4 hb5
        refine hK _ _ S5.out ?_
        clear hK K
        iterate 2 (apply wpP_one; (focus rfl); intro K hK; go_simp; refine hK _ _ S5.out ?_; clear hK K)
        refine wpP_done ?_
        go_wp2_with fail
        go_ret
        exact ⟨rfl, B5⟩
-- GEN2
theorem mac_long (k s : List UInt8) (h : 64 < k.length) : macD (dl (sumD k)) s = macD k s := by
  have e : kk (dl (sumD k)) = kk k := by
    unfold kk
    rw [if_neg (by rw [dl_len]; omega), if_pos h]
  unfold macD
  rw [e]
theorem macD_byt (k s : List UInt8) : Byt (macD k s) := sumD_byt _
theorem mac_is (key s : ByteArray) (w : World) (D : Nat → Int) (hD : Hid (macD key.data.toList s.data.toList = D)) (hk : key.size ≤ 1073741824) (hs : s.size ≤ 1073741760) (hr : Rnd w) (h0 : 0 < w.heap.size) :
    Calls Tryd.prog 17 #[.string key, .string s] w fun e w' => e = .returned (.agg (arr 32 (b8 D))) ∧ Below w.heap.size w w' := by
  rw [← hD.out]; exact mac_any key s w hk hs hr h0
theorem rmac_is (key s : ByteArray) (w : World) (D : Nat → Int) (hD : Hid (macD key.data.toList s.data.toList = D)) (hk : key.size ≤ 1073741824) (hs : s.size ≤ 1073741760) :
    Calls Tryd.prog 18 #[.string key, .string s] w fun e w' => e = .returned (.agg (arr 32 (b8 D))) ∧ Below w.heap.size w w' := by
  rw [← hD.out]; exact rmac_any key s w hk hs
set_option maxRecDepth 100000 in
set_option maxHeartbeats 2000000 in
theorem macagrees_walk (key s : ByteArray) (n c : Int) (w : World) (hc0 : 0 ≤ c) (hc1 : c ≤ 255) (hr : Rnd w) (h0 : 0 < w.heap.size) :
    Calls Tryd.prog 4 #[.string key, .string s, .int .i64 n, .int .u8 c] w fun e w' => e = .returned (.bool true) ∧ Below w.heap.size w w' := by
  have HR := Lib.hid hr
  clear hr
  by_cases h5 : 300 < key.size
  · have d5 : decide ((key.size : Int) > 300) = true := by simp; omega
    go_enter Tryd.func4, Tryd.ntmps4
    go_wp2_with fail
    refine (awake_any _ HR.out h0).mono ?_
    rintro e w1 ⟨rfl, hb⟩
    go_wp2_with fail
    go_ret
    exact ⟨rfl, hb⟩
  have d5 : decide ((key.size : Int) > 300) = false := by simp; omega
  by_cases h6 : 300 < s.size
  · have d6 : decide ((s.size : Int) > 300) = true := by simp; omega
    go_enter Tryd.func4, Tryd.ntmps4
    go_wp2_with fail
    refine (awake_any _ HR.out h0).mono ?_
    rintro e w1 ⟨rfl, hb⟩
    go_wp2_with fail
    go_ret
    exact ⟨rfl, hb⟩
  · have d6 : decide ((s.size : Int) > 300) = false := by simp; omega
    have hR := mo_lt n 100 (by omega)
    go_enter Tryd.func4, Tryd.ntmps4
    go_wp2_with fail
    refine (mod_any n 100 _ (by omega) (by omega)).mono ?_
    rintro e w1 ⟨rfl, rfl⟩
    generalize mo n 100 = R at hR ⊢
    have hmk := mk_bytes w R (by omega)
    go_wp2_with fail
    have q0 : Hid (Row (w.alloc (.cells (arr R zb) 5)) w.heap.size 5 R (cc c 0)) := Row.ofList w 5 _ _ R rfl
    have b0 : Below w.heap.size w (w.alloc (.cells (arr R zb) 5)) := (Below.refl _ _).alloc (Nat.le_refl _) _
    clear hmk
    generalize w.alloc (.cells (arr R zb) 5) = W0 at q0 b0 ⊢
    go_loopw [10] (fun x wr => ∃ i : Nat, i ≤ R ∧ x = .int .i64 i ∧ Hid (Row wr w.heap.size 5 R (cc c i)) ∧ Below w.heap.size w wr) (fun x _ => R - (intOf x).toNat)
    case atStart => exact ⟨0, by omega, rfl, q0, b0⟩
    case round =>
      clear q0 b0
      obtain ⟨i, hi, rfl, hq, hb⟩ := hrel
      by_cases hlt : i < R
      · have z0 : (i : Int) < R := by omega
        have c1 := Row.cell hq.out hlt
        rw [cc_hi _ _ _ (Nat.le_refl _)] at c1
        unfold zb at c1
        have f1 := Row.frozen hq.out i
        go_wp2_with fail
        refine ⟨⟨i + 1, by omega, by go_num, ?_, hb.setCell (Nat.le_refl _) _⟩, by simp [intOf]; omega⟩
        have := Row.set hq.out (i := i) hlt (.int .u8 c)
        rw [cc_step] at this
        exact this
      · have z0 : ¬ (i : Int) < R := by omega
        have hq1 : Hid (Row wr w.heap.size 5 R (cc c R)) := by rw [show i = R by omega] at hq; exact hq
        clear hq
        have cS := cc_str hc0 hc1 hq1.out
        obtain ⟨T, hT⟩ : ∃ T : ByteArray, T = ⟨(rep R c).toArray⟩ := ⟨_, rfl⟩
        have HTd : Hid (T.data.toList = rep R c) := by rw [hT]; rfl
        have hT1 : T.size ≤ R := by rw [size_eq, HTd.out, rep_len]; omega
        have hT2 : R ≤ T.size := by rw [size_eq, HTd.out, rep_len]; omega
        rw [← hT] at cS
        clear hT
        obtain ⟨D1, hD1⟩ : ∃ D1 : Nat → Int, macD key.data.toList s.data.toList = D1 := ⟨_, rfl⟩
        have b1 : Byt D1 := by rw [← hD1]; exact macD_byt _ _
        have HD1 := Lib.hid hD1
        obtain ⟨D2, hD2⟩ : ∃ D2 : Nat → Int, macD T.data.toList s.data.toList = D2 := ⟨_, rfl⟩
        have b2 : Byt D2 := by rw [← hD2]; exact macD_byt _ _
        have HD2 := Lib.hid hD2
        clear hD1 hD2
        have heq : ∀ W, (binOp .eql 26 (.agg (arr 32 (b8 D1))) (.agg (arr 32 (b8 D1)))).run Tryd.prog W = .ok (.bool true) W := fun W => eqDD b1 W
        have heq2 : ∀ W, (binOp .eql 26 (.agg (arr 32 (b8 D2))) (.agg (arr 32 (b8 D2)))).run Tryd.prog W = .ok (.bool true) W := fun W => eqDD b2 W
        have BD1 := Lib.hid b1
        have BD2 := Lib.hid b2
        clear b1 b2
        by_cases h64 : 64 < T.size
        · have h64' : (64 : Int) < T.size := by omega
          go_wp2_with fail
          refine (sum_any T _ (by omega) (HR.out.below hb h0) (by have := hb.size; omega)).mono ?_
          rintro e w1 ⟨rfl, hb1⟩
          have B1 := bss hb hb1
          have rD : Hid (Row (w1.alloc (.cells (arr 32 (b8 (sumD T.data.toList))) 26)) w1.heap.size 26 32 (b8 (sumD T.data.toList))) := Row.ofList w1 26 _ _ 32 rfl
          have B2 : Below w.heap.size w (w1.alloc (.cells (arr 32 (b8 (sumD T.data.toList))) 26)) := B1.alloc B1.size _
          go_wp2_with fail
          generalize w1.alloc (.cells (arr 32 (b8 (sumD T.data.toList))) 26) = V at rD B2 ⊢
          generalize w1.heap.size = D at rD ⊢
          have hSK : Hid (∀ X, Row X D 26 32 (b8 (sumD T.data.toList)) → (convert 23 9 (.slice (some ⟨D, 0, none⟩) 32 32)).run Tryd.prog X = .ok (.string ⟨(dl (sumD T.data.toList)).toArray⟩) X) := fun X h => dig_str (sumD_byt _) h
          have S0 := Lib.hid (hSK.out _ rD.out.drew)
          have hne : ∀ W, (binOp .neq 26 (.agg (arr 32 (b8 D2))) (.agg (arr 32 (b8 D2)))).run Tryd.prog W = .ok (.bool false) W := fun W => by
            rw [neD BD2.out BD2.out]; simp
          have HD3 : Hid (macD (⟨(dl (sumD T.data.toList)).toArray⟩ : ByteArray).data.toList s.data.toList = D2) := by
            show macD (dl (sumD T.data.toList)) s.data.toList = D2
            rw [mac_long _ _ (by rw [← size_eq]; exact h64)]; exact HD2.out
          have hTz : (⟨(dl (sumD T.data.toList)).toArray⟩ : ByteArray).size ≤ 1073741824 := by rw [size_eq]; simp [dl_len]
          refine wp_region_pl (fun X => (convert 23 9 (.slice (some ⟨D, 0, none⟩) 32 32)).run Tryd.prog X = .ok (.string ⟨(dl (sumD T.data.toList)).toArray⟩) X)
            ((0, 0) :: (1, 0) :: (3, 0) :: (4, 0) :: (5, 0) :: (2, 1) :: (6, 1) :: (7, 1) :: []) (by kernel_rfl) (by kernel_rfl) ?_
          iterate 5 (apply wpP_go; (focus rfl); (focus rfl); (focus exact S0.out); (focus (rintro X sX; go_simp; exact rfl)); intro K hK; go_simp; refine hK _ ?_; clear hK K)
          apply wpP_one
          focus rfl
          intro K hK
          go_simp
          refine (mac_is T s _ D2 HD2 (by omega) (by omega) (by exact HR.out.below B2.drew h0) (by have := B2.size; show 0 < V.heap.size; omega)).mono ?_
          rintro e w2 ⟨rfl, hb2⟩
          have q1 := Lib.hid (rD.out.drew.below hb2 rD.out.lt)
          have S1 := Lib.hid (hSK.out _ q1.out)
          have B3 := bss B2.drew hb2
          refine hK _ _ S1.out ?_
          clear hK K
          apply wpP_one
          focus rfl
          intro K hK
          go_simp
          refine (mac_is ⟨(dl (sumD T.data.toList)).toArray⟩ s _ D2 HD3 hTz (by omega) (by exact HR.out.below B3 h0) (by have := B3.size; omega)).mono ?_
          rintro e w3 ⟨rfl, hb3⟩
          have q2 := Lib.hid (q1.out.below hb3 q1.out.lt)
          have S2 := Lib.hid (hSK.out _ q2.out)
          have B4 := bss B3 hb3
          refine hK _ _ S2.out ?_
          clear hK K
          iterate 1 (apply wpP_one; (focus rfl); intro K hK; go_simp; refine hK _ _ S2.out ?_; clear hK K)
          refine wpP_done ?_
          have hcut := B4
          go_wp2_with fail
          refine (mac_is key s _ D1 HD1 (by omega) (by omega) (HR.out.below hcut h0) (by have := hcut.size; omega)).mono ?_
          rintro e w1 ⟨rfl, hb1⟩
          have B1 := bss hcut hb1
          go_wp2_with fail
          refine (rmac_is key s _ D1 HD1 (by omega) (by omega)).mono ?_
          rintro e w2 ⟨rfl, hb2⟩
          have B2 := bss B1 hb2
          go_wp2_with fail
          refine (mac_is T s _ D2 HD2 (by omega) (by omega) (HR.out.below B2 h0) (by have := B2.size; omega)).mono ?_
          rintro e w3 ⟨rfl, hb3⟩
          have B3 := bss B2 hb3
          go_wp2_with fail
          refine (rmac_is T s _ D2 HD2 (by omega) (by omega)).mono ?_
          rintro e w4 ⟨rfl, hb4⟩
          have B4 := bss B3 hb4
          go_wp2_with fail
          refine (awake_any _ (HR.out.below B4 h0) (by have := B4.size; omega)).mono ?_
          rintro e w5 ⟨rfl, hb5⟩
          have B5 := bss B4 hb5
          go_wp2_with fail
          go_ret
          exact ⟨rfl, B5⟩
        · have h64' : ¬ (64 : Int) < T.size := by omega
          have hcut := hb
          go_wp2_with fail
          refine (mac_is key s _ D1 HD1 (by omega) (by omega) (HR.out.below hcut h0) (by have := hcut.size; omega)).mono ?_
          rintro e w1 ⟨rfl, hb1⟩
          have B1 := bss hcut hb1
          go_wp2_with fail
          refine (rmac_is key s _ D1 HD1 (by omega) (by omega)).mono ?_
          rintro e w2 ⟨rfl, hb2⟩
          have B2 := bss B1 hb2
          go_wp2_with fail
          refine (mac_is T s _ D2 HD2 (by omega) (by omega) (HR.out.below B2 h0) (by have := B2.size; omega)).mono ?_
          rintro e w3 ⟨rfl, hb3⟩
          have B3 := bss B2 hb3
          go_wp2_with fail
          refine (rmac_is T s _ D2 HD2 (by omega) (by omega)).mono ?_
          rintro e w4 ⟨rfl, hb4⟩
          have B4 := bss B3 hb4
          go_wp2_with fail
          refine (awake_any _ (HR.out.below B4 h0) (by have := B4.size; omega)).mono ?_
          rintro e w5 ⟨rfl, hb5⟩
          have B5 := bss B4 hb5
          go_wp2_with fail
          go_ret
          exact ⟨rfl, B5⟩
end Go.Proofs.YtndbbbkdpjkljaaDoor
