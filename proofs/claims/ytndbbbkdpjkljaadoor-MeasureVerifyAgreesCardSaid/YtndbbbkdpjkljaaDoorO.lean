/- awake answers true. Condition: the round constants lie in block 0. -/
import Derived.Test.YtndbbbkdpjkljaaDoorN
import Derived.Stop.BytesEq
import Derived.Test.YtndbbbkdpjkljaaDoorPl
namespace Go.Proofs.YtndbbbkdpjkljaaDoor
open Go.RowKit
attribute [local go_sem ↓] alloc26 load26n store26n
attribute [local go_sem ↓] Go.wp_at_zero Go.wp_at_succ
attribute [local go_sem] stN_uc stN_b8 set_new fold_drew ldN_drew ldN_drewN stN_drew stN_drewN

theorem arr_dl {D : Nat → Int} (h : Byt D) : arr 32 (b8 D) = ((dl D).map Extern.Stop.cell).toArray := by
  unfold arr dl
  rw [List.map_map]
  congr 1
  apply List.map_congr_left
  intro i _
  have := h i
  have e : ((((D i).toNat % 2 ^ 8 : Nat)) : Int) = D i := by omega
  simp only [Function.comp_def, Extern.Stop.cell, b8, UInt8.toNat_ofNat']
  exact congrArg (Value.int .u8) e.symm
theorem eqD {D E : Nat → Int} (hD : Byt D) (hE : Byt E) (w : World) : (binOp .eql 26 (.agg (arr 32 (b8 D))) (.agg (arr 32 (b8 E)))).run Tryd.prog w = .ok (.bool (dl D == dl E)) w := by
  rw [arr_dl hD, arr_dl hE]
  exact run_eql_bytes w 26 5 32 Tryd.underlying26 Tryd.underlying5 (fun _ => by kernel_rfl) (dl D) (dl E) (dl_len D) (dl_len E)
theorem eqDD {D : Nat → Int} (hD : Byt D) (w : World) : (binOp .eql 26 (.agg (arr 32 (b8 D))) (.agg (arr 32 (b8 D)))).run Tryd.prog w = .ok (.bool true) w := by
  rw [eqD hD hD]; simp
theorem neD {D E : Nat → Int} (hD : Byt D) (hE : Byt E) (w : World) : (binOp .neq 26 (.agg (arr 32 (b8 D))) (.agg (arr 32 (b8 E)))).run Tryd.prog w = .ok (.bool (!(dl D == dl E))) w := by
  have h : Sem.run Tryd.prog (Op.equal 26 (.agg (arr 32 (b8 D))) (.agg (arr 32 (b8 E)))) w = .ok (dl D == dl E) w := by
    rw [arr_dl hD, arr_dl hE]
    exact run_equalIn_bytes w 9998 26 5 32 Tryd.underlying26 Tryd.underlying5 (fun _ => by kernel_rfl) (dl D) (dl E) (dl_len D) (dl_len E)
  simp [binOp, h]
def abc : ByteArray := ⟨#[97, 98, 99]⟩
def fox : ByteArray := ⟨#[84, 104, 101, 32, 113, 117, 105, 99, 107, 32, 98, 114, 111, 119, 110, 32, 102, 111, 120, 32, 106, 117, 109, 112, 115, 32, 111, 118, 101, 114, 32, 116, 104, 101, 32, 108, 97, 122, 121, 32, 100, 111, 103]⟩
def keyb : ByteArray := ⟨#[107, 101, 121]⟩
set_option maxRecDepth 100000 in
set_option maxHeartbeats 4000000 in
theorem awake_any (w : World) (hr : Rnd w) (h0 : 0 < w.heap.size) :
    Calls Tryd.prog 13 #[] w fun e w' => e = .returned (.bool true) ∧ Below w.heap.size w w' := by
  have HR := Lib.hid hr
  clear hr
  go_enter Tryd.func13, Tryd.ntmps13
  go_wp2_with fail
  refine (sum_any abc _ (by decide) HR.out h0).mono ?_
  rintro e w1 ⟨rfl, hb1⟩
  go_wp2_with fail
  have hs1 := hb1.size
  have bA : Below w.heap.size w (w1.alloc (.cells (arr 32 (b8 (sumD abc.data.toList))) 26)) := hb1.alloc hs1 _
  have rA : Row (w1.alloc (.cells (arr 32 (b8 (sumD abc.data.toList))) 26)) w1.heap.size 26 32 (b8 (sumD abc.data.toList)) := Row.ofList w1 26 _ _ 32 rfl
  clear hb1
  generalize w1.alloc (.cells (arr 32 (b8 (sumD abc.data.toList))) 26) = W1 at bA rA ⊢
  generalize w1.heap.size = A at rA hs1 ⊢
  refine (mac_any keyb fox _ (by decide) (by decide) (HR.out.below bA h0) (by have := bA.size; omega)).mono ?_
  rintro e w2 ⟨rfl, hb2⟩
  go_wp2_with fail
  have hs2 := hb2.size
  have rA2 := (rA.below hb2 rA.lt).alloc (.cells (arr 32 (b8 (macD keyb.data.toList fox.data.toList))) 26)
  have rM : Row (w2.alloc (.cells (arr 32 (b8 (macD keyb.data.toList fox.data.toList))) 26)) w2.heap.size 26 32 (b8 (macD keyb.data.toList fox.data.toList)) := Row.ofList w2 26 _ _ 32 rfl
  have bM : Below w.heap.size w (w2.alloc (.cells (arr 32 (b8 (macD keyb.data.toList fox.data.toList))) 26)) := (bA.trans (hb2.mono bA.size)).alloc (by have := bA.size; omega) _
  have hAM : A < w2.heap.size := by have := rA.lt; omega
  clear hb2 rA bA
  generalize w2.alloc (.cells (arr 32 (b8 (macD keyb.data.toList fox.data.toList))) 26) = W2 at bM rM rA2 ⊢
  generalize w2.heap.size = M at rM hs2 hAM ⊢
  refine (new_any _).mono ?_
  rintro e w3 ⟨rfl, hL3, hb3⟩
  have hlog := log_new (Nat.le_refl _) hL3
  have rA3 := rA2.below hb3 rA2.lt
  have rM3 := rM.below hb3 rM.lt
  have bM3 : Below w.heap.size w w3 := bM.trans (hb3.mono bM.size)
  have hML : M < W2.heap.size := rM.lt
  clear hL3 hb3
  have hWs : w.heap.size ≤ W2.heap.size := bM.size
  generalize W2.heap.size = Lb at hlog hML hWs ⊢
  clear rA2 rM bM
  have HL := Lib.hid hlog
  have HA := Lib.hid rA3
  have HM := Lib.hid rM3
  have HB := Lib.hid bM3
  clear hlog rA3 rM3 bM3
  go_wp2_with fail
  refine (measure_ok Lb Lb 2 [] ⟨#[120]⟩ abc _ (by omega) (by decide) (by simp) (by decide) (HR.out.below HB.out h0) (by omega) HL.out).mono ?_
  rintro e w4 ⟨rfl, hlog4, hb4⟩
  have HA4 := Lib.hid (HA.out.below hb4 (by omega))
  have HM4 := Lib.hid (HM.out.below hb4 (by omega))
  have HB4 : Hid (Below w.heap.size w w4) := HB.out.trans (hb4.mono hWs)
  have HL4 := Lib.hid hlog4
  clear hlog4 hb4 HA HM HB HL
  go_wp2_with fail
  refine (measure_bad Lb 8 _ _ _ (by omega)).mono ?_
  rintro e w4b ⟨rfl, rfl⟩
  go_wp2_with fail
  obtain ⟨vL, hLG⟩ := HL4.out.lg
  have hlL := hLG.lt
  refine (register_yes Lb 2 _ _ _ (by omega) hLG).mono ?_
  rintro e w5 ⟨rfl, hb5⟩
  obtain ⟨G2, hG2⟩ : ∃ G2 : Nat → Int, G2 = regs ([] ++ [⟨((2 : Nat) : Int), sumD abc.data.toList, ⟨#[120]⟩⟩]) 2 := ⟨_, rfl⟩
  have HG2 : Hid (G2 = sumD (dl (fun _ => 0) ++ dl (sumD abc.data.toList))) := by rw [hG2]; rfl
  rw [← hG2]
  clear hG2
  have HA5 := Lib.hid ((HA4.out.below hb5 HA4.out.lt).alloc (.cells (arr 32 (b8 G2)) 26))
  have HM5 := Lib.hid ((HM4.out.below hb5 HM4.out.lt).alloc (.cells (arr 32 (b8 G2)) 26))
  have HR5 : Hid (Row (w5.alloc (.cells (arr 32 (b8 G2)) 26)) w5.heap.size 26 32 (b8 G2)) := Row.ofList w5 26 _ _ 32 rfl
  have HB5 : Hid (Below w.heap.size w (w5.alloc (.cells (arr 32 (b8 G2)) 26))) := (HB4.out.trans (hb5.mono HB4.out.size)).alloc (by have := hb5.size; have := HB4.out.size; omega) _
  clear hb5 HA4 HM4 HB4 HL4 hLG hlL
  go_wp2_with fail
  generalize w5.alloc (.cells (arr 32 (b8 G2)) 26) = V at HA5 HM5 HR5 HB5 ⊢
  generalize w5.heap.size = R at HR5 ⊢
  have a0 : V.cell? ⟨A, 0, none⟩ = some (.int .u8 186) := by rw [Row.cell HA5.out (by omega)]; unfold b8; rw [show sumD abc.data.toList 0 = 186 from abc_0.1]
  have a1 : V.cell? ⟨A, 1, none⟩ = some (.int .u8 120) := by rw [Row.cell HA5.out (by omega)]; unfold b8; rw [show sumD abc.data.toList 1 = 120 from abc_0.2.1]
  have a31 : V.cell? ⟨A, 31, none⟩ = some (.int .u8 173) := by rw [Row.cell HA5.out (by omega)]; unfold b8; rw [show sumD abc.data.toList 31 = 173 from abc_0.2.2]
  have m0 : V.cell? ⟨M, 0, none⟩ = some (.int .u8 247) := by rw [Row.cell HM5.out (by omega)]; unfold b8; rw [show macD keyb.data.toList fox.data.toList 0 = 247 from mac_0.1]
  have m1 : V.cell? ⟨M, 1, none⟩ = some (.int .u8 188) := by rw [Row.cell HM5.out (by omega)]; unfold b8; rw [show macD keyb.data.toList fox.data.toList 1 = 188 from mac_0.2]
  have lR : ldN 32 V (.pointer (some ⟨R, 0, none⟩)) = some (arr 32 (b8 G2)) := ldN_of (Row.range0 HR5.out) (by simp [arr])
  have lR2 : ldN 32 (V.alloc (.cells (arr 32 zb) 5)) (.pointer (some ⟨R, 0, none⟩)) = some (arr 32 (b8 G2)) := ldN_of (Row.range0 (HR5.out.alloc _)) (by simp [arr])
  have cA : (convert 23 9 (.slice (some ⟨A, 0, none⟩) 32 32)).run Tryd.prog V.drew = .ok (.string ⟨(dl (sumD abc.data.toList)).toArray⟩) V.drew := dig_str (sumD_byt _) HA5.out.drew
  have cA2 : (convert 23 9 (.slice (some ⟨A, 0, none⟩) 32 32)).run Tryd.prog (V.alloc (.cells (arr 32 zb) 5)).drew = .ok (.string ⟨(dl (sumD abc.data.toList)).toArray⟩) (V.alloc (.cells (arr 32 zb) 5)).drew := dig_str (sumD_byt _) (HA5.out.alloc _).drew
  have cZ : (convert 23 9 (.slice (some ⟨V.heap.size, 0, none⟩) 32 32)).run Tryd.prog (V.alloc (.cells (arr 32 zb) 5)).drew = .ok (.string ⟨(dl (fun _ => 0)).toArray⟩) (V.alloc (.cells (arr 32 zb) 5)).drew := dig_str (D := fun _ => 0) (fun _ => ⟨Int.le_refl _, by show (0 : Int) ≤ 255; decide⟩) (Row.ofList V 5 _ _ 32 rfl).drew
  have hmk : ∀ W, (Instr.makeSlice 23 (.int .i64 32) (.int .i64 32)).run Tryd.prog W = .ok (.slice (some ⟨W.heap.size, 0, none⟩) 32 32) (W.alloc (.cells (arr 32 zb) 5)) := fun _ => by kernel_rfl
  have hln : ¬ 9223372036854775807 < (dl (fun _ => 0)).length + (dl (sumD abc.data.toList)).length := by rw [dl_len, dl_len]; omega
  have heq : ∀ W, (binOp .eql 26 (.agg (arr 32 (b8 G2))) (.agg (arr 32 (b8 G2)))).run Tryd.prog W = .ok (.bool true) W := fun W => eqDD (by rw [HG2.out]; exact sumD_byt _) W
  obtain ⟨S, hS⟩ : ∃ S : ByteArray, S = ({ data := (dl (fun _ => 0)).toArray } ++ { data := (dl (sumD abc.data.toList)).toArray } : ByteArray) := ⟨_, rfl⟩
  have HSd : Hid (S.data.toList = dl (fun _ => 0) ++ dl (sumD abc.data.toList)) := by rw [hS]; exact cat_data _ _
  have hSz : S.size ≤ 1073741824 := by rw [size_eq, HSd.out, List.length_append, dl_len, dl_len]; omega
  have HC : Hid (Calls Tryd.prog 15 #[.string ({ data := (dl (fun _ => 0)).toArray } ++ { data := (dl (sumD abc.data.toList)).toArray } : ByteArray)] (V.alloc (.cells (arr 32 zb) 5)).drew fun e w' => e = .returned (.agg (arr 32 (b8 G2))) ∧ Below (V.heap.size + 1) (V.alloc (.cells (arr 32 zb) 5)).drew w') := by
    rw [← hS, HG2.out, ← HSd.out]
    have := sum_any S (V.alloc (.cells (arr 32 zb) 5)).drew hSz (HR.out.below (HB5.out.alloc HB5.out.size _).drew h0) (by simp)
    exact this.mono fun _ _ h => ⟨h.1, by simpa using h.2⟩
  clear hS
  have hSK : Hid (∀ X, Row X A 26 32 (b8 (sumD abc.data.toList)) → Row X M 26 32 (b8 (macD keyb.data.toList fox.data.toList)) → Row X R 26 32 (b8 G2) →
      X.cell? ⟨A, 0, none⟩ = some (.int .u8 186) ∧ X.cell? ⟨A, 1, none⟩ = some (.int .u8 120) ∧ X.cell? ⟨A, 31, none⟩ = some (.int .u8 173) ∧ X.cell? ⟨M, 0, none⟩ = some (.int .u8 247) ∧ X.cell? ⟨M, 1, none⟩ = some (.int .u8 188) ∧
      ldN 32 X (.pointer (some ⟨R, 0, none⟩)) = some (arr 32 (b8 G2)) ∧ (convert 23 9 (.slice (some ⟨A, 0, none⟩) 32 32)).run Tryd.prog X = .ok (.string ⟨(dl (sumD abc.data.toList)).toArray⟩) X) := fun X hA hM hR =>
    ⟨by rw [Row.cell hA (by omega)]; unfold b8; rw [show sumD abc.data.toList 0 = 186 from abc_0.1],
     by rw [Row.cell hA (by omega)]; unfold b8; rw [show sumD abc.data.toList 1 = 120 from abc_0.2.1],
     by rw [Row.cell hA (by omega)]; unfold b8; rw [show sumD abc.data.toList 31 = 173 from abc_0.2.2],
     by rw [Row.cell hM (by omega)]; unfold b8; rw [show macD keyb.data.toList fox.data.toList 0 = 247 from mac_0.1],
     by rw [Row.cell hM (by omega)]; unfold b8; rw [show macD keyb.data.toList fox.data.toList 1 = 188 from mac_0.2],
     ldN_of (Row.range0 hR) (by simp [arr]), dig_str (sumD_byt _) hA⟩
  have S0 := Lib.hid (hSK.out _ HA5.out.drew HM5.out.drew HR5.out.drew)
  have S1 := Lib.hid (hSK.out _ (HA5.out.alloc (.cells (arr 32 zb) 5)).drew (HM5.out.alloc (.cells (arr 32 zb) 5)).drew (HR5.out.alloc (.cells (arr 32 zb) 5)).drew)
  clear a0 a1 a31 m0 m1 lR lR2 cA cA2
  refine wp_region_pl (fun X => X.cell? ⟨A, 0, none⟩ = some (.int .u8 186) ∧ X.cell? ⟨A, 1, none⟩ = some (.int .u8 120) ∧ X.cell? ⟨A, 31, none⟩ = some (.int .u8 173) ∧ X.cell? ⟨M, 0, none⟩ = some (.int .u8 247) ∧ X.cell? ⟨M, 1, none⟩ = some (.int .u8 188) ∧
      ldN 32 X (.pointer (some ⟨R, 0, none⟩)) = some (arr 32 (b8 G2)) ∧ (convert 23 9 (.slice (some ⟨A, 0, none⟩) 32 32)).run Tryd.prog X = .ok (.string ⟨(dl (sumD abc.data.toList)).toArray⟩) X)
    ((0, 0) :: (1, 0) :: (2, 0) :: (3, 0) :: (4, 0) :: (5, 0) :: (6, 0) :: (7, 0) :: (8, 0) :: (9, 0) :: (10, 0) :: (11, 0) :: (12, 0) :: (13, 0) :: (14, 0) :: (15, 0) :: (16, 0) :: (17, 0) :: (18, 0) :: (19, 0) :: (20, 0) :: (21, 0) :: (22, 0) :: (23, 0) :: (24, 0) :: (25, 0) :: (26, 0) :: (27, 0) :: (28, 0) :: (31, 0) :: (32, 0) :: (29, 1) :: (30, 1) :: (33, 1) :: (34, 1) :: (35, 1) :: (36, 1) :: (37, 1) :: []) (by kernel_rfl) (by kernel_rfl) ?_
  repeat (apply wpP_go; (focus rfl); (focus rfl); (focus exact S0.out); (focus (rintro X ⟨s0, s1, s2, s3, s4, s5, s6⟩; go_simp; exact rfl)); intro K hK; go_simp; refine hK _ ?_; clear hK K)
  apply wpP_one
  focus rfl
  intro K hK
  go_simp
  refine hK _ _ S1.out ?_
  clear hK K
  repeat (apply wpP_one; (focus rfl); intro K hK; go_simp; refine hK _ _ S1.out ?_; clear hK K)
  apply wpP_one
  focus rfl
  intro K hK
  go_simp
  refine HC.out.mono ?_
  rintro e w6 ⟨rfl, hb6⟩
  have S2 := Lib.hid (hSK.out _ ((HA5.out.alloc (.cells (arr 32 zb) 5)).drew.below hb6 (by have := HA5.out.lt; omega)) ((HM5.out.alloc (.cells (arr 32 zb) 5)).drew.below hb6 (by have := HM5.out.lt; omega)) ((HR5.out.alloc (.cells (arr 32 zb) 5)).drew.below hb6 (by have := HR5.out.lt; omega)))
  refine hK _ _ S2.out ?_
  clear hK K
  repeat (apply wpP_one; (focus rfl); intro K hK; go_simp; refine hK _ _ S2.out ?_; clear hK K)
  refine wpP_done ?_
  go_wp2_with fail
  go_ret
  exact ⟨rfl, (HB5.out.alloc HB5.out.size _).drew.trans (hb6.mono (by have := HB5.out.size; omega))⟩
end Go.Proofs.YtndbbbkdpjkljaaDoor
