/- The reference's MAC: what it computes. Condition: sizes. -/
import Derived.Test.YtndbbbkdpjkljaaDoorL
namespace Go.Proofs.YtndbbbkdpjkljaaDoor
open Go.RowKit
attribute [local go_sem ↓] alloc26 alloc63 alloc68 alloc77 load63n store63n load77n store77n load26n store26n
attribute [local go_sem] stN_uc stN_b8 set_new fold_drew ldN_drew ldN_drewN stN_drew stN_drewN

/-- The cells of the mixed key, the first n written. -/
def xz (l : List UInt8) (x : UInt8) (n i : Nat) : Value := if i < n then .int .u8 (((l.getD i 0 ^^^ x).toNat : Nat) : Int) else zb i
theorem xz_hi (l : List UInt8) (x : UInt8) (n i : Nat) (h : n ≤ i) : xz l x n i = zb i := if_neg (by omega)
theorem xz_lo (l : List UInt8) (x : UInt8) (n i : Nat) (h : i < n) : xz l x n i = .int .u8 (((l.getD i 0 ^^^ x).toNat : Nat) : Int) := if_pos h
theorem xz_step (l : List UInt8) (x : UInt8) (n : Nat) : upd (xz l x n) n (.int .u8 (((l.getD n 0 ^^^ x).toNat : Nat) : Int)) = xz l x (n + 1) := by
  funext q
  by_cases e : q = n
  · subst e; rw [upd_hit, xz_lo _ _ _ _ (by omega)]
  · rw [upd_miss _ _ e]
    by_cases h : q < n
    · rw [xz_lo _ _ _ _ h, xz_lo _ _ _ _ (by omega)]
    · rw [xz_hi _ _ _ _ (by omega), xz_hi _ _ _ _ (by omega)]
theorem padz_str {W : World} {B t c : Nat} {l : List UInt8} {x : UInt8} {n : Nat} (hn : 64 ≤ n) (h : Row W B t 64 (xz l x n)) : (convert 23 9 (.slice (some ⟨B, 0, none⟩) 64 c)).run Tryd.prog W = .ok (.string ⟨(pad l x).toArray⟩) W :=
  row_str (pad l x) (pad_len l x) (fun i hi => by rw [xz_lo _ _ _ _ (by omega), pad_at _ _ _ hi]) h

set_option maxRecDepth 100000 in
set_option maxHeartbeats 4000000 in
theorem rmac_any (key s : ByteArray) (w : World) (hk : key.size ≤ 1073741824) (hs : s.size ≤ 1073741760) :
    Calls Tryd.prog 18 #[.string key, .string s] w fun e w' => e = .returned (.agg (arr 32 (b8 (macD key.data.toList s.data.toList)))) ∧ Below w.heap.size w w' := by
  have a1 : Row (w.alloc (.cells (arr 32 zb) 26)) w.heap.size 26 32 zb := Row.ofList w 26 _ _ 32 rfl
  have A1 := Lib.hid a1
  have hB1 : Below w.heap.size w (w.alloc (.cells (arr 32 zb) 26)) := (Below.refl _ _).alloc (Nat.le_refl _) _
  clear a1
  go_enter Tryd.func18, Tryd.ntmps18
  go_upto_if 13 with fail
  go_cut [0] (fun k wx => ∃ K : ByteArray, k = .string K ∧ K.size ≤ 64 ∧ Hid (K.data.toList = kk key.data.toList) ∧ Hid (Row wx w.heap.size 26 32 zb) ∧ Below w.heap.size w wx)
  case first =>
    by_cases h64 : 64 < key.size
    · go_wp2_with fail
      refine (rsum_any key _ hk).mono ?_
      rintro e w1 ⟨rfl, hb⟩
      have c1 := dig_str (sumD_byt key.data.toList) (Row.ofList w1 26 (arr 32 (b8 (sumD key.data.toList))) _ 32 rfl)
      go_wp2_with fail
      go_meet
      refine ⟨⟨(dl (sumD key.data.toList)).toArray⟩, rfl, ?_, ?_, (A1.out.below hb (by simp)).alloc _, (hB1.trans (hb.mono (by simp))).alloc (by have := hb.size; simp at this; omega) _⟩
      · rw [size_eq]; simp [dl_len]
      · show dl (sumD key.data.toList) = kk key.data.toList
        unfold kk; rw [if_pos (by rw [← size_eq]; exact h64)]
    · go_wp2_with fail
      go_meet
      refine ⟨key, rfl, by omega, ?_, A1, hB1⟩
      show key.data.toList = kk key.data.toList
      unfold kk; rw [if_neg (by rw [← size_eq]; exact h64)]
  case rest =>
    clear A1 hB1
    obtain ⟨K, rfl, hK, hKK, h26, hbw⟩ := hcut
    have hmk : ∀ W, (Instr.makeSlice 23 (.int .i64 64) (.int .i64 64)).run Tryd.prog W = .ok (.slice (some ⟨W.heap.size, 0, none⟩) 64 64) (W.alloc (.cells (arr 64 zb) 5)) := fun _ => by kernel_rfl
    have hI : w.heap.size < wc.heap.size := h26.out.lt
    go_upto_region 4 with fail
    go_cut [6, 7] (fun x y wx => ∃ I O : Nat, I ≠ O ∧ w.heap.size < I ∧ w.heap.size < O ∧ x = .slice (some ⟨I, 0, none⟩) 64 64 ∧ y = .slice (some ⟨O, 0, none⟩) 64 64 ∧ Hid (MB w wx I O 5 zb zb))
    case first =>
      go_wp2_with fail
      go_region
      all_goals go_wp2
      all_goals go_meet
      · exact ⟨wc.heap.size, wc.heap.size + 1, by omega, by omega, by omega, rfl, rfl, (Row.ofList wc 5 _ _ 64 rfl).alloc _, Row.ofListAt _ _ 5 (by simp) _ _ 64 rfl, (h26.out.alloc _).alloc _, ((hbw.alloc hbw.size _).alloc (by have := hbw.size; simp; omega) _).drew⟩
      · exact ⟨wc.heap.size + 1, wc.heap.size, by omega, by omega, by omega, rfl, rfl, Row.ofListAt _ _ 5 (by simp) _ _ 64 rfl, (Row.ofList wc 5 _ _ 64 rfl).alloc _, (h26.out.alloc _).alloc _, ((hbw.alloc hbw.size _).alloc (by have := hbw.size; simp; omega) _).drew⟩
    case rest =>
      obtain ⟨I, O, hIO, hlI, hlO', rfl, rfl, hq⟩ := hcut
      clear h26 hbw hmk hI
      have hle1 : w.heap.size ≤ I := by omega
      have hle2 : w.heap.size ≤ O := by omega
      have hOI : O ≠ I := fun h => hIO h.symm
      have hne1 : w.heap.size ≠ I := by omega
      have hne2 : w.heap.size ≠ O := by omega
      go_wp2_with fail
      go_loopw [8] (fun x wr => ∃ i : Nat, i ≤ 64 ∧ x = .int .i64 i ∧ Hid (MB w wr I O 5 (xz (kk key.data.toList) 54 i) (xz (kk key.data.toList) 92 i))) (fun x _ => 64 - (intOf x).toNat)
      case atStart => exact ⟨0, by omega, rfl, hq⟩
      case round =>
        clear hq
        obtain ⟨i, hi, rfl, hM⟩ := hrel
        by_cases h64 : i < 64
        · have z0 : (i : Int) < 64 := by omega
          have c1 := Row.cell hM.out.ri h64
          have c2 := Row.cell hM.out.ro h64
          rw [xz_hi _ _ _ _ (Nat.le_refl _)] at c1 c2
          unfold zb at c1 c2
          have f1 := Row.frozen hM.out.ri i
          have f2 := Row.frozen hM.out.ro i
          have HX := Lib.hid (And.intro (xor54 ((kk key.data.toList).getD i 0)) (xor92 ((kk key.data.toList).getD i 0)))
          have hfin : Hid (MB w ((wr.setCell ⟨I, i, none⟩ (.int .u8 (((((kk key.data.toList).getD i 0) ^^^ 54).toNat : Nat) : Int))).setCell ⟨O, i, none⟩ (.int .u8 (((((kk key.data.toList).getD i 0) ^^^ 92).toNat : Nat) : Int))) I O 5 (xz (kk key.data.toList) 54 (i + 1)) (xz (kk key.data.toList) 92 (i + 1))) := by
            have r1 := Row.set hM.out.ri (i := i) h64 (.int .u8 (((((kk key.data.toList).getD i 0) ^^^ 54).toNat : Nat) : Int))
            rw [xz_step] at r1
            exact ⟨Row.far r1 hIO _, Row.set (Row.far hM.out.ro hOI _) h64 _ |>.congr (fun j hj => by rw [xz_step]), Row.far (Row.far hM.out.r0 hne1 _) hne2 _, (hM.out.bel.setCell hle1 _).setCell hle2 _⟩
          by_cases hks : i < K.size
          · have hy : Hid ((kk key.data.toList).getD i 0 = K[i]) := by
              show (kk key.data.toList).getD i 0 = K[i]
              rw [← hKK.out, List.getD_eq_getElem?_getD, List.getElem?_eq_getElem (by simpa using hks)]; rfl
            go_wp2_with fail
            refine ⟨⟨i + 1, by omega, by go_num, ?_⟩, by simp [intOf]; omega⟩
            have h1 := HX.out
            rw [hy.out] at h1 hfin
            rw [h1.1, h1.2]
            exact hfin
          · have hy : Hid ((kk key.data.toList).getD i 0 = 0) := by
              show (kk key.data.toList).getD i 0 = 0
              rw [← hKK.out, List.getD_eq_getElem?_getD, List.getElem?_eq_none (by rw [← size_eq]; omega)]; rfl
            go_wp2_with fail
            refine ⟨⟨i + 1, by omega, by go_num, ?_⟩, by simp [intOf]; omega⟩
            have h1 := HX.out
            rw [hy.out] at h1 hfin
            rw [show bits BinOp.xor IntKind.u8 0 54 = ((((0 : UInt8) ^^^ 54).toNat : Nat) : Int) from h1.1, show bits BinOp.xor IntKind.u8 0 92 = ((((0 : UInt8) ^^^ 92).toNat : Nat) : Int) from h1.2]
            exact hfin
        · have z0 : ¬ (i : Int) < 64 := by omega
          have hp1 := padz_str (c := 64) (show 64 ≤ i by omega) hM.out.ri
          have hl1 : ¬ 9223372036854775807 < (pad (kk key.data.toList) 54).length + s.size := by rw [pad_len]; omega
          go_wp2_with fail
          obtain ⟨S, hS⟩ : ∃ S : ByteArray, S = ({ data := (pad (kk key.data.toList) 54).toArray } ++ s : ByteArray) := ⟨_, rfl⟩
          have HSd : Hid (S.data.toList = pad (kk key.data.toList) 54 ++ s.data.toList) := by rw [hS]; exact cat_list _ _
          have hSz : S.size ≤ 1073741824 := by rw [size_eq, HSd.out, List.length_append, pad_len, ← size_eq]; omega
          rw [← hS]
          clear hS hp1 hl1
          refine (rsum_any S wr hSz).mono ?_
          rintro e w1 ⟨rfl, hb1⟩
          rw [HSd.out]
          have hlO := hM.out.ro.lt
          have ro1 := Lib.hid ((hM.out.ro.below hb1 hlO).alloc (.cells (arr 32 (b8 (sumD (pad (kk key.data.toList) 54 ++ s.data.toList)))) 26))
          have r01 := Lib.hid ((hM.out.r0.below hb1 hM.out.r0.lt).alloc (.cells (arr 32 (b8 (sumD (pad (kk key.data.toList) 54 ++ s.data.toList)))) 26))
          have rd1 : Hid (Row (w1.alloc (.cells (arr 32 (b8 (sumD (pad (kk key.data.toList) 54 ++ s.data.toList)))) 26)) w1.heap.size 26 32 (b8 (sumD (pad (kk key.data.toList) 54 ++ s.data.toList)))) := Row.ofList w1 26 _ _ 32 rfl
          have bb1 : Below w.heap.size w w1 := hM.out.bel.trans (hb1.mono hM.out.bel.size)
          have bb2 := bb1.alloc bb1.size (.cells (arr 32 (b8 (sumD (pad (kk key.data.toList) 54 ++ s.data.toList)))) 26)
          clear hb1 bb1
          go_wp2_with fail
          generalize w1.alloc (.cells (arr 32 (b8 (sumD (pad (kk key.data.toList) 54 ++ s.data.toList)))) 26) = W1 at ro1 r01 rd1 bb2 ⊢
          have hp2 := padz_str (c := 64) (show 64 ≤ i by omega) ro1.out.drew
          have hp3 := dig_str (sumD_byt _) rd1.out.drew
          have hl2 : ¬ 9223372036854775807 < (pad (kk key.data.toList) 92).length + (dl (sumD (pad (kk key.data.toList) 54 ++ s.data.toList))).length := by rw [pad_len, dl_len]; omega
          go_still_tail 5, (by kernel_rfl)
          change wpList _ _ _ _ _ W1.drew
          obtain ⟨S2, hS2⟩ : ∃ S2 : ByteArray, S2 = ({ data := (pad (kk key.data.toList) 92).toArray } ++ { data := (dl (sumD (pad (kk key.data.toList) 54 ++ s.data.toList))).toArray } : ByteArray) := ⟨_, rfl⟩
          have HSd2 : Hid (S2.data.toList = pad (kk key.data.toList) 92 ++ dl (sumD (pad (kk key.data.toList) 54 ++ s.data.toList))) := by rw [hS2]; exact cat_list _ _
          have hSz2 : S2.size ≤ 1073741824 := by rw [size_eq, HSd2.out, List.length_append, pad_len, dl_len]; omega
          rw [← hS2]
          clear hS2 hp2 hp3 hl2
          go_wp2_with fail
          refine (rsum_any S2 W1.drew hSz2).mono ?_
          rintro e w2 ⟨rfl, hb2⟩
          rw [HSd2.out]
          have r02 := Lib.hid (r01.out.drew.below hb2 r01.out.lt)
          have bb3 : Below w.heap.size w w2 := bb2.drew.trans (hb2.mono bb2.size)
          have hst : stN 32 w2 (.pointer (some ⟨w.heap.size, 0, none⟩)) (.agg (arr 32 (b8 (sumD (pad (kk key.data.toList) 92 ++ dl (sumD (pad (kk key.data.toList) 54 ++ s.data.toList))))))) = some (w.heap.size, 0, arr 32 (b8 (sumD (pad (kk key.data.toList) 92 ++ dl (sumD (pad (kk key.data.toList) 54 ++ s.data.toList)))))) := stN_of (by simp [arr]) r02.out.there (all_one _ _ (fun _ => rfl))
          have hrow := Lib.hid (Row.setWhole (u := b8 (macD key.data.toList s.data.toList)) r02.out)
          clear hb2
          go_wp2_with fail
          exact bodyPost_ret (v := .agg (arr 32 (b8 (macD key.data.toList s.data.toList)))) (results_cell_row rfl _ _ w.heap.size 26 (arr 32 (b8 (macD key.data.toList s.data.toList))) (0, 0) _ rfl hrow.out.arr Tryd.underlying26 rfl (by kernel_rfl)) rfl ⟨rfl, Below.setAll (Nat.le_refl _) _ _ _ bb3⟩
end Go.Proofs.YtndbbbkdpjkljaaDoor
