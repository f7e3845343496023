/- MAC: what it computes, in the program and in the reference. Condition: sizes. -/
import Derived.Test.YtndbbbkdpjkljaaDoorJ
import Derived.Lib.LazyBuf
namespace Go.Proofs.YtndbbbkdpjkljaaDoor
open Go.RowKit
attribute [local go_sem ↓] alloc26 alloc63 alloc68 alloc77 load63n store63n load77n store77n load26n store26n
attribute [local go_sem] stN_uc stN_b8 set_new fold_drew ldN_drew ldN_drewN stN_drew stN_drewN

/-- The key that is used. -/
def kk (l : List UInt8) : List UInt8 := if 64 < l.length then dl (sumD l) else l
theorem kk_len (l : List UInt8) : (kk l).length ≤ 64 := by
  unfold kk; split
  · rw [dl_len]; omega
  · omega
/-- The key, filled up and mixed with a byte. -/
def pad (l : List UInt8) (x : UInt8) : List UInt8 := (List.range 64).map fun i => l.getD i 0 ^^^ x
theorem pad_len (l : List UInt8) (x : UInt8) : (pad l x).length = 64 := by simp [pad]
def macD (key s : List UInt8) : Nat → Int := sumD (pad (kk key) 92 ++ dl (sumD (pad (kk key) 54 ++ s)))
/-- The cells of the key, the first n mixed. -/
def xr (l : List UInt8) (x : UInt8) (n i : Nat) : Value := if i < n then .int .u8 (((l.getD i 0 ^^^ x).toNat : Nat) : Int) else .int .u8 (((l.getD i 0).toNat : Nat) : Int)
theorem xr_hi (l : List UInt8) (x : UInt8) (n i : Nat) (h : n ≤ i) : xr l x n i = .int .u8 (((l.getD i 0).toNat : Nat) : Int) := if_neg (by omega)
theorem xr_lo (l : List UInt8) (x : UInt8) (n i : Nat) (h : i < n) : xr l x n i = .int .u8 (((l.getD i 0 ^^^ x).toNat : Nat) : Int) := if_pos h
theorem xr_step (l : List UInt8) (x : UInt8) (n : Nat) : upd (xr l x n) n (.int .u8 (((l.getD n 0 ^^^ x).toNat : Nat) : Int)) = xr l x (n + 1) := by
  funext q
  by_cases e : q = n
  · subst e; rw [upd_hit, xr_lo _ _ _ _ (by omega)]
  · rw [upd_miss _ _ e]
    by_cases h : q < n
    · rw [xr_lo _ _ _ _ h, xr_lo _ _ _ _ (by omega)]
    · rw [xr_hi _ _ _ _ (by omega), xr_hi _ _ _ _ (by omega)]
theorem xor54 (b : UInt8) : bits BinOp.xor IntKind.u8 ((b.toNat : Nat) : Int) 54 = (((b ^^^ 54).toNat : Nat) : Int) := by
  rw [show (54 : Int) = ((54 : Nat) : Int) from rfl, u8_xor_nat _ _ b.toNat_lt (by omega), UInt8.toNat_xor]; rfl
theorem xor92 (b : UInt8) : bits BinOp.xor IntKind.u8 ((b.toNat : Nat) : Int) 92 = (((b ^^^ 92).toNat : Nat) : Int) := by
  rw [show (92 : Int) = ((92 : Nat) : Int) from rfl, u8_xor_nat _ _ b.toNat_lt (by omega), UInt8.toNat_xor]; rfl
theorem copied {w : World} {B t : Nat} {l : List UInt8} (x : UInt8) (h : Row w B t 64 zb) (hl : l.length ≤ 64) : Row (w.setCells B 0 (byv l)) B t 64 (xr l x 0) := by
  refine Row.congr (Row.setAll (byv l) 0 w _ h (by unfold byv; simp; omega)) fun i hi => ?_
  rw [xr_hi _ _ _ _ (Nat.zero_le _)]
  have hb : (byv l).length = l.length := by simp [byv]
  rw [hb]
  by_cases e : i < l.length
  · rw [if_pos (by omega)]
    simp [byv, e]
  · rw [if_neg (by omega)]
    simp [zb, show l.length ≤ i by omega]
/-- The bytes of a block as a string. -/
theorem row_str {W : World} {B t N c : Nat} {v : Nat → Value} (l : List UInt8) (hl : l.length = N) (hv : ∀ i, i < N → v i = .int .u8 (((l.getD i 0).toNat : Nat) : Int)) (h : Row W B t N v) : (convert 23 9 (.slice (some ⟨B, 0, none⟩) N c)).run Tryd.prog W = .ok (.string ⟨l.toArray⟩) W := by
  have := run_convert_bytes_back (P := Tryd.prog) W 23 9 5 ⟨B, 0, none⟩ c l Tryd.underlying23 Tryd.underlying5 Tryd.underlying9 (fun j hj => by
    rw [Addr.add_mid, Nat.zero_add, Row.cell h (by omega), hv j (by omega)]
    simp [hj])
  rw [hl] at this
  exact this
theorem pad_at (l : List UInt8) (x : UInt8) (i : Nat) (h : i < 64) : (pad l x).getD i 0 = l.getD i 0 ^^^ x := by simp [pad, h]
theorem pad_str {W : World} {B t c : Nat} {l : List UInt8} {x : UInt8} {n : Nat} (hn : 64 ≤ n) (h : Row W B t 64 (xr l x n)) : (convert 23 9 (.slice (some ⟨B, 0, none⟩) 64 c)).run Tryd.prog W = .ok (.string ⟨(pad l x).toArray⟩) W :=
  row_str (pad l x) (pad_len l x) (fun i hi => by rw [xr_lo _ _ _ _ (by omega), pad_at _ _ _ hi]) h
structure MB (w wx : World) (I O t : Nat) (fi fo : Nat → Value) : Prop where
  ri : Row wx I t 64 fi
  ro : Row wx O t 64 fo
  r0 : Row wx w.heap.size 26 32 zb
  bel : Below w.heap.size w wx
theorem cat_list (a b : ByteArray) : (a ++ b).data.toList = a.data.toList ++ b.data.toList := by
  show (ByteArray.append _ _).data.toList = _
  simp [ByteArray.append]

set_option maxRecDepth 100000 in
set_option maxHeartbeats 4000000 in
theorem mac_any (key s : ByteArray) (w : World) (hk : key.size ≤ 1073741824) (hs : s.size ≤ 1073741760) (hr : Rnd w) (h0 : 0 < w.heap.size) :
    Calls Tryd.prog 17 #[.string key, .string s] w fun e w' => e = .returned (.agg (arr 32 (b8 (macD key.data.toList s.data.toList)))) ∧ Below w.heap.size w w' := by
  have HR := Lib.hid hr
  clear hr
  have a1 : Row (w.alloc (.cells (arr 32 zb) 26)) w.heap.size 26 32 zb := Row.ofList w 26 _ _ 32 rfl
  have A1 := Lib.hid a1
  have hB1 : Below w.heap.size w (w.alloc (.cells (arr 32 zb) 26)) := (Below.refl _ _).alloc (Nat.le_refl _) _
  clear a1
  go_enter Tryd.func17, Tryd.ntmps17
  go_upto_if 12 with fail
  go_cut [0] (fun k wx => ∃ K : ByteArray, k = .string K ∧ K.size ≤ 64 ∧ Hid (K.data.toList = kk key.data.toList) ∧ Hid (Row wx w.heap.size 26 32 zb) ∧ Below w.heap.size w wx)
  case first =>
    by_cases h64 : 64 < key.size
    · go_wp2_with fail
      refine (sum_any key _ hk (by exact HR.out.below hB1 h0) (by simp)).mono ?_
      rintro e w1 ⟨rfl, hb⟩
      have c1 := dig_str (sumD_byt key.data.toList) (Row.ofList w1 26 (arr 32 (b8 (sumD key.data.toList))) _ 32 rfl)
      go_wp2_with fail
      go_meet
      refine ⟨⟨(dl (sumD key.data.toList)).toArray⟩, rfl, ?_, ?_, (A1.out.below hb (by simp)).alloc _, (hB1.trans (hb.mono (by simp))).alloc (by have := hb.size; simp at this; omega) _⟩
      · rw [size_eq]; simp [dl_len]
      · show dl (sumD key.data.toList) = kk key.data.toList
        unfold kk; rw [if_pos (by rw [← size_eq]; exact h64)]
    · go_wp2_with fail
      go_meet
      refine ⟨key, rfl, by omega, ?_, A1, hB1⟩
      show key.data.toList = kk key.data.toList
      unfold kk; rw [if_neg (by rw [← size_eq]; exact h64)]
  case rest =>
    clear A1 hB1
    obtain ⟨K, rfl, hK, hKK, h26, hbw⟩ := hcut
    have hKl : (kk key.data.toList).length ≤ 64 := kk_len _
    have q1 : Hid (MB w ((wc.alloc (.cells (arr 64 zb) 68)).alloc (.cells (arr 64 zb) 68)) wc.heap.size (wc.heap.size + 1) 68 zb zb) := ⟨(Row.ofList wc 68 _ _ 64 rfl).alloc _, Row.ofListAt _ _ 68 (by simp) _ _ 64 rfl, (h26.out.alloc _).alloc _, (hbw.alloc hbw.size _).alloc (by have := hbw.size; simp; omega) _⟩
    have hI : w.heap.size < wc.heap.size := h26.out.lt
    have hcp : (Builtin.copy_ #[23, 9] 3 #[.slice (some ⟨wc.heap.size, 0, none⟩) 64 64, .string K]).run Tryd.prog ((wc.alloc (.cells (arr 64 zb) 68)).alloc (.cells (arr 64 zb) 68)) = .ok (goInt K.size) (((wc.alloc (.cells (arr 64 zb) 68)).alloc (.cells (arr 64 zb) 68)).setCells wc.heap.size 0 (byv K.data.toList)) := Go.run_copy_string (P := Tryd.prog) ((wc.alloc (.cells (arr 64 zb) 68)).alloc (.cells (arr 64 zb) 68)) 23 9 3 5 wc.heap.size 0 64 64 K Tryd.underlying23 (fun _ => by kernel_rfl) hK (fun j hj => by rw [Nat.zero_add, Row.cell q1.out.ri (by omega)]; rfl) (fun j hj => Row.frozen q1.out.ri _)
    have q2 : Hid (MB w (((wc.alloc (.cells (arr 64 zb) 68)).alloc (.cells (arr 64 zb) 68)).setCells wc.heap.size 0 (byv K.data.toList)) wc.heap.size (wc.heap.size + 1) 68 (xr (kk key.data.toList) 54 0) zb) := by
      rw [hKK.out]
      exact ⟨copied 54 q1.out.ri hKl, Row.farAll (by omega) _ _ _ q1.out.ro, Row.farAll (by omega) _ _ _ q1.out.r0, Below.setAll (by omega) _ _ _ q1.out.bel⟩
    have hcp2 : (Builtin.copy_ #[23, 9] 3 #[.slice (some ⟨wc.heap.size + 1, 0, none⟩) 64 64, .string K]).run Tryd.prog (((wc.alloc (.cells (arr 64 zb) 68)).alloc (.cells (arr 64 zb) 68)).setCells wc.heap.size 0 (byv K.data.toList)) = .ok (goInt K.size) ((((wc.alloc (.cells (arr 64 zb) 68)).alloc (.cells (arr 64 zb) 68)).setCells wc.heap.size 0 (byv K.data.toList)).setCells (wc.heap.size + 1) 0 (byv K.data.toList)) := Go.run_copy_string (P := Tryd.prog) (((wc.alloc (.cells (arr 64 zb) 68)).alloc (.cells (arr 64 zb) 68)).setCells wc.heap.size 0 (byv K.data.toList)) 23 9 3 5 (wc.heap.size + 1) 0 64 64 K Tryd.underlying23 (fun _ => by kernel_rfl) hK (fun j hj => by rw [Nat.zero_add, Row.cell q2.out.ro (by omega)]; rfl) (fun j hj => Row.frozen q2.out.ro _)
    have q3 : Hid (MB w ((((wc.alloc (.cells (arr 64 zb) 68)).alloc (.cells (arr 64 zb) 68)).setCells wc.heap.size 0 (byv K.data.toList)).setCells (wc.heap.size + 1) 0 (byv K.data.toList)) wc.heap.size (wc.heap.size + 1) 68 (xr (kk key.data.toList) 54 0) (xr (kk key.data.toList) 92 0)) := by
      rw [hKK.out] at q2 ⊢
      exact ⟨Row.farAll (by omega) _ _ _ q2.out.ri, copied 92 q2.out.ro hKl, Row.farAll (by omega) _ _ _ q2.out.r0, Below.setAll (by omega) _ _ _ q2.out.bel⟩
    clear q1 q2
    go_wp2_with fail
    clear hcp hcp2
    have hle1 : w.heap.size ≤ wc.heap.size := by omega
    have hle2 : w.heap.size ≤ wc.heap.size + 1 := by omega
    have hne0 : wc.heap.size ≠ wc.heap.size + 1 := by omega
    have hne0' : wc.heap.size + 1 ≠ wc.heap.size := by omega
    have hne1 : w.heap.size ≠ wc.heap.size := by omega
    have hne2 : w.heap.size ≠ wc.heap.size + 1 := by omega
    generalize ((((wc.alloc (.cells (arr 64 zb) 68)).alloc (.cells (arr 64 zb) 68)).setCells wc.heap.size 0 (byv K.data.toList)).setCells (wc.heap.size + 1) 0 (byv K.data.toList)) = W0 at q3 ⊢
    go_loopw [23] (fun x wr => ∃ i : Nat, i ≤ 64 ∧ x = .int .i64 i ∧ Hid (MB w wr wc.heap.size (wc.heap.size + 1) 68 (xr (kk key.data.toList) 54 i) (xr (kk key.data.toList) 92 i))) (fun x _ => 64 - (intOf x).toNat)
    case atStart => exact ⟨0, by omega, rfl, q3⟩
    case round =>
      clear q3
      obtain ⟨i, hi, rfl, hM⟩ := hrel
      by_cases h64 : i < 64
      · have z0 : (i : Int) < 64 := by omega
        have c1 := Row.cell hM.out.ri h64
        have c2 := Row.cell hM.out.ro h64
        rw [xr_hi _ _ _ _ (Nat.le_refl _)] at c1 c2
        have f1 := Row.frozen hM.out.ri i
        have f2 := Row.frozen hM.out.ro i
        have HX := Lib.hid (And.intro (xor54 ((kk key.data.toList).getD i 0)) (xor92 ((kk key.data.toList).getD i 0)))
        have hb0 := ((kk key.data.toList).getD i 0).toNat_lt
        generalize hy : ((kk key.data.toList).getD i 0).toNat = y at c1 c2 HX hb0
        have HY := Lib.hid hy
        clear hy
        go_wp2_with fail
        refine ⟨⟨i + 1, by omega, by go_num, ?_⟩, by simp [intOf]; omega⟩
        rw [HX.out.1, HX.out.2]
        have r1 := Row.set hM.out.ri (i := i) h64 (.int .u8 (((((kk key.data.toList).getD i 0) ^^^ 54).toNat : Nat) : Int))
        have r2 := Row.set hM.out.ro (i := i) h64 (.int .u8 (((((kk key.data.toList).getD i 0) ^^^ 92).toNat : Nat) : Int))
        rw [xr_step] at r1 r2
        exact ⟨Row.far r1 hne0 _, Row.set (Row.far hM.out.ro hne0' _) h64 _ |>.congr (fun j hj => by rw [xr_step]), Row.far (Row.far hM.out.r0 hne1 _) hne2 _, (hM.out.bel.setCell hle1 _).setCell hle2 _⟩
      · have z0 : ¬ (i : Int) < 64 := by omega
        have hp1 := pad_str (c := 64) (show 64 ≤ i by omega) hM.out.ri
        have hl1 : ¬ 9223372036854775807 < (pad (kk key.data.toList) 54).length + s.size := by rw [pad_len]; omega
        go_wp2_with fail
        obtain ⟨S, hS⟩ : ∃ S : ByteArray, S = ({ data := (pad (kk key.data.toList) 54).toArray } ++ s : ByteArray) := ⟨_, rfl⟩
        have HSd : Hid (S.data.toList = pad (kk key.data.toList) 54 ++ s.data.toList) := by rw [hS]; exact cat_list _ _
        have hSz : S.size ≤ 1073741824 := by rw [size_eq, HSd.out, List.length_append, pad_len, ← size_eq]; omega
        rw [← hS]
        clear hS hp1 hl1
        refine (sum_any S wr hSz (HR.out.below hM.out.bel h0) (by have := hM.out.bel.size; omega)).mono ?_
        rintro e w1 ⟨rfl, hb1⟩
        rw [HSd.out]
        have hlO := hM.out.ro.lt
        have ro1 := Lib.hid ((hM.out.ro.below hb1 hlO).alloc (.cells (arr 32 (b8 (sumD (pad (kk key.data.toList) 54 ++ s.data.toList)))) 26))
        have r01 := Lib.hid ((hM.out.r0.below hb1 hM.out.r0.lt).alloc (.cells (arr 32 (b8 (sumD (pad (kk key.data.toList) 54 ++ s.data.toList)))) 26))
        have rd1 : Hid (Row (w1.alloc (.cells (arr 32 (b8 (sumD (pad (kk key.data.toList) 54 ++ s.data.toList)))) 26)) w1.heap.size 26 32 (b8 (sumD (pad (kk key.data.toList) 54 ++ s.data.toList)))) := Row.ofList w1 26 _ _ 32 rfl
        have bb1 : Below w.heap.size w w1 := hM.out.bel.trans (hb1.mono hM.out.bel.size)
        have bb2 := bb1.alloc bb1.size (.cells (arr 32 (b8 (sumD (pad (kk key.data.toList) 54 ++ s.data.toList)))) 26)
        clear hb1 bb1
        go_wp2_with fail
        generalize w1.alloc (.cells (arr 32 (b8 (sumD (pad (kk key.data.toList) 54 ++ s.data.toList)))) 26) = W1 at ro1 r01 rd1 bb2 ⊢
        have hp2 := pad_str (c := 64) (show 64 ≤ i by omega) ro1.out.drew
        have hp3 := dig_str (sumD_byt _) rd1.out.drew
        have hl2 : ¬ 9223372036854775807 < (pad (kk key.data.toList) 92).length + (dl (sumD (pad (kk key.data.toList) 54 ++ s.data.toList))).length := by rw [pad_len, dl_len]; omega
        go_still_tail 5, (by kernel_rfl)
        change wpList _ _ _ _ _ W1.drew
        obtain ⟨S2, hS2⟩ : ∃ S2 : ByteArray, S2 = ({ data := (pad (kk key.data.toList) 92).toArray } ++ { data := (dl (sumD (pad (kk key.data.toList) 54 ++ s.data.toList))).toArray } : ByteArray) := ⟨_, rfl⟩
        have HSd2 : Hid (S2.data.toList = pad (kk key.data.toList) 92 ++ dl (sumD (pad (kk key.data.toList) 54 ++ s.data.toList))) := by rw [hS2]; exact cat_list _ _
        have hSz2 : S2.size ≤ 1073741824 := by rw [size_eq, HSd2.out, List.length_append, pad_len, dl_len]; omega
        rw [← hS2]
        clear hS2 hp2 hp3 hl2
        go_wp2_with fail
        refine (sum_any S2 W1.drew hSz2 (HR.out.below bb2.drew h0) (by have := bb2.size; show 0 < W1.heap.size; omega)).mono ?_
        rintro e w2 ⟨rfl, hb2⟩
        rw [HSd2.out]
        have r02 := Lib.hid (r01.out.drew.below hb2 r01.out.lt)
        have bb3 : Below w.heap.size w w2 := bb2.drew.trans (hb2.mono bb2.size)
        have hst : stN 32 w2 (.pointer (some ⟨w.heap.size, 0, none⟩)) (.agg (arr 32 (b8 (sumD (pad (kk key.data.toList) 92 ++ dl (sumD (pad (kk key.data.toList) 54 ++ s.data.toList))))))) = some (w.heap.size, 0, arr 32 (b8 (sumD (pad (kk key.data.toList) 92 ++ dl (sumD (pad (kk key.data.toList) 54 ++ s.data.toList)))))) := stN_of (by simp [arr]) r02.out.there (all_one _ _ (fun _ => rfl))
        have hrow := Lib.hid (Row.setWhole (u := b8 (macD key.data.toList s.data.toList)) r02.out)
        clear hb2
        go_wp2_with fail
        exact bodyPost_ret (v := .agg (arr 32 (b8 (macD key.data.toList s.data.toList)))) (results_cell_row rfl _ _ w.heap.size 26 (arr 32 (b8 (macD key.data.toList s.data.toList))) (0, 0) _ rfl hrow.out.arr Tryd.underlying26 rfl (by kernel_rfl)) rfl ⟨rfl, Below.setAll (Nat.le_refl _) _ _ _ bb3⟩
end Go.Proofs.YtndbbbkdpjkljaaDoor
