/- Quote in the reference and in the program. -/
import Derived.Test.YtndbbbkdpjkljaaDoorAB
namespace Go.Proofs.YtndbbbkdpjkljaaDoor
open Go.RowKit
attribute [local go_sem ↓] build26 alloc26 load26n store26n alloc45 load45n store45n
attribute [local go_sem] stN_uc stN_b8 set_new fold_drew ldN_drew ldN_drewN stN_drew stN_drewN stN_ev set_ev stN_b8c set_newc

def qb (Ds : List (Nat → Int)) : List UInt8 := Ds.flatMap dl
theorem qb_len (Ds : List (Nat → Int)) : (qb Ds).length = Ds.length * 32 := by
  induction Ds with
  | nil => rfl
  | cons D t ih => show (dl D ++ qb t).length = _; rw [List.length_append, ih, dl_len, List.length_cons]; omega
theorem qb_succ (Ds : List (Nat → Int)) (i : Nat) (D : Nat → Int) (h : Ds[i]? = some D) : qb (Ds.take (i + 1)) = qb (Ds.take i) ++ dl D := by
  have hi := (List.getElem?_eq_some_iff.1 h).1
  have e : Ds[i] = D := (List.getElem?_eq_some_iff.1 h).2
  rw [List.take_succ_eq_append_getElem hi, e]
  simp [qb]
def quoD (key : ByteArray) (Ds : List (Nat → Int)) (nonce : ByteArray) : Nat → Int := macD key.data.toList (qb Ds ++ nonce.data.toList)

set_option maxRecDepth 100000 in
set_option maxHeartbeats 1000000 in
theorem rquote_no (key nonce : ByteArray) (v : Value) (Ds : List (Nat → Int)) (w : World) (h : RdD w v Ds) (hn : Ds.length ≠ 8) : Calls Tryd.prog 33 #[.string key, v, .string nonce] w fun e w' => e = .returned (.tuple #[.agg (arr 32 (b8 zD)), .int .i64 1]) ∧ Below w.heap.size w w' := by
  obtain ⟨a, c, rfl, _⟩ := h
  have hrow : Hid (Row (w.alloc (.cells (arr 32 (b8 zD)) 26)) w.heap.size 26 32 (b8 zD)) := Row.ofList w 26 _ _ 32 rfl
  have d1 : ((Ds.length : Int) != 8) = true := by simp; omega
  have d2 : ((Ds.length : Int) == 8) = false := by simp; omega
  generalize Ds.length = n at *
  go_enter Tryd.func33, Tryd.ntmps33
  go_wp2_with fail
  exact bodyPost_ret (v := .tuple #[.agg (arr 32 (b8 zD)), .int .i64 1]) (res2 rfl _ _ w.heap.size (arr 32 (b8 zD)) (.int .i64 1) rfl rfl (run_loadVar_row _ _ 26 26 _ (0, 0) _ hrow.out.arr Tryd.underlying26 rfl (by kernel_rfl))) rfl ⟨rfl, (Below.refl _ _).alloc (Nat.le_refl _) _⟩
set_option maxRecDepth 100000 in
set_option maxHeartbeats 1000000 in
theorem quote_no (key nonce : ByteArray) (v : Value) (Ds : List (Nat → Int)) (w : World) (h : RdD w v Ds) (hn : Ds.length ≠ 8) : Calls Tryd.prog 36 #[.string key, v, .string nonce] w fun e w' => e = .returned (.tuple #[.agg (arr 32 (b8 zD)), .int .i64 1]) ∧ Below w.heap.size w w' := by
  obtain ⟨a, c, rfl, _⟩ := h
  have hrow : Hid (Row (w.alloc (.cells (arr 32 (b8 zD)) 26)) w.heap.size 26 32 (b8 zD)) := Row.ofList w 26 _ _ 32 rfl
  have d1 : ((Ds.length : Int) != 8) = true := by simp; omega
  have d2 : ((Ds.length : Int) == 8) = false := by simp; omega
  generalize Ds.length = n at *
  go_enter Tryd.func36, Tryd.ntmps36
  go_wp2_with fail
  exact bodyPost_ret (v := .tuple #[.agg (arr 32 (b8 zD)), .int .i64 1]) (res2 rfl _ _ w.heap.size (arr 32 (b8 zD)) (.int .i64 1) rfl rfl (run_loadVar_row _ _ 26 26 _ (0, 0) _ hrow.out.arr Tryd.underlying26 rfl (by kernel_rfl))) rfl ⟨rfl, (Below.refl _ _).alloc (Nat.le_refl _) _⟩
set_option maxRecDepth 100000 in
set_option maxHeartbeats 2000000 in
theorem rquote_yes (key nonce : ByteArray) (v : Value) (Ds : List (Nat → Int)) (w : World) (h : RdD w v Ds) (hby : ∀ D ∈ Ds, Byt D) (hn : Ds.length = 8) (hk : key.size ≤ 1000) (hs : nonce.size ≤ 1000) : Calls Tryd.prog 33 #[.string key, v, .string nonce] w fun e w' => e = .returned (.tuple #[.agg (arr 32 (b8 (quoD key Ds nonce))), .int .i64 0]) ∧ Below w.heap.size w w' := by
  obtain ⟨M, hM⟩ : ∃ M : Nat → Int, quoD key Ds nonce = M := ⟨_, rfl⟩
  rw [hM]
  have HM := Lib.hid hM
  clear hM
  obtain ⟨a, c, rfl, hr⟩ := h
  obtain ⟨b, o, rfl, hbl, hrg⟩ := hr (by intro h; subst h; simp at hn)
  have HRg : Hid (∀ i D, Ds[i]? = some D → (w.alloc (.cells (arr 32 zb) 26)).rangeAt b (o + i * 32) (arr 32 (b8 D)).toList) := fun i D hD => World.rangeAt_alloc (hrg i D hD) _
  have a1 : Hid (Row (w.alloc (.cells (arr 32 zb) 26)) w.heap.size 26 32 zb) := Row.ofList w 26 _ _ 32 rfl
  have b1 : Hid (Below w.heap.size w (w.alloc (.cells (arr 32 zb) 26))) := (Below.refl _ _).alloc (Nat.le_refl _) _
  have HBY := Lib.hid hby
  have HN := Lib.hid hn
  rw [hn]
  clear hr hrg hby hn
  go_enter Tryd.func33, Tryd.ntmps33
  go_wp2_with fail
  generalize w.alloc (.cells (arr 32 zb) 26) = W at HRg a1 b1 ⊢
  go_loopw [8, 9] (fun x y wr => ∃ (i : Nat) (s : ByteArray), i ≤ 8 ∧ y = .int .i64 i ∧ x = .string s ∧ Hid (s.data.toList = qb (Ds.take i)) ∧ wr = W) (fun _ y _ => 8 - (intOf y).toNat)
  case atStart => exact ⟨0, _, by omega, rfl, rfl, rfl, rfl⟩
  case round =>
    obtain ⟨i, s, hi, rfl, rfl, hq, rfl⟩ := hrel
    by_cases hlt : i < 8
    · have z0 : (i : Int) < 8 := by omega
      obtain ⟨D, hD⟩ : ∃ D, Ds[i]? = some D := ⟨_, List.getElem?_eq_getElem (by have := HN.out; omega)⟩
      have cv := rng_str (c := 32) (HBY.out D (List.mem_of_getElem? hD)) (HRg.out i D hD)
      have hsz : s.size = i * 32 := by
        rw [size_eq, hq.out, qb_len, List.length_take]; have := HN.out; omega
      have hln : ¬ 9223372036854775807 < s.size + (dl D).length := by rw [dl_len]; omega
      have HQ2 : Hid ((s ++ ⟨(dl D).toArray⟩ : ByteArray).data.toList = qb (Ds.take (i + 1))) := by
        show (s ++ ⟨(dl D).toArray⟩ : ByteArray).data.toList = _
        rw [qb_succ Ds i D hD, ← hq.out]
        simp
      clear hD
      go_wp2_with fail
      exact ⟨⟨i + 1, _, by omega, by go_num, rfl, HQ2, trivial⟩, by simp [intOf]; omega⟩
    · have z0 : ¬ (i : Int) < 8 := by omega
      have hsz : s.size = 256 := by
        rw [size_eq, hq.out, qb_len, List.length_take]; have := HN.out; omega
      have hln : ¬ 9223372036854775807 < s.size + nonce.size := by omega
      have HS : Hid (macD key.data.toList (s ++ nonce).data.toList = M) := by
        show macD key.data.toList (s ++ nonce).data.toList = M
        rw [← HM.out]
        unfold quoD
        have : (s ++ nonce).data.toList = s.data.toList ++ nonce.data.toList := by simp
        rw [this, hq.out, List.take_of_length_le (by have := HN.out; omega)]
      have hs2 : (s ++ nonce).size ≤ 1073741760 := by rw [ByteArray.size_append]; omega
      go_wp2_with fail
      refine (rmac_is key (s ++ nonce) wr M HS (by omega) hs2).mono ?_
      rintro e w1 ⟨rfl, hb⟩
      have a2 := Lib.hid (Row.below a1.out hb a1.out.lt)
      have B2 := Lib.hid (bss b1.out hb)
      have hst : stN 32 w1 (.pointer (some ⟨w.heap.size, 0, none⟩)) (.agg (arr 32 (b8 M))) = some (w.heap.size, 0, arr 32 (b8 M)) := stN_of (by simp [arr]) (Row.there a2.out) (all_one _ _ (fun _ => rfl))
      have hrow := Lib.hid (Row.setWhole (u := b8 M) a2.out)
      have B3 : Hid (Below w.heap.size w (w1.setCells w.heap.size 0 (arr 32 (b8 M)).toList)) := Below.setAll (Nat.le_refl _) _ _ _ B2.out
      clear hb
      go_wp2_with fail
      exact bodyPost_ret (v := .tuple #[.agg (arr 32 (b8 M)), .int .i64 0]) (res2 rfl _ _ w.heap.size (arr 32 (b8 M)) (.int .i64 0) rfl rfl (run_loadVar_row _ _ 26 26 _ (0, 0) _ hrow.out.arr Tryd.underlying26 rfl (by kernel_rfl))) rfl ⟨rfl, B3.out⟩
end Go.Proofs.YtndbbbkdpjkljaaDoor
