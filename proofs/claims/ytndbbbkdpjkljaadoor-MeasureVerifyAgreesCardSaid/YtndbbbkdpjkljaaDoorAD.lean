/- Quote in the program, with eight digests. -/
import Derived.Test.YtndbbbkdpjkljaaDoorAC
namespace Go.Proofs.YtndbbbkdpjkljaaDoor
open Go.RowKit
attribute [local go_sem ↓] build26 alloc26 load26n store26n alloc45 load45n store45n
attribute [local go_sem] stN_uc stN_b8 set_new fold_drew ldN_drew ldN_drewN stN_drew stN_drewN stN_ev set_ev stN_b8c set_newc
def bv (l : List UInt8) : List Value := l.map fun x => .int .u8 ((x.toNat : Nat) : Int)
theorem bv_app (a b : List UInt8) : bv (a ++ b) = bv a ++ bv b := by simp [bv]
theorem bv_len (a : List UInt8) : (bv a).length = a.length := by simp [bv]
theorem dl_bv {D : Nat → Int} (h : Byt D) : (arr 32 (b8 D)).toList = bv (dl D) := by
  apply List.ext_getElem?
  intro j
  by_cases hj : j < 32
  · have h1 := dl_at h j (by rw [dl_len]; exact hj)
    have h2 : (bv (dl D))[j]? = some (.int .u8 (D j)) := by
      unfold bv
      rw [List.getElem?_map, List.getElem?_eq_getElem (by rw [dl_len]; exact hj)]
      show some (Value.int .u8 _) = _
      rw [h1]
    rw [h2]
    simp [arr, hj, b8]
  · rw [List.getElem?_eq_none (by simp [arr]; omega), List.getElem?_eq_none (by rw [bv_len, dl_len]; omega)]
set_option maxRecDepth 100000 in
set_option maxHeartbeats 2000000 in
theorem quote_yes (key nonce : ByteArray) (v : Value) (Ds : List (Nat → Int)) (w : World) (h : RdD w v Ds) (hby : ∀ D ∈ Ds, Byt D) (hn : Ds.length = 8) (hk : key.size ≤ 1000) (hs : nonce.size ≤ 1000) (hR : Rnd w) (h0 : 0 < w.heap.size) : Calls Tryd.prog 36 #[.string key, v, .string nonce] w fun e w' => e = .returned (.tuple #[.agg (arr 32 (b8 (quoD key Ds nonce))), .int .i64 0]) ∧ Below w.heap.size w w' := by
  obtain ⟨M, hM⟩ : ∃ M : Nat → Int, quoD key Ds nonce = M := ⟨_, rfl⟩
  rw [hM]
  have HM := Lib.hid hM
  clear hM
  obtain ⟨a, c, rfl, hr⟩ := h
  obtain ⟨b, o, rfl, hbl, hrg⟩ := hr (by intro h; subst h; simp at hn)
  have HR := Lib.hid hR
  have HRg : Hid (∀ wr, Below w.heap.size w wr → ∀ i D, Ds[i]? = some D → wr.rangeAt b (o + i * 32) (arr 32 (b8 D)).toList) := fun wr hb i D hD => rangeAt_below (hrg i D hD) hb hbl
  have a1 : Hid (Row (w.alloc (.cells (arr 32 zb) 26)) w.heap.size 26 32 zb) := Row.ofList w 26 _ _ 32 rfl
  have b1 : Hid (Below w.heap.size w (w.alloc (.cells (arr 32 zb) 26))) := (Below.refl _ _).alloc (Nat.le_refl _) _
  have HBY := Lib.hid hby
  have HN := Lib.hid hn
  rw [hn]
  clear hr hrg hby hn hR
  obtain ⟨i0, hi0, hz0, hz1, hz2⟩ := info_parts Tryd.info5
  go_enter Tryd.func36, Tryd.ntmps36
  go_wp2_with fail
  have o1 : Hid ((w.alloc (.cells (arr 32 zb) 26)).ownsRow (w.heap.size + 1) 5 1 (.slice none 0 0) (0 * 32) (bv (qb (Ds.take 0)))) := World.ownsRow_nil _ _ _ _
  have s1 : w.heap.size + 1 ≤ (w.alloc (.cells (arr 32 zb) 26)).heap.size := by simp
  generalize w.alloc (.cells (arr 32 zb) 26) = W at a1 b1 o1 s1 ⊢
  go_loopw [8, 17] (fun x y wr => ∃ (i : Nat), i ≤ 8 ∧ y = .int .i64 i ∧ Hid (wr.ownsRow (w.heap.size + 1) 5 1 x (i * 32) (bv (qb (Ds.take i)))) ∧ Hid (Row wr w.heap.size 26 32 zb) ∧ Hid (Below w.heap.size w wr) ∧ w.heap.size + 1 ≤ wr.heap.size) (fun _ y _ => 8 - (intOf y).toNat)
  case atStart => exact ⟨0, by omega, rfl, o1, a1, b1, s1⟩
  case round =>
    clear o1 a1 b1 s1
    obtain ⟨i, hi, rfl, ho, ha, hb, hsz⟩ := hrel
    by_cases hlt : i < 8
    · have z0 : (i : Int) < 8 := by omega
      obtain ⟨D, hD⟩ : ∃ D, Ds[i]? = some D := ⟨_, List.getElem?_eq_getElem (by have := HN.out; omega)⟩
      have bD := Lib.hid (HBY.out D (List.mem_of_getElem? hD))
      have ld : ldN 32 wr (.pointer (some ⟨b, o + i * 32, none⟩)) = some (arr 32 (b8 D)) := ldN_of (HRg.out wr hb.out i D hD) (by simp [arr])
      have HQ := Lib.hid (qb_succ Ds i D hD)
      clear hD
      have ho2 : Hid ((wr.alloc (.cells (arr 32 (b8 D)) 26)).ownsRow (w.heap.size + 1) 5 1 u8 (i * 32) (bv (qb (Ds.take i)))) := own_below ho.out ((Below.refl wr.heap.size wr).alloc (Nat.le_refl _) _) (Nat.le_refl _)
      have ha2 := Lib.hid (Row.alloc ha.out (.cells (arr 32 (b8 D)) 26))
      have hb2 : Hid (Below w.heap.size w (wr.alloc (.cells (arr 32 (b8 D)) 26))) := hb.out.alloc hb.out.size _
      have r2 : Hid (Row (wr.alloc (.cells (arr 32 (b8 D)) 26)) wr.heap.size 26 32 (b8 D)) := Row.ofList wr 26 _ _ 32 rfl
      have hnews : Hid (∀ j u, (arr 32 (b8 D)).toList[j]? = some u → (wr.alloc (.cells (arr 32 (b8 D)) 26)).cell? ((⟨wr.heap.size, 0, none⟩ : Addr).add j) = some u) := fun j u hu => by
        rw [Addr.add_mid]
        exact Row.range0 r2.out j u hu
      have hone : Hid (∀ u ∈ (arr 32 (b8 D)).toList, u.oneCell' = true) := fun u hx => by
        simp only [arr, List.mem_map] at hx; obtain ⟨i, _, rfl⟩ := hx; rfl
      have hss : Hid (w.heap.size + 1 ≤ (wr.alloc (.cells (arr 32 (b8 D)) 26)).heap.size) := by
        show _ ≤ _
        simp; omega
      go_wp2_with (at_builtin; refine wpList_append_lies _ rfl _ _ 23 rfl (w.heap.size + 1) 5 i0 _ 1 1 Tryd.underlying23 hi0 hz0 hz1 hz2 (by kernel_rfl) (by omega) _ (i * 32) _ rfl (by exact ho2.out) ⟨wr.heap.size, 0, none⟩ 32 32 (arr 32 (b8 D)).toList rfl (by simp [arr]) (by exact hnews.out) hone.out (by omega) (by simp only [maxLen]; omega) (by omega) (by exact hss.out) (wr.heap.size + 1) (by simp) ?_)
      intro g cap w' hown hgrow hat hlt
      have hbg : Below (w.heap.size + 1) (wr.alloc (.cells (arr 32 (b8 D)) 26)) w' := Below.grown (Below.refl _ _) hgrow hss.out (fun k hk => (ho2.out.lt k hk).1)
      have a3 := Lib.hid (Row.below ha2.out hbg (Nat.lt_succ_self _))
      have B3 : Hid (Below w.heap.size w w') := hb2.out.trans (hbg.mono (Nat.le_succ _))
      have o3 : Hid (w'.ownsRow (w.heap.size + 1) 5 1 (.slice (some ⟨g, 0, none⟩) (i * 32 + 32) cap) ((i + 1) * 32) (bv (qb (Ds.take (i + 1))))) := by
        show World.ownsRow _ _ _ _ _ _ _
        rw [HQ.out, bv_app, ← dl_bv bD.out, show (i + 1) * 32 = i * 32 + 32 by omega]
        exact hown
      have s3 : w.heap.size + 1 ≤ w'.heap.size := Nat.le_trans hss.out hbg.size
      clear hown hgrow hat hlt hbg hnews hone hss ho2 ha2 hb2 r2 ho ha hb ld
      go_wp2_with fail
      exact ⟨⟨i + 1, by omega, by go_num, o3, a3, B3, s3⟩, by simp [intOf]; omega⟩
    · have z0 : ¬ (i : Int) < 8 := by omega
      have h8 : i = 8 := by omega
      subst h8
      rcases ho.out.2 with ⟨rfl, hz⟩ | ⟨g, cap, cur, rfl, hg, hh, h1, h2, h3, h4⟩
      · omega
      have hqt : Ds.take 8 = Ds := List.take_of_length_le (by have := HN.out; omega)
      have hql : (qb Ds).length = 256 := by rw [qb_len, HN.out]
      have cv : (convert 23 9 (.slice (some ⟨g, 0, none⟩) 256 cap)).run Tryd.prog wr = .ok (.string ⟨(qb Ds).toArray⟩) wr := by
        have := run_convert_bytes_back (P := Tryd.prog) wr 23 9 5 ⟨g, 0, none⟩ cap (qb Ds) Tryd.underlying23 Tryd.underlying5 Tryd.underlying9 (fun j hj => by
          rw [Addr.add_mid, Nat.zero_add, cell_of_row _ g j cur 5 (0, 0) hh]
          have e1 : (cur.toList.take (8 * 32 * 1))[j]? = cur.toList[j]? := List.getElem?_take_of_lt (by omega)
          rw [← Array.getElem?_toList, ← e1, h4, hqt]
          unfold bv
          rw [List.getElem?_map, List.getElem?_eq_getElem hj]
          rfl)
        rw [hql] at this
        exact this
      obtain ⟨s, hs0⟩ : ∃ s : ByteArray, s = ⟨(qb Ds).toArray⟩ := ⟨_, rfl⟩
      rw [← hs0] at cv
      have hsz2 : s.size = 256 := by rw [hs0, size_eq]; exact hql
      have hln : ¬ 9223372036854775807 < s.size + nonce.size := by omega
      have HS : Hid (macD key.data.toList (s ++ nonce).data.toList = M) := by
        show macD key.data.toList (s ++ nonce).data.toList = M
        rw [← HM.out]
        unfold quoD
        have : (s ++ nonce).data.toList = s.data.toList ++ nonce.data.toList := by simp
        rw [this, hs0]
      have hs2 : (s ++ nonce).size ≤ 1073741760 := by rw [ByteArray.size_append]; omega
      clear hs0 h4 hh hqt ho
      go_wp2_with fail
      refine (mac_is key (s ++ nonce) wr M HS (by omega) hs2 (HR.out.below hb.out h0) (by omega)).mono ?_
      rintro e w1 ⟨rfl, hb1⟩
      have a2 := Lib.hid (Row.below ha.out hb1 ha.out.lt)
      have B2 := Lib.hid (bss hb.out hb1)
      have hst : stN 32 w1 (.pointer (some ⟨w.heap.size, 0, none⟩)) (.agg (arr 32 (b8 M))) = some (w.heap.size, 0, arr 32 (b8 M)) := stN_of (by simp [arr]) (Row.there a2.out) (all_one _ _ (fun _ => rfl))
      have hrow := Lib.hid (Row.setWhole (u := b8 M) a2.out)
      have B3 : Hid (Below w.heap.size w (w1.setCells w.heap.size 0 (arr 32 (b8 M)).toList)) := Below.setAll (Nat.le_refl _) _ _ _ B2.out
      clear hb1
      go_wp2_with fail
      exact bodyPost_ret (v := .tuple #[.agg (arr 32 (b8 M)), .int .i64 0]) (res2 rfl _ _ w.heap.size (arr 32 (b8 M)) (.int .i64 0) rfl rfl (run_loadVar_row _ _ 26 26 _ (0, 0) _ hrow.out.arr Tryd.underlying26 rfl (by kernel_rfl))) rfl ⟨rfl, B3.out⟩
end Go.Proofs.YtndbbbkdpjkljaaDoor
