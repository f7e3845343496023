/- The reference's Sum: what it computes. Condition: at most 2^30 bytes. -/
import Derived.Test.YtndbbbkdpjkljaaDoorI
namespace Go.Proofs.YtndbbbkdpjkljaaDoor
open Go.RowKit
attribute [local go_sem ↓] alloc26 alloc63 alloc77 load63n store63n load77n store77n load26n store26n
attribute [local go_sem] stN_uc set_new
theorem fold_drew (w : World) : ({ heap := w.heap, tape := w.tape, drawn := w.drawn + 1, os := w.os, output := w.output } : World) = w.drew := rfl
theorem ldN_drew (n : Nat) (w : World) (v : Value) : ldN n w.drew v = ldN n w v := rfl
theorem ldN_drewN (n k : Nat) (w : World) (v : Value) : ldN n (w.drewN k) v = ldN n w v := rfl
theorem stN_drew (n : Nat) (w : World) (x y : Value) : stN n w.drew x y = stN n w x y := rfl
theorem stN_drewN (n k : Nat) (w : World) (x y : Value) : stN n (w.drewN k) x y = stN n w x y := rfl
attribute [local go_sem] fold_drew ldN_drew ldN_drewN stN_drew stN_drewN
theorem ivArr : (#[Value.int .u32 1779033703, .int .u32 3144134277, .int .u32 1013904242, .int .u32 2773480762, .int .u32 1359893119, .int .u32 2600822924, .int .u32 528734635, .int .u32 1541459225] : Array Value) = arr 8 (uc iv) := by kernel_rfl
attribute [local go_sem] ivArr
/-- The digest's cells, the first n written. -/
def dgq (H : Nat → Int) (n i : Nat) : Value := if i < n then .int .u8 (dgb H i) else zb i
theorem dgq_hi (H : Nat → Int) (n i : Nat) (h : n ≤ i) : dgq H n i = zb i := if_neg (by omega)
theorem dgq_lo (H : Nat → Int) (n i : Nat) (h : i < n) : dgq H n i = .int .u8 (dgb H i) := if_pos h
theorem dgq_step (H : Nat → Int) (n : Nat) : upd (dgq H n) n (.int .u8 (dgb H n)) = dgq H (n + 1) := by
  funext q
  by_cases e : q = n
  · subst e; rw [upd_hit, dgq_lo _ _ _ (by omega)]
  · rw [upd_miss _ _ e]
    by_cases h : q < n
    · rw [dgq_lo _ _ _ h, dgq_lo _ _ _ (by omega)]
    · rw [dgq_hi _ _ _ (by omega), dgq_hi _ _ _ (by omega)]

/-- In the middle of the reference's Sum: the message so far, the result's block. -/
structure SR (w0 wr : World) (v : Value) (n : Nat) (l : List UInt8) : Prop where
  sb : SB wr w0.heap.size 5 v n (byv l)
  r0 : Row wr w0.heap.size 26 32 zb
  bel : Below w0.heap.size w0 wr
theorem SR.next {w0 wr w1 : World} {v v' : Value} {n : Nat} {l : List UInt8} (h : SR w0 wr v n l) (o : Obj) (b : UInt8) (hs : SB w1 w0.heap.size 5 v' (n + 1) (byv l ++ [.int .u8 (b.toNat : Int)]))
    (hc : Ch (fun k => v.ownBlock = some k) (wr.alloc o) w1) : SR w0 w1 v' (n + 1) (l ++ [b]) := by
  refine ⟨by rw [← byv_snoc]; exact hs, (h.r0.alloc o).ch hc (sb_ne (h.sb.alloc o) (h.r0.alloc o) (by decide)), ?_⟩
  refine Below.thenCh (h.bel.alloc h.bel.size o) hc (by have := h.bel.size; simp; omega) fun i hi => ?_
  obtain ⟨_, g, cap, _, _, rfl, hb, _⟩ := h.sb
  have : g = i := by simpa [Value.ownBlock] using hi
  omega
theorem SB.toStr {base : Nat} {wr : World} {g n cap : Nat} {l : List UInt8} (h : SB wr base 5 (.slice (some ⟨g, 0, none⟩) n cap) n (byv l)) :
    (convert 23 9 (.slice (some ⟨g, 0, none⟩) n cap)).run Tryd.prog wr = .ok (.string ⟨l.toArray⟩) wr := by
  obtain ⟨g', cap', e, _, _, _, _, hc⟩ := h.form
  injection e with e1 e2 e3
  injection e1 with e1
  have eg : g = g' := congrArg Addr.block e1
  have hn : l.length = n := by have := h.1; unfold byv at this; simpa using this
  subst eg
  have := run_convert_bytes_back (P := Tryd.prog) wr 23 9 5 ⟨g, 0, none⟩ cap l Tryd.underlying23 Tryd.underlying5 Tryd.underlying9 (fun j hj => by
    rw [Addr.add_mid, Nat.zero_add]
    exact hc j _ (by unfold byv; simp [hj]))
  rw [hn] at this
  exact this
theorem SR.form {w0 wr : World} {v : Value} {n : Nat} {l : List UInt8} (h : SR w0 wr v n l) : ∃ g cap, v = .slice (some ⟨g, 0, none⟩) n cap := by
  obtain ⟨_, g, cap, _, _, rfl, _⟩ := h.sb
  exact ⟨g, cap, rfl⟩

set_option maxRecDepth 100000 in
set_option maxHeartbeats 4000000 in
theorem rsum_any (s : ByteArray) (w : World) (hs : s.size ≤ 1073741824) :
    Calls Tryd.prog 16 #[.string s] w fun e w' => e = .returned (.agg (arr 32 (b8 (sumD s.data.toList)))) ∧ Below w.heap.size w w' := by
  obtain ⟨i0, hi, hy0, hy1, hy2⟩ := info_parts Tryd.info5
  have hR0 : Hid (Row (w.alloc (.cells (arr 32 zb) 26)) w.heap.size 26 32 zb) := Row.ofList w 26 _ _ 32 rfl
  have hbel : Below w.heap.size w (w.alloc (.cells (arr 32 zb) 26)) := (Below.refl _ _).alloc (Nat.le_refl _) _
  have hcv := run_bytes_of_string (P := Tryd.prog) (w.alloc (.cells (arr 32 zb) 26)) 9 23 5 s Tryd.underlying9 Tryd.underlying23 Tryd.underlying5
  have hg1 := grownCap_ge (w.alloc (.cells (arr 32 zb) 26)) s.size 0 5
  have hg2 := grownCap_le_maxLen (w.alloc (.cells (arr 32 zb) 26)) s.size 0 5 (by unfold maxLen; omega)
  generalize hcap : grownCap (w.alloc (.cells (arr 32 zb) 26)) s.size 0 5 = cap at hcv hg1 hg2
  clear hcap
  have HSB : Hid (SB (((w.alloc (.cells (arr 32 zb) 26)).alloc (.cells (bytesRow s cap) 5 ((bytesRow s cap).size, (bytesRow s cap).size + 1))).alloc (.cells #[.int .u8 128] 5)).drew w.heap.size 5 (.slice (some ⟨w.heap.size + 1, 0, none⟩) s.size cap) s.size (byv s.data.toList)) :=
    SB.alloc (sb_bytes ((w.alloc (.cells (arr 32 zb) 26)).alloc (.cells (bytesRow s cap) 5 ((bytesRow s cap).size, (bytesRow s cap).size + 1))) (w.heap.size + 1) w.heap.size cap s (by omega) hg1 hg2 (by have := heap_alloc_new (w.alloc (.cells (arr 32 zb) 26)) (.cells (bytesRow s cap) 5 ((bytesRow s cap).size, (bytesRow s cap).size + 1)); simpa using this)) _
  go_enter Tryd.func16, Tryd.ntmps16
  go_wp2_with (at_builtin; refine wpList_push rfl _ _ 23 rfl i0 (.int .u8 0) (.int .u8 128) 1 Tryd.underlying23 hi hy0 hy1 hy2 rfl rfl (by exact HSB.out) ⟨w.heap.size + 1 + 1, 0, none⟩ 1 rfl ?hu rfl ?hb ?h63 ?hby ?_)
  case hu => simp [go_sem]
  case hb => simp; omega
  case h63 => unfold maxLen; omega
  case hby => omega
  intro v1 w1 hs1 hc1
  have hst0 : Hid (SR w w1 v1 (s.size + 1) (s.data.toList ++ [128])) := by
    refine ⟨?_, ?_, ?_⟩
    · rw [← byv_snoc]; exact hs1
    · refine Row.ch (w := (((w.alloc (.cells (arr 32 zb) 26)).alloc (.cells (bytesRow s cap) 5 ((bytesRow s cap).size, (bytesRow s cap).size + 1))).alloc (.cells #[.int .u8 128] 5)).drew) ((hR0.out.alloc _).alloc _) hc1 ?_
      simp [Value.ownBlock]
    · refine Below.thenCh (((hbel.alloc hbel.size _).alloc (by simp; omega) _).drew) hc1 (by simp; omega) fun i hi => ?_
      have : w.heap.size + 1 = i := by simpa [Value.ownBlock] using hi
      omega
  clear hs1 hc1 HSB hcv
  obtain ⟨g, cap1, hv1⟩ := hst0.out.form
  rw [hv1]
  rw [hv1] at hst0
  clear hv1 v1
  obtain ⟨z, hz⟩ : ∃ z : Nat, z = (119 - s.size % 64) % 64 := ⟨_, rfl⟩
  have HZZ := Lib.hid hz
  clear hz
  go_wp2_with fail
  go_loopw [3] (fun x wr => ∃ (j g cap : Nat) (l : List UInt8), j ≤ z ∧ x = .slice (some ⟨g, 0, none⟩) (s.size + 1 + j) cap ∧ Hid (l = s.data.toList ++ [128] ++ List.replicate j 0) ∧ Hid (SR w wr (.slice (some ⟨g, 0, none⟩) (s.size + 1 + j) cap) (s.size + 1 + j) l)) (fun x _ => s.size + 1 + z - sliceLen x)
  case atStart => exact ⟨0, g, cap1, s.data.toList ++ [128], by omega, rfl, (by simp : s.data.toList ++ [128] = s.data.toList ++ [128] ++ List.replicate 0 0), hst0⟩
  case round =>
    obtain ⟨j, g, cap2, l, hj, rfl, hl, hst⟩ := hrel
    clear hst0
    have hz63 : z ≤ 63 := by have := HZZ.out; omega
    by_cases hjz : j = z
    · have e56 : (((s.size : Int) + 1 + j) % 64 != 56) = false := by
        have := HZZ.out
        simp; omega
      have HJ := Lib.hid hjz
      clear hjz
      go_wp2_with fail
      obtain ⟨wp, rfl⟩ : ∃ wp : World, wp = wr := ⟨_, rfl⟩
      go_loopw [3, 5] (fun x y wr => ∃ (q g cap : Nat) (m : List UInt8), q ≤ 8 ∧ x = .slice (some ⟨g, 0, none⟩) (s.size + 1 + j + q) cap ∧ y = .int .i64 (7 - (q : Int)) ∧ Hid (m = l ++ lenb (s.size * 8) q) ∧ Hid (SR w wr (.slice (some ⟨g, 0, none⟩) (s.size + 1 + j + q) cap) (s.size + 1 + j + q) m)) (fun _ y _ => (intOf y + 1).toNat)
      case atStart => exact ⟨0, g, cap2, l, by omega, rfl, rfl, (by simp [lenb] : l = l ++ lenb (s.size * 8) 0), hst⟩
      case round =>
        clear hst
        obtain ⟨q, g, cap3, m, hq, rfl, rfl, hm, hst⟩ := hrel
        by_cases hq8 : q < 8
        · have y0 : (0 : Int) ≤ 7 - (q : Int) := by omega
          have y1 : 7 - (q : Int) ≤ 7 := by omega
          have hbs := hst.out.bel.size
          have d7 : decide ((q : Int) ≤ 7) = true := by simp; omega
          have HA := Lib.hid (SB.alloc hst.out.sb (.cells #[.int .u8 ((s.size : Int) * 8 / 2 ^ (8 * (7 - q)) % 256)] 5))
          go_wp2_with (at_builtin; refine wpList_push rfl _ _ 23 rfl i0 (.int .u8 0) (.int .u8 ((s.size : Int) * 8 / 2 ^ (8 * (7 - q)) % 256)) 1 Tryd.underlying23 hi hy0 hy1 hy2 rfl rfl (by exact HA.out) ⟨wr.heap.size, 0, none⟩ 1 rfl ?hu rfl ?hb ?h63 ?hby ?_)
          case hu => simp [go_sem]
          case hb => simp; omega
          case h63 => unfold maxLen; omega
          case hby => omega
          intro v2 w2 hs2 hc2
          have hs3 : SB w2 w.heap.size 5 v2 (s.size + 1 + j + q + 1) (byv m ++ [.int .u8 (((UInt8.ofNat (s.size * 8 / 2 ^ (56 - 8 * q))).toNat : Nat) : Int)]) := by
            have := hs2
            rw [show 8 * (7 - q) = 56 - 8 * q by omega, lenb_val] at this
            exact this
          have hst2 := Lib.hid (hst.out.next (.cells #[.int .u8 ((s.size : Int) * 8 / 2 ^ (8 * (7 - q)) % 256)] 5) (UInt8.ofNat (s.size * 8 / 2 ^ (56 - 8 * q))) hs3 hc2)
          clear hs2 hs3 hc2 HA
          obtain ⟨g2, cap4, hv2⟩ := hst2.out.form
          rw [hv2]
          rw [hv2] at hst2
          clear hv2 v2
          go_wp2_with fail
          go_roundw
          case rel => exact ⟨q + 1, g2, cap4, m ++ [UInt8.ofNat (s.size * 8 / 2 ^ (56 - 8 * q))], by omega, rfl, by go_num, (by rw [hm.out, List.append_assoc, lenb_succ] : m ++ [UInt8.ofNat (s.size * 8 / 2 ^ (56 - 8 * q))] = l ++ lenb (s.size * 8) (q + 1)), hst2⟩
          case measure => simp [intOf]; omega
        · have hq8' : 8 ≤ q := by omega
          have d7 : decide ((q : Int) ≤ 7) = false := by simp; omega
          have hcb := SB.toStr hst.out.sb
          have hml : Hid (m.length = s.size + 1 + j + q) := by have := hst.out.sb.1; unfold byv at this; simpa [Hid] using this
          have hmm : Hid (m = s.data.toList ++ padb s.data.toList.length) := by
            show m = s.data.toList ++ padb s.data.toList.length
            rw [hm.out, hl.out, padb, HJ.out, HZZ.out, show q = 8 by omega, size_eq]
            simp
          obtain ⟨N, hN⟩ : ∃ N : Nat, m.length = 64 * N := by
            have h1 := hml.out
            have h2 := HZZ.out
            have h3 := HJ.out
            exact ⟨(s.size + 1 + j + q) / 64, by omega⟩
          have hNb : N ≤ 1073741824 := by have := hml.out; have := HJ.out; omega
          obtain ⟨M, hM⟩ : ∃ M : ByteArray, M = ⟨m.toArray⟩ := ⟨_, rfl⟩
          have HMd : Hid (M.data.toList = m) := by rw [hM]; rfl
          have hMs1 : M.size ≤ 64 * N := by rw [size_eq, HMd.out]; omega
          have hMs2 : 64 * N ≤ M.size := by rw [size_eq, HMd.out]; omega
          rw [← hM] at hcb
          have HN := Lib.hid hN
          clear hN hM
          go_wp2_with fail
          have hrH : Hid (Row (wr.alloc (.cells (arr 8 (uc iv)) 63)) wr.heap.size 63 8 (uc iv)) := Row.ofList wr 63 _ _ 8 rfl
          have hr0 := Lib.hid (hst.out.r0.alloc (.cells (arr 8 (uc iv)) 63))
          have hbl := hst.out.bel.alloc hst.out.bel.size (.cells (arr 8 (uc iv)) 63)
          have hHb : w.heap.size < wr.heap.size := hst.out.r0.lt
          clear hst hcb
          generalize wr.alloc (.cells (arr 8 (uc iv)) 63) = W0 at hrH hr0 hbl ⊢
          generalize wr.heap.size = Hb at hrH hHb ⊢
          have hneH : w.heap.size ≠ Hb := by omega
          have hleH : w.heap.size ≤ Hb := by omega
          go_loopw [8] (fun x wr => ∃ (r : Nat), r ≤ N ∧ x = .int .i64 (64 * (r : Int)) ∧ Hid (Row wr Hb 63 8 (uc (bls m iv r))) ∧ Hid (Row wr w.heap.size 26 32 zb) ∧ Below w.heap.size w wr) (fun x _ => 64 * N - (intOf x).toNat)
          case atStart => exact ⟨0, by omega, rfl, hrH, hr0, hbl⟩
          case round =>
            clear hrH hr0 hbl
            obtain ⟨r, hr, rfl, hrH, hr0, hbl⟩ := hrel
            by_cases hrN : r < N
            · have y0 : 64 * (r : Int) < M.size := by omega
              have y1 : 64 * (r : Int) + 64 ≤ M.size := by omega
              have hld : ldN 8 wr (.pointer (some ⟨Hb, 0, none⟩)) = some (arr 8 (uc (bls m iv r))) := ldN_of (Row.range0 hrH.out) (by simp [arr])
              have y2 : (0 : Int) ≤ 64 * (r : Int) := by omega
              have y3 : 64 * (r : Int) ≤ 64 * (r : Int) + 64 := by omega
              have w64 : IntKind.i64.wrap (64 * (r : Int) + 64) = 64 * (r : Int) + 64 := IntWalk.i64_in _ (by omega)
              go_wp2_with fail
              go_still_tail 6, (by kernel_rfl)
              change wpList _ _ _ _ _ wr.drew
              go_wp2_with fail
              have hex : Hid ((M.extract (64 * r) (64 * r + 64)).data.toList = (m.drop (64 * r)).take 64) := by
                show (M.extract (64 * r) (64 * r + 64)).data.toList = (m.drop (64 * r)).take 64
                rw [Lib.extract_data, HMd.out]
                congr 1
                omega
              have hez : (M.extract (64 * r) (64 * r + 64)).size = 64 := by
                rw [size_eq, hex.out, List.length_take, List.length_drop, HN.out]; omega
              refine (block_any _ _ _ hez (fun i => bls_u _ _ _)).mono ?_
              rintro e w2 ⟨rfl, hb2⟩
              rw [hex.out]
              have hr2 := Lib.hid (hrH.out.drew.below hb2 hrH.out.lt)
              have hr02 := Lib.hid (hr0.out.drew.below hb2 hr0.out.lt)
              have hbl2 : Below w.heap.size w w2 := hbl.drew.trans (hb2.mono (by have := hrH.out.lt; show w.heap.size ≤ wr.heap.size; omega))
              have hst2 : stN 8 w2 (.pointer (some ⟨Hb, 0, none⟩)) (.agg (arr 8 (uc (blk (bls m iv r) ((m.drop (64 * r)).take 64))))) = some (Hb, 0, arr 8 (uc (blk (bls m iv r) ((m.drop (64 * r)).take 64)))) := stN_of (by simp [arr]) hr2.out.there (all_one _ _ (fun _ => rfl))
              clear hb2 hez hld
              go_wp2_with fail
              go_roundw
              case rel => exact ⟨r + 1, by omega, by go_num, Row.setWhole hr2.out, Row.farAll hneH _ _ _ hr02.out, Below.setAll hleH _ _ _ hbl2⟩
              case measure => simp [intOf]; omega
            · have y0 : ¬ 64 * (r : Int) < M.size := by omega
              have hfin : Hid (bls m iv r = sumH s.data.toList) := by
                show bls m iv r = sumH s.data.toList
                have e : r = N := by omega
                unfold sumH
                rw [← hmm.out, e, HN.out]
                congr 1; omega
              have HFu : Hid (∀ i, U (bls m iv r i)) := fun i => bls_u _ _ _
              generalize bls m iv r = HF at hfin HFu hrH
              go_wp2_with fail
              have hA := Lib.hid (hrH.out.alloc (.cells (arr 32 zb) 26))
              have hB := Lib.hid (hr0.out.alloc (.cells (arr 32 zb) 26))
              have hD : Hid (Row (wr.alloc (.cells (arr 32 zb) 26)) wr.heap.size 26 32 (dgq HF 0)) := Row.ofList wr 26 _ _ 32 rfl
              have hC := hbl.alloc hbl.size (.cells (arr 32 zb) 26)
              have hlt := hrH.out.lt
              have hlt0 : w.heap.size < wr.heap.size := hr0.out.lt
              clear hrH hr0 hbl
              generalize wr.alloc (.cells (arr 32 zb) 26) = W0 at hA hB hC hD ⊢
              generalize wr.heap.size = Db at hD hlt hlt0 ⊢
              have n1 : Hb ≠ Db := by omega
              have n2 : w.heap.size ≠ Db := by omega
              have n3 : w.heap.size ≤ Db := by omega
              go_loopw [10] (fun x wr => ∃ (i : Nat), i ≤ 32 ∧ x = .int .i64 i ∧ Hid (Row wr Db 26 32 (dgq HF i)) ∧ Hid (Row wr Hb 63 8 (uc HF)) ∧ Hid (Row wr w.heap.size 26 32 zb) ∧ Below w.heap.size w wr) (fun x _ => 32 - (intOf x).toNat)
              case atStart => exact ⟨0, by omega, rfl, hD, hA, hB, hC⟩
              case round =>
                clear hA hB hC hD
                obtain ⟨i, hi, rfl, hD, hA, hB, hC⟩ := hrel
                by_cases h32 : i < 32
                · have z0 : (i : Int) < 32 := by omega
                  have z1 := Row.cell hA.out (i := i / 4) (by omega)
                  have z2 := Row.cell hD.out h32
                  have z3 := Row.frozen hD.out i
                  rw [dgq_hi _ _ _ (Nat.le_refl _)] at z2
                  unfold uc at z1
                  unfold zb at z2
                  obtain ⟨u0, u1⟩ := HFu.out (i / 4)
                  go_wp2_with fail
                  refine ⟨⟨i + 1, by omega, by go_num, ?_, hA.out.far n1 _, hB.out.far n2 _, hC.setCell n3 _⟩, by simp [intOf]; omega⟩
                  have := Row.set hD.out (i := i) h32 (.int .u8 (dgb HF i))
                  rw [dgq_step] at this
                  exact this
                · have z0 : ¬ (i : Int) < 32 := by omega
                  have hld : ldN 32 wr (.pointer (some ⟨Db, 0, none⟩)) = some (arr 32 (dgq HF i)) := ldN_of (Row.range0 hD.out) (by simp [arr])
                  have hAe : Hid (arr 32 (dgq HF i) = arr 32 (b8 (sumD s.data.toList))) := by
                    show arr 32 (dgq HF i) = arr 32 (b8 (sumD s.data.toList))
                    unfold arr
                    congr 1
                    apply List.map_congr_left
                    intro q hq
                    rw [dgq_lo _ _ _ (by have := List.mem_range.1 hq; omega), hfin.out]; rfl
                  rw [hAe.out] at hld
                  have hst : stN 32 wr (.pointer (some ⟨w.heap.size, 0, none⟩)) (.agg (arr 32 (b8 (sumD s.data.toList)))) = some (w.heap.size, 0, arr 32 (b8 (sumD s.data.toList))) := stN_of (by simp [arr]) hB.out.there (all_one _ _ (fun _ => rfl))
                  have hrow := Lib.hid (Row.setWhole (u := b8 (sumD s.data.toList)) hB.out)
                  go_wp2_with fail
                  exact bodyPost_ret (v := .agg (arr 32 (b8 (sumD s.data.toList)))) (results_cell_row rfl _ _ w.heap.size 26 (arr 32 (b8 (sumD s.data.toList))) (0, 0) _ rfl hrow.out.arr Tryd.underlying26 rfl (by kernel_rfl)) rfl ⟨rfl, Below.setAll (Nat.le_refl _) _ _ _ hC⟩
    · have e56 : (((s.size : Int) + 1 + j) % 64 != 56) = true := by
        have := HZZ.out
        simp; omega
      have HA := Lib.hid (SB.alloc hst.out.sb (.cells #[.int .u8 0] 5))
      have hbs := hst.out.bel.size
      go_wp2_with (at_builtin; refine wpList_push rfl _ _ 23 rfl i0 (.int .u8 0) (.int .u8 0) 1 Tryd.underlying23 hi hy0 hy1 hy2 rfl rfl (by exact HA.out) ⟨wr.heap.size, 0, none⟩ 1 rfl ?hu rfl ?hb ?h63 ?hby ?_)
      case hu => simp [go_sem]
      case hb => simp; omega
      case h63 => unfold maxLen; omega
      case hby => omega
      intro v2 w2 hs2 hc2
      have hst2 := Lib.hid (hst.out.next (.cells #[.int .u8 0] 5) 0 hs2 hc2)
      clear hs2 hc2 HA
      obtain ⟨g2, cap3, hv2⟩ := hst2.out.form
      rw [hv2]
      rw [hv2] at hst2
      clear hv2 v2
      go_wp2_with fail
      go_roundw
      case rel => exact ⟨j + 1, g2, cap3, l ++ [0], by omega, rfl, (by rw [hl.out, List.append_assoc, ← List.replicate_succ'] : l ++ [0] = s.data.toList ++ [128] ++ List.replicate (j + 1) 0), hst2⟩
      case measure => simp [sliceLen]; omega
end Go.Proofs.YtndbbbkdpjkljaaDoor
