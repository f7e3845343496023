/- MAC, Events; Measure with its blocks. Conditions: those that each theorem names. -/
import Derived.Lib.LazyBuf
import Derived.Stop.BytesEq
import Derived.Deep.AppendLies
import Derived.Test.YtdinbpdpalgohaaGreatDoorY9
import Derived.Test.YtdinbpdpalgohaaGreatDoorY1
namespace Go.Proofs.YtdinbpdpalgohaaGreatDoor.Ms
open Go.RowKit
attribute [local go_sem ↓] alloc26 alloc63 alloc77 load63n store63n load77n store77n load26n store26n
attribute [local go_sem] stN_uc set_new
theorem fold_drew (w : World) : ({ heap := w.heap, tape := w.tape, drawn := w.drawn + 1, os := w.os, output := w.output } : World) = w.drew := rfl
theorem ldN_drew (n : Nat) (w : World) (v : Value) : ldN n w.drew v = ldN n w v := rfl
theorem ldN_drewN (n k : Nat) (w : World) (v : Value) : ldN n (w.drewN k) v = ldN n w v := rfl
theorem stN_drew (n : Nat) (w : World) (x y : Value) : stN n w.drew x y = stN n w x y := rfl
theorem stN_drewN (n k : Nat) (w : World) (x y : Value) : stN n (w.drewN k) x y = stN n w x y := rfl
attribute [local go_sem] fold_drew ldN_drew ldN_drewN stN_drew stN_drewN
set_option maxRecDepth 100000 in
theorem ivArr : (#[Value.int .u32 1779033703, .int .u32 3144134277, .int .u32 1013904242, .int .u32 2773480762, .int .u32 1359893119, .int .u32 2600822924, .int .u32 528734635, .int .u32 1541459225] : Array Value) = arr 8 (uc iv) := by kernel_rfl
attribute [local go_sem] ivArr
/-- The digest's cells, the first n written. -/
def dgq (H : Nat → Int) (n i : Nat) : Value := if i < n then .int .u8 (dgb H i) else zb i
theorem dgq_hi (H : Nat → Int) (n i : Nat) (h : n ≤ i) : dgq H n i = zb i := if_neg (by omega)
theorem dgq_lo (H : Nat → Int) (n i : Nat) (h : i < n) : dgq H n i = .int .u8 (dgb H i) := if_pos h
theorem dgq_step (H : Nat → Int) (n : Nat) : upd (dgq H n) n (.int .u8 (dgb H n)) = dgq H (n + 1) := by
  funext q
  by_cases e : q = n
  · subst e; rw [upd_hit, dgq_lo _ _ _ (by omega)]
  · rw [upd_miss _ _ e]
    by_cases h : q < n
    · rw [dgq_lo _ _ _ h, dgq_lo _ _ _ (by omega)]
    · rw [dgq_hi _ _ _ (by omega), dgq_hi _ _ _ (by omega)]

/-- In the middle of the reference's Sum: the message so far, the result's block. -/
structure SR (w0 wr : World) (v : Value) (n : Nat) (l : List UInt8) : Prop where
  sb : SB wr w0.heap.size 5 v n (byv l)
  r0 : Row wr w0.heap.size 31 32 zb
  bel : Below w0.heap.size w0 wr
theorem SR.next {w0 wr w1 : World} {v v' : Value} {n : Nat} {l : List UInt8} (h : SR w0 wr v n l) (o : Obj) (b : UInt8) (hs : SB w1 w0.heap.size 5 v' (n + 1) (byv l ++ [.int .u8 (b.toNat : Int)]))
    (hc : Ch (fun k => v.ownBlock = some k) (wr.alloc o) w1) : SR w0 w1 v' (n + 1) (l ++ [b]) := by
  refine ⟨by rw [← byv_snoc]; exact hs, (h.r0.alloc o).ch hc (sb_ne (h.sb.alloc o) (h.r0.alloc o) (by decide)), ?_⟩
  refine Below.thenCh (h.bel.alloc h.bel.size o) hc (by have := h.bel.size; simp; omega) fun i hi => ?_
  obtain ⟨_, g, cap, _, _, rfl, hb, _⟩ := h.sb
  have : g = i := by simpa [Value.ownBlock] using hi
  omega
set_option maxRecDepth 100000 in
theorem SB.toStr {base : Nat} {wr : World} {g n cap : Nat} {l : List UInt8} (h : SB wr base 5 (.slice (some ⟨g, 0, none⟩) n cap) n (byv l)) :
    (convert 99 9 (.slice (some ⟨g, 0, none⟩) n cap)).run Tryz.prog wr = .ok (.string ⟨l.toArray⟩) wr := by
  obtain ⟨g', cap', e, _, _, _, _, hc⟩ := h.form
  injection e with e1 e2 e3
  injection e1 with e1
  have eg : g = g' := congrArg Addr.block e1
  have hn : l.length = n := by have := h.1; unfold byv at this; simpa using this
  subst eg
  have := run_convert_bytes_back (P := Tryz.prog) wr 99 9 5 ⟨g, 0, none⟩ cap l Tryz.underlying99 Tryz.underlying5 Tryz.underlying9 (fun j hj => by
    rw [Addr.add_mid, Nat.zero_add]
    exact hc j _ (by unfold byv; simp [hj]))
  rw [hn] at this
  exact this
theorem SR.form {w0 wr : World} {v : Value} {n : Nat} {l : List UInt8} (h : SR w0 wr v n l) : ∃ g cap, v = .slice (some ⟨g, 0, none⟩) n cap := by
  obtain ⟨_, g, cap, _, _, rfl, _⟩ := h.sb
  exact ⟨g, cap, rfl⟩

set_option maxRecDepth 100000 in
set_option maxHeartbeats 4000000 in
theorem rsum_any (s : ByteArray) (w : World) (hs : s.size ≤ 1073741824) :
    Calls Tryz.prog 65 #[.string s] w fun e w' => e = .returned (.agg (arr 32 (b8 (sumD s.data.toList)))) ∧ Below w.heap.size w w' := by
  obtain ⟨i0, hi, hy0, hy1, hy2⟩ := info_parts Tryz.info5
  have hR0 : Hid (Row (w.alloc (.cells (arr 32 zb) 31)) w.heap.size 31 32 zb) := Row.ofList w 31 _ _ 32 rfl
  have hbel : Below w.heap.size w (w.alloc (.cells (arr 32 zb) 31)) := (Below.refl _ _).alloc (Nat.le_refl _) _
  have hcv := run_bytes_of_string (P := Tryz.prog) (w.alloc (.cells (arr 32 zb) 31)) 9 99 5 s Tryz.underlying9 Tryz.underlying99 Tryz.underlying5
  have hg1 := grownCap_ge (w.alloc (.cells (arr 32 zb) 31)) s.size 0 5
  have hg2 := grownCap_le_maxLen (w.alloc (.cells (arr 32 zb) 31)) s.size 0 5 (by unfold maxLen; omega)
  generalize hcap : grownCap (w.alloc (.cells (arr 32 zb) 31)) s.size 0 5 = cap at hcv hg1 hg2
  clear hcap
  have HSB : Hid (SB (((w.alloc (.cells (arr 32 zb) 31)).alloc (.cells (bytesRow s cap) 5 ((bytesRow s cap).size, (bytesRow s cap).size + 1))).alloc (.cells #[.int .u8 128] 5)).drew w.heap.size 5 (.slice (some ⟨w.heap.size + 1, 0, none⟩) s.size cap) s.size (byv s.data.toList)) :=
    SB.alloc (sb_bytes ((w.alloc (.cells (arr 32 zb) 31)).alloc (.cells (bytesRow s cap) 5 ((bytesRow s cap).size, (bytesRow s cap).size + 1))) (w.heap.size + 1) w.heap.size cap s (by omega) hg1 hg2 (by have := heap_alloc_new (w.alloc (.cells (arr 32 zb) 31)) (.cells (bytesRow s cap) 5 ((bytesRow s cap).size, (bytesRow s cap).size + 1)); simpa using this)) _
  go_enter Tryz.func65, Tryz.ntmps65
  go_wp2_with (at_builtin; refine wpList_push rfl _ _ 99 rfl i0 (.int .u8 0) (.int .u8 128) 1 Tryz.underlying99 hi hy0 hy1 hy2 rfl rfl (by exact HSB.out) ⟨w.heap.size + 1 + 1, 0, none⟩ 1 rfl ?hu rfl ?hb ?h63 ?hby ?_)
  case hu => simp [go_sem]
  case hb => simp; omega
  case h63 => unfold maxLen; omega
  case hby => omega
  intro v1 w1 hs1 hc1
  have hst0 : Hid (SR w w1 v1 (s.size + 1) (s.data.toList ++ [128])) := by
    refine ⟨?_, ?_, ?_⟩
    · rw [← byv_snoc]; exact hs1
    · refine Row.ch (w := (((w.alloc (.cells (arr 32 zb) 31)).alloc (.cells (bytesRow s cap) 5 ((bytesRow s cap).size, (bytesRow s cap).size + 1))).alloc (.cells #[.int .u8 128] 5)).drew) ((hR0.out.alloc _).alloc _) hc1 ?_
      simp [Value.ownBlock]
    · refine Below.thenCh (((hbel.alloc hbel.size _).alloc (by simp; omega) _).drew) hc1 (by simp; omega) fun i hi => ?_
      have : w.heap.size + 1 = i := by simpa [Value.ownBlock] using hi
      omega
  clear hs1 hc1 HSB hcv
  obtain ⟨g, cap1, hv1⟩ := hst0.out.form
  rw [hv1]
  rw [hv1] at hst0
  clear hv1 v1
  obtain ⟨z, hz⟩ : ∃ z : Nat, z = (119 - s.size % 64) % 64 := ⟨_, rfl⟩
  have HZZ := Lib.hid hz
  clear hz
  go_wp2_with fail
  go_loopw [3] (fun x wr => ∃ (j g cap : Nat) (l : List UInt8), j ≤ z ∧ x = .slice (some ⟨g, 0, none⟩) (s.size + 1 + j) cap ∧ Hid (l = s.data.toList ++ [128] ++ List.replicate j 0) ∧ Hid (SR w wr (.slice (some ⟨g, 0, none⟩) (s.size + 1 + j) cap) (s.size + 1 + j) l)) (fun x _ => s.size + 1 + z - sliceLen x)
  case atStart => exact ⟨0, g, cap1, s.data.toList ++ [128], by omega, rfl, (by simp : s.data.toList ++ [128] = s.data.toList ++ [128] ++ List.replicate 0 0), hst0⟩
  case round =>
    obtain ⟨j, g, cap2, l, hj, rfl, hl, hst⟩ := hrel
    clear hst0
    have hz63 : z ≤ 63 := by have := HZZ.out; omega
    by_cases hjz : j = z
    · have e56 : (((s.size : Int) + 1 + j) % 64 != 56) = false := by
        have := HZZ.out
        simp; omega
      have HJ := Lib.hid hjz
      clear hjz
      go_wp2_with fail
      obtain ⟨wp, rfl⟩ : ∃ wp : World, wp = wr := ⟨_, rfl⟩
      go_loopw [3, 5] (fun x y wr => ∃ (q g cap : Nat) (m : List UInt8), q ≤ 8 ∧ x = .slice (some ⟨g, 0, none⟩) (s.size + 1 + j + q) cap ∧ y = .int .i64 (7 - (q : Int)) ∧ Hid (m = l ++ lenb (s.size * 8) q) ∧ Hid (SR w wr (.slice (some ⟨g, 0, none⟩) (s.size + 1 + j + q) cap) (s.size + 1 + j + q) m)) (fun _ y _ => (intOf y + 1).toNat)
      case atStart => exact ⟨0, g, cap2, l, by omega, rfl, rfl, (by simp [lenb] : l = l ++ lenb (s.size * 8) 0), hst⟩
      case round =>
        clear hst
        obtain ⟨q, g, cap3, m, hq, rfl, rfl, hm, hst⟩ := hrel
        by_cases hq8 : q < 8
        · have y0 : (0 : Int) ≤ 7 - (q : Int) := by omega
          have y1 : 7 - (q : Int) ≤ 7 := by omega
          have hbs := hst.out.bel.size
          have d7 : decide ((q : Int) ≤ 7) = true := by simp; omega
          have HA := Lib.hid (SB.alloc hst.out.sb (.cells #[.int .u8 ((s.size : Int) * 8 / 2 ^ (8 * (7 - q)) % 256)] 5))
          go_wp2_with (at_builtin; refine wpList_push rfl _ _ 99 rfl i0 (.int .u8 0) (.int .u8 ((s.size : Int) * 8 / 2 ^ (8 * (7 - q)) % 256)) 1 Tryz.underlying99 hi hy0 hy1 hy2 rfl rfl (by exact HA.out) ⟨wr.heap.size, 0, none⟩ 1 rfl ?hu rfl ?hb ?h63 ?hby ?_)
          case hu => simp [go_sem]
          case hb => simp; omega
          case h63 => unfold maxLen; omega
          case hby => omega
          intro v2 w2 hs2 hc2
          have hs3 : SB w2 w.heap.size 5 v2 (s.size + 1 + j + q + 1) (byv m ++ [.int .u8 (((UInt8.ofNat (s.size * 8 / 2 ^ (56 - 8 * q))).toNat : Nat) : Int)]) := by
            have := hs2
            rw [show 8 * (7 - q) = 56 - 8 * q by omega, lenb_val] at this
            exact this
          have hst2 := Lib.hid (hst.out.next (.cells #[.int .u8 ((s.size : Int) * 8 / 2 ^ (8 * (7 - q)) % 256)] 5) (UInt8.ofNat (s.size * 8 / 2 ^ (56 - 8 * q))) hs3 hc2)
          clear hs2 hs3 hc2 HA
          obtain ⟨g2, cap4, hv2⟩ := hst2.out.form
          rw [hv2]
          rw [hv2] at hst2
          clear hv2 v2
          go_wp2_with fail
          go_roundw
          case rel => exact ⟨q + 1, g2, cap4, m ++ [UInt8.ofNat (s.size * 8 / 2 ^ (56 - 8 * q))], by omega, rfl, by go_num, (by rw [hm.out, List.append_assoc, lenb_succ] : m ++ [UInt8.ofNat (s.size * 8 / 2 ^ (56 - 8 * q))] = l ++ lenb (s.size * 8) (q + 1)), hst2⟩
          case measure => simp [intOf]; omega
        · have hq8' : 8 ≤ q := by omega
          have d7 : decide ((q : Int) ≤ 7) = false := by simp; omega
          have hcb := SB.toStr hst.out.sb
          have hml : Hid (m.length = s.size + 1 + j + q) := by have := hst.out.sb.1; unfold byv at this; simpa [Hid] using this
          have hmm : Hid (m = s.data.toList ++ padb s.data.toList.length) := by
            show m = s.data.toList ++ padb s.data.toList.length
            rw [hm.out, hl.out, padb, HJ.out, HZZ.out, show q = 8 by omega, size_eq]
            simp
          obtain ⟨N, hN⟩ : ∃ N : Nat, m.length = 64 * N := by
            have h1 := hml.out
            have h2 := HZZ.out
            have h3 := HJ.out
            exact ⟨(s.size + 1 + j + q) / 64, by omega⟩
          have hNb : N ≤ 1073741824 := by have := hml.out; have := HJ.out; omega
          obtain ⟨M, hM⟩ : ∃ M : ByteArray, M = ⟨m.toArray⟩ := ⟨_, rfl⟩
          have HMd : Hid (M.data.toList = m) := by rw [hM]; rfl
          have hMs1 : M.size ≤ 64 * N := by rw [size_eq, HMd.out]; omega
          have hMs2 : 64 * N ≤ M.size := by rw [size_eq, HMd.out]; omega
          rw [← hM] at hcb
          have HN := Lib.hid hN
          clear hN hM
          go_wp2_with fail
          have hrH : Hid (Row (wr.alloc (.cells (arr 8 (uc iv)) 111)) wr.heap.size 111 8 (uc iv)) := Row.ofList wr 111 _ _ 8 rfl
          have hr0 := Lib.hid (hst.out.r0.alloc (.cells (arr 8 (uc iv)) 111))
          have hbl := hst.out.bel.alloc hst.out.bel.size (.cells (arr 8 (uc iv)) 111)
          have hHb : w.heap.size < wr.heap.size := hst.out.r0.lt
          clear hst hcb
          generalize wr.alloc (.cells (arr 8 (uc iv)) 111) = W0 at hrH hr0 hbl ⊢
          generalize wr.heap.size = Hb at hrH hHb ⊢
          have hneH : w.heap.size ≠ Hb := by omega
          have hleH : w.heap.size ≤ Hb := by omega
          go_loopw [8] (fun x wr => ∃ (r : Nat), r ≤ N ∧ x = .int .i64 (64 * (r : Int)) ∧ Hid (Row wr Hb 111 8 (uc (bls m iv r))) ∧ Hid (Row wr w.heap.size 31 32 zb) ∧ Below w.heap.size w wr) (fun x _ => 64 * N - (intOf x).toNat)
          case atStart => exact ⟨0, by omega, rfl, hrH, hr0, hbl⟩
          case round =>
            clear hrH hr0 hbl
            obtain ⟨r, hr, rfl, hrH, hr0, hbl⟩ := hrel
            by_cases hrN : r < N
            · have y0 : 64 * (r : Int) < M.size := by omega
              have y1 : 64 * (r : Int) + 64 ≤ M.size := by omega
              have hld : ldN 8 wr (.pointer (some ⟨Hb, 0, none⟩)) = some (arr 8 (uc (bls m iv r))) := ldN_of (Row.range0 hrH.out) (by simp [arr])
              have y2 : (0 : Int) ≤ 64 * (r : Int) := by omega
              have y3 : 64 * (r : Int) ≤ 64 * (r : Int) + 64 := by omega
              have w64 : IntKind.i64.wrap (64 * (r : Int) + 64) = 64 * (r : Int) + 64 := IntWalk.i64_in _ (by omega)
              go_wp2_with fail
              go_still_tail 6, (by kernel_rfl)
              change wpList _ _ _ _ _ wr.drew
              go_wp2_with fail
              have hex : Hid ((M.extract (64 * r) (64 * r + 64)).data.toList = (m.drop (64 * r)).take 64) := by
                show (M.extract (64 * r) (64 * r + 64)).data.toList = (m.drop (64 * r)).take 64
                rw [Lib.extract_data, HMd.out]
                congr 1
                omega
              have hez : (M.extract (64 * r) (64 * r + 64)).size = 64 := by
                rw [size_eq, hex.out, List.length_take, List.length_drop, HN.out]; omega
              refine (block_any _ _ _ hez (fun i => bls_u _ _ _)).mono ?_
              rintro e w2 ⟨rfl, hb2⟩
              rw [hex.out]
              have hr2 := Lib.hid (hrH.out.drew.below hb2 hrH.out.lt)
              have hr02 := Lib.hid (hr0.out.drew.below hb2 hr0.out.lt)
              have hbl2 : Below w.heap.size w w2 := hbl.drew.trans (hb2.mono (by have := hrH.out.lt; show w.heap.size ≤ wr.heap.size; omega))
              have hst2 : stN 8 w2 (.pointer (some ⟨Hb, 0, none⟩)) (.agg (arr 8 (uc (blk (bls m iv r) ((m.drop (64 * r)).take 64))))) = some (Hb, 0, arr 8 (uc (blk (bls m iv r) ((m.drop (64 * r)).take 64)))) := stN_of (by simp [arr]) hr2.out.there (all_one _ _ (fun _ => rfl))
              clear hb2 hez hld
              go_wp2_with fail
              go_roundw
              case rel => exact ⟨r + 1, by omega, by go_num, Row.setWhole hr2.out, Row.farAll hneH _ _ _ hr02.out, Below.setAll hleH _ _ _ hbl2⟩
              case measure => simp [intOf]; omega
            · have y0 : ¬ 64 * (r : Int) < M.size := by omega
              have hfin : Hid (bls m iv r = sumH s.data.toList) := by
                show bls m iv r = sumH s.data.toList
                have e : r = N := by omega
                unfold sumH
                rw [← hmm.out, e, HN.out]
                congr 1; omega
              have HFu : Hid (∀ i, U (bls m iv r i)) := fun i => bls_u _ _ _
              generalize bls m iv r = HF at hfin HFu hrH
              go_wp2_with fail
              have hA := Lib.hid (hrH.out.alloc (.cells (arr 32 zb) 31))
              have hB := Lib.hid (hr0.out.alloc (.cells (arr 32 zb) 31))
              have hD : Hid (Row (wr.alloc (.cells (arr 32 zb) 31)) wr.heap.size 31 32 (dgq HF 0)) := Row.ofList wr 31 _ _ 32 rfl
              have hC := hbl.alloc hbl.size (.cells (arr 32 zb) 31)
              have hlt := hrH.out.lt
              have hlt0 : w.heap.size < wr.heap.size := hr0.out.lt
              clear hrH hr0 hbl
              generalize wr.alloc (.cells (arr 32 zb) 31) = W0 at hA hB hC hD ⊢
              generalize wr.heap.size = Db at hD hlt hlt0 ⊢
              have n1 : Hb ≠ Db := by omega
              have n2 : w.heap.size ≠ Db := by omega
              have n3 : w.heap.size ≤ Db := by omega
              go_loopw [10] (fun x wr => ∃ (i : Nat), i ≤ 32 ∧ x = .int .i64 i ∧ Hid (Row wr Db 31 32 (dgq HF i)) ∧ Hid (Row wr Hb 111 8 (uc HF)) ∧ Hid (Row wr w.heap.size 31 32 zb) ∧ Below w.heap.size w wr) (fun x _ => 32 - (intOf x).toNat)
              case atStart => exact ⟨0, by omega, rfl, hD, hA, hB, hC⟩
              case round =>
                clear hA hB hC hD
                obtain ⟨i, hi, rfl, hD, hA, hB, hC⟩ := hrel
                by_cases h32 : i < 32
                · have z0 : (i : Int) < 32 := by omega
                  have z1 := Row.cell hA.out (i := i / 4) (by omega)
                  have z2 := Row.cell hD.out h32
                  have z3 := Row.frozen hD.out i
                  rw [dgq_hi _ _ _ (Nat.le_refl _)] at z2
                  unfold uc at z1
                  unfold zb at z2
                  obtain ⟨u0, u1⟩ := HFu.out (i / 4)
                  go_wp2_with fail
                  refine ⟨⟨i + 1, by omega, by go_num, ?_, hA.out.far n1 _, hB.out.far n2 _, hC.setCell n3 _⟩, by simp [intOf]; omega⟩
                  have := Row.set hD.out (i := i) h32 (.int .u8 (dgb HF i))
                  rw [dgq_step] at this
                  exact this
                · have z0 : ¬ (i : Int) < 32 := by omega
                  have hld : ldN 32 wr (.pointer (some ⟨Db, 0, none⟩)) = some (arr 32 (dgq HF i)) := ldN_of (Row.range0 hD.out) (by simp [arr])
                  have hAe : Hid (arr 32 (dgq HF i) = arr 32 (b8 (sumD s.data.toList))) := by
                    show arr 32 (dgq HF i) = arr 32 (b8 (sumD s.data.toList))
                    unfold arr
                    congr 1
                    apply List.map_congr_left
                    intro q hq
                    rw [dgq_lo _ _ _ (by have := List.mem_range.1 hq; omega), hfin.out]; rfl
                  rw [hAe.out] at hld
                  have hst : stN 32 wr (.pointer (some ⟨w.heap.size, 0, none⟩)) (.agg (arr 32 (b8 (sumD s.data.toList)))) = some (w.heap.size, 0, arr 32 (b8 (sumD s.data.toList))) := stN_of (by simp [arr]) hB.out.there (all_one _ _ (fun _ => rfl))
                  have hrow := Lib.hid (Row.setWhole (u := b8 (sumD s.data.toList)) hB.out)
                  go_wp2_with fail
                  exact bodyPost_ret (v := .agg (arr 32 (b8 (sumD s.data.toList)))) (results_cell_row rfl _ _ w.heap.size 31 (arr 32 (b8 (sumD s.data.toList))) (0, 0) _ rfl hrow.out.arr Tryz.underlying31 rfl (by kernel_rfl)) rfl ⟨rfl, Below.setAll (Nat.le_refl _) _ _ _ hC⟩
    · have e56 : (((s.size : Int) + 1 + j) % 64 != 56) = true := by
        have := HZZ.out
        simp; omega
      have HA := Lib.hid (SB.alloc hst.out.sb (.cells #[.int .u8 0] 5))
      have hbs := hst.out.bel.size
      go_wp2_with (at_builtin; refine wpList_push rfl _ _ 99 rfl i0 (.int .u8 0) (.int .u8 0) 1 Tryz.underlying99 hi hy0 hy1 hy2 rfl rfl (by exact HA.out) ⟨wr.heap.size, 0, none⟩ 1 rfl ?hu rfl ?hb ?h63 ?hby ?_)
      case hu => simp [go_sem]
      case hb => simp; omega
      case h63 => unfold maxLen; omega
      case hby => omega
      intro v2 w2 hs2 hc2
      have hst2 := Lib.hid (hst.out.next (.cells #[.int .u8 0] 5) 0 hs2 hc2)
      clear hs2 hc2 HA
      obtain ⟨g2, cap3, hv2⟩ := hst2.out.form
      rw [hv2]
      rw [hv2] at hst2
      clear hv2 v2
      go_wp2_with fail
      go_roundw
      case rel => exact ⟨j + 1, g2, cap3, l ++ [0], by omega, rfl, (by rw [hl.out, List.append_assoc, ← List.replicate_succ'] : l ++ [0] = s.data.toList ++ [128] ++ List.replicate (j + 1) 0), hst2⟩
      case measure => simp [sliceLen]; omega
end Go.Proofs.YtdinbpdpalgohaaGreatDoor.Ms
namespace Go.Proofs.YtdinbpdpalgohaaGreatDoor.Ms
open Go.RowKit
attribute [local go_sem ↓] alloc26 alloc63 alloc68 alloc77 load63n store63n load77n store77n load26n store26n
attribute [local go_sem] stN_uc stN_b8 set_new fold_drew ldN_drew ldN_drewN stN_drew stN_drewN

/-- The key that is used. -/
def kk (l : List UInt8) : List UInt8 := if 64 < l.length then dl (sumD l) else l
theorem kk_len (l : List UInt8) : (kk l).length ≤ 64 := by
  unfold kk; split
  · rw [dl_len]; omega
  · omega
/-- The key, filled up and mixed with a byte. -/
def pad (l : List UInt8) (x : UInt8) : List UInt8 := (List.range 64).map fun i => l.getD i 0 ^^^ x
theorem pad_len (l : List UInt8) (x : UInt8) : (pad l x).length = 64 := by simp [pad]
def macD (key s : List UInt8) : Nat → Int := sumD (pad (kk key) 92 ++ dl (sumD (pad (kk key) 54 ++ s)))
/-- The cells of the key, the first n mixed. -/
def xr (l : List UInt8) (x : UInt8) (n i : Nat) : Value := if i < n then .int .u8 (((l.getD i 0 ^^^ x).toNat : Nat) : Int) else .int .u8 (((l.getD i 0).toNat : Nat) : Int)
theorem xr_hi (l : List UInt8) (x : UInt8) (n i : Nat) (h : n ≤ i) : xr l x n i = .int .u8 (((l.getD i 0).toNat : Nat) : Int) := if_neg (by omega)
theorem xr_lo (l : List UInt8) (x : UInt8) (n i : Nat) (h : i < n) : xr l x n i = .int .u8 (((l.getD i 0 ^^^ x).toNat : Nat) : Int) := if_pos h
theorem xr_step (l : List UInt8) (x : UInt8) (n : Nat) : upd (xr l x n) n (.int .u8 (((l.getD n 0 ^^^ x).toNat : Nat) : Int)) = xr l x (n + 1) := by
  funext q
  by_cases e : q = n
  · subst e; rw [upd_hit, xr_lo _ _ _ _ (by omega)]
  · rw [upd_miss _ _ e]
    by_cases h : q < n
    · rw [xr_lo _ _ _ _ h, xr_lo _ _ _ _ (by omega)]
    · rw [xr_hi _ _ _ _ (by omega), xr_hi _ _ _ _ (by omega)]
theorem xor54 (b : UInt8) : bits BinOp.xor IntKind.u8 ((b.toNat : Nat) : Int) 54 = (((b ^^^ 54).toNat : Nat) : Int) := by
  rw [show (54 : Int) = ((54 : Nat) : Int) from rfl, u8_xor_nat _ _ b.toNat_lt (by omega), UInt8.toNat_xor]; rfl
theorem xor92 (b : UInt8) : bits BinOp.xor IntKind.u8 ((b.toNat : Nat) : Int) 92 = (((b ^^^ 92).toNat : Nat) : Int) := by
  rw [show (92 : Int) = ((92 : Nat) : Int) from rfl, u8_xor_nat _ _ b.toNat_lt (by omega), UInt8.toNat_xor]; rfl
theorem copied {w : World} {B t : Nat} {l : List UInt8} (x : UInt8) (h : Row w B t 64 zb) (hl : l.length ≤ 64) : Row (w.setCells B 0 (byv l)) B t 64 (xr l x 0) := by
  refine Row.congr (Row.setAll (byv l) 0 w _ h (by unfold byv; simp; omega)) fun i hi => ?_
  rw [xr_hi _ _ _ _ (Nat.zero_le _)]
  have hb : (byv l).length = l.length := by simp [byv]
  rw [hb]
  by_cases e : i < l.length
  · rw [if_pos (by omega)]
    simp [byv, e]
  · rw [if_neg (by omega)]
    simp [zb, show l.length ≤ i by omega]
set_option maxRecDepth 100000 in
/-- The bytes of a block as a string. -/
theorem row_str {W : World} {B t N c : Nat} {v : Nat → Value} (l : List UInt8) (hl : l.length = N) (hv : ∀ i, i < N → v i = .int .u8 (((l.getD i 0).toNat : Nat) : Int)) (h : Row W B t N v) : (convert 99 9 (.slice (some ⟨B, 0, none⟩) N c)).run Tryz.prog W = .ok (.string ⟨l.toArray⟩) W := by
  have := run_convert_bytes_back (P := Tryz.prog) W 99 9 5 ⟨B, 0, none⟩ c l Tryz.underlying99 Tryz.underlying5 Tryz.underlying9 (fun j hj => by
    rw [Addr.add_mid, Nat.zero_add, Row.cell h (by omega), hv j (by omega)]
    simp [hj])
  rw [hl] at this
  exact this
theorem pad_at (l : List UInt8) (x : UInt8) (i : Nat) (h : i < 64) : (pad l x).getD i 0 = l.getD i 0 ^^^ x := by simp [pad, h]
set_option maxRecDepth 100000 in
theorem pad_str {W : World} {B t c : Nat} {l : List UInt8} {x : UInt8} {n : Nat} (hn : 64 ≤ n) (h : Row W B t 64 (xr l x n)) : (convert 99 9 (.slice (some ⟨B, 0, none⟩) 64 c)).run Tryz.prog W = .ok (.string ⟨(pad l x).toArray⟩) W :=
  row_str (pad l x) (pad_len l x) (fun i hi => by rw [xr_lo _ _ _ _ (by omega), pad_at _ _ _ hi]) h
structure MB (w wx : World) (I O t : Nat) (fi fo : Nat → Value) : Prop where
  ri : Row wx I t 64 fi
  ro : Row wx O t 64 fo
  r0 : Row wx w.heap.size 31 32 zb
  bel : Below w.heap.size w wx
theorem cat_list (a b : ByteArray) : (a ++ b).data.toList = a.data.toList ++ b.data.toList := by
  show (ByteArray.append _ _).data.toList = _
  simp [ByteArray.append]

set_option maxRecDepth 100000 in
set_option maxHeartbeats 4000000 in
theorem mac_any (key s : ByteArray) (w : World) (hk : key.size ≤ 1073741824) (hs : s.size ≤ 1073741760) (hr : Rnd w) (h0 : 0 < w.heap.size) :
    Calls Tryz.prog 115 #[.string key, .string s] w fun e w' => e = .returned (.agg (arr 32 (b8 (macD key.data.toList s.data.toList)))) ∧ Below w.heap.size w w' := by
  have HR := Lib.hid hr
  clear hr
  have a1 : Row (w.alloc (.cells (arr 32 zb) 31)) w.heap.size 31 32 zb := Row.ofList w 31 _ _ 32 rfl
  have A1 := Lib.hid a1
  have hB1 : Below w.heap.size w (w.alloc (.cells (arr 32 zb) 31)) := (Below.refl _ _).alloc (Nat.le_refl _) _
  clear a1
  go_enter Tryz.func115, Tryz.ntmps115
  go_upto_if 12 with fail
  go_cut [0] (fun k wx => ∃ K : ByteArray, k = .string K ∧ K.size ≤ 64 ∧ Hid (K.data.toList = kk key.data.toList) ∧ Hid (Row wx w.heap.size 31 32 zb) ∧ Below w.heap.size w wx)
  case first =>
    by_cases h64 : 64 < key.size
    · go_wp2_with fail
      refine (sum_any key _ hk (by exact HR.out.below hB1 h0) (by simp)).mono ?_
      rintro e w1 ⟨rfl, hb⟩
      have c1 := dig_str (sumD_byt key.data.toList) (Row.ofList w1 31 (arr 32 (b8 (sumD key.data.toList))) _ 32 rfl)
      go_wp2_with fail
      go_meet
      refine ⟨⟨(dl (sumD key.data.toList)).toArray⟩, rfl, ?_, ?_, (A1.out.below hb (by simp)).alloc _, (hB1.trans (hb.mono (by simp))).alloc (by have := hb.size; simp at this; omega) _⟩
      · rw [size_eq]; simp [dl_len]
      · show dl (sumD key.data.toList) = kk key.data.toList
        unfold kk; rw [if_pos (by rw [← size_eq]; exact h64)]
    · go_wp2_with fail
      go_meet
      refine ⟨key, rfl, by omega, ?_, A1, hB1⟩
      show key.data.toList = kk key.data.toList
      unfold kk; rw [if_neg (by rw [← size_eq]; exact h64)]
  case rest =>
    clear A1 hB1
    obtain ⟨K, rfl, hK, hKK, h26, hbw⟩ := hcut
    have hKl : (kk key.data.toList).length ≤ 64 := kk_len _
    have q1 : Hid (MB w ((wc.alloc (.cells (arr 64 zb) 219)).alloc (.cells (arr 64 zb) 219)) wc.heap.size (wc.heap.size + 1) 219 zb zb) := ⟨(Row.ofList wc 219 _ _ 64 rfl).alloc _, Row.ofListAt _ _ 219 (by simp) _ _ 64 rfl, (h26.out.alloc _).alloc _, (hbw.alloc hbw.size _).alloc (by have := hbw.size; simp; omega) _⟩
    have hI : w.heap.size < wc.heap.size := h26.out.lt
    have hcp : (Builtin.copy_ #[99, 9] 3 #[.slice (some ⟨wc.heap.size, 0, none⟩) 64 64, .string K]).run Tryz.prog ((wc.alloc (.cells (arr 64 zb) 219)).alloc (.cells (arr 64 zb) 219)) = .ok (goInt K.size) (((wc.alloc (.cells (arr 64 zb) 219)).alloc (.cells (arr 64 zb) 219)).setCells wc.heap.size 0 (byv K.data.toList)) := Go.run_copy_string (P := Tryz.prog) ((wc.alloc (.cells (arr 64 zb) 219)).alloc (.cells (arr 64 zb) 219)) 99 9 3 5 wc.heap.size 0 64 64 K Tryz.underlying99 (fun _ => by kernel_rfl) hK (fun j hj => by rw [Nat.zero_add, Row.cell q1.out.ri (by omega)]; rfl) (fun j hj => Row.frozen q1.out.ri _)
    have q2 : Hid (MB w (((wc.alloc (.cells (arr 64 zb) 219)).alloc (.cells (arr 64 zb) 219)).setCells wc.heap.size 0 (byv K.data.toList)) wc.heap.size (wc.heap.size + 1) 219 (xr (kk key.data.toList) 54 0) zb) := by
      rw [hKK.out]
      exact ⟨copied 54 q1.out.ri hKl, Row.farAll (by omega) _ _ _ q1.out.ro, Row.farAll (by omega) _ _ _ q1.out.r0, Below.setAll (by omega) _ _ _ q1.out.bel⟩
    have hcp2 : (Builtin.copy_ #[99, 9] 3 #[.slice (some ⟨wc.heap.size + 1, 0, none⟩) 64 64, .string K]).run Tryz.prog (((wc.alloc (.cells (arr 64 zb) 219)).alloc (.cells (arr 64 zb) 219)).setCells wc.heap.size 0 (byv K.data.toList)) = .ok (goInt K.size) ((((wc.alloc (.cells (arr 64 zb) 219)).alloc (.cells (arr 64 zb) 219)).setCells wc.heap.size 0 (byv K.data.toList)).setCells (wc.heap.size + 1) 0 (byv K.data.toList)) := Go.run_copy_string (P := Tryz.prog) (((wc.alloc (.cells (arr 64 zb) 219)).alloc (.cells (arr 64 zb) 219)).setCells wc.heap.size 0 (byv K.data.toList)) 99 9 3 5 (wc.heap.size + 1) 0 64 64 K Tryz.underlying99 (fun _ => by kernel_rfl) hK (fun j hj => by rw [Nat.zero_add, Row.cell q2.out.ro (by omega)]; rfl) (fun j hj => Row.frozen q2.out.ro _)
    have q3 : Hid (MB w ((((wc.alloc (.cells (arr 64 zb) 219)).alloc (.cells (arr 64 zb) 219)).setCells wc.heap.size 0 (byv K.data.toList)).setCells (wc.heap.size + 1) 0 (byv K.data.toList)) wc.heap.size (wc.heap.size + 1) 219 (xr (kk key.data.toList) 54 0) (xr (kk key.data.toList) 92 0)) := by
      rw [hKK.out] at q2 ⊢
      exact ⟨Row.farAll (by omega) _ _ _ q2.out.ri, copied 92 q2.out.ro hKl, Row.farAll (by omega) _ _ _ q2.out.r0, Below.setAll (by omega) _ _ _ q2.out.bel⟩
    clear q1 q2
    go_wp2_with fail
    clear hcp hcp2
    have hle1 : w.heap.size ≤ wc.heap.size := by omega
    have hle2 : w.heap.size ≤ wc.heap.size + 1 := by omega
    have hne0 : wc.heap.size ≠ wc.heap.size + 1 := by omega
    have hne0' : wc.heap.size + 1 ≠ wc.heap.size := by omega
    have hne1 : w.heap.size ≠ wc.heap.size := by omega
    have hne2 : w.heap.size ≠ wc.heap.size + 1 := by omega
    generalize ((((wc.alloc (.cells (arr 64 zb) 219)).alloc (.cells (arr 64 zb) 219)).setCells wc.heap.size 0 (byv K.data.toList)).setCells (wc.heap.size + 1) 0 (byv K.data.toList)) = W0 at q3 ⊢
    go_loopw [23] (fun x wr => ∃ i : Nat, i ≤ 64 ∧ x = .int .i64 i ∧ Hid (MB w wr wc.heap.size (wc.heap.size + 1) 219 (xr (kk key.data.toList) 54 i) (xr (kk key.data.toList) 92 i))) (fun x _ => 64 - (intOf x).toNat)
    case atStart => exact ⟨0, by omega, rfl, q3⟩
    case round =>
      clear q3
      obtain ⟨i, hi, rfl, hM⟩ := hrel
      by_cases h64 : i < 64
      · have z0 : (i : Int) < 64 := by omega
        have c1 := Row.cell hM.out.ri h64
        have c2 := Row.cell hM.out.ro h64
        rw [xr_hi _ _ _ _ (Nat.le_refl _)] at c1 c2
        have f1 := Row.frozen hM.out.ri i
        have f2 := Row.frozen hM.out.ro i
        have HX := Lib.hid (And.intro (xor54 ((kk key.data.toList).getD i 0)) (xor92 ((kk key.data.toList).getD i 0)))
        have hb0 := ((kk key.data.toList).getD i 0).toNat_lt
        generalize hy : ((kk key.data.toList).getD i 0).toNat = y at c1 c2 HX hb0
        have HY := Lib.hid hy
        clear hy
        go_wp2_with fail
        refine ⟨⟨i + 1, by omega, by go_num, ?_⟩, by simp [intOf]; omega⟩
        rw [HX.out.1, HX.out.2]
        have r1 := Row.set hM.out.ri (i := i) h64 (.int .u8 (((((kk key.data.toList).getD i 0) ^^^ 54).toNat : Nat) : Int))
        have r2 := Row.set hM.out.ro (i := i) h64 (.int .u8 (((((kk key.data.toList).getD i 0) ^^^ 92).toNat : Nat) : Int))
        rw [xr_step] at r1 r2
        exact ⟨Row.far r1 hne0 _, Row.set (Row.far hM.out.ro hne0' _) h64 _ |>.congr (fun j hj => by rw [xr_step]), Row.far (Row.far hM.out.r0 hne1 _) hne2 _, (hM.out.bel.setCell hle1 _).setCell hle2 _⟩
      · have z0 : ¬ (i : Int) < 64 := by omega
        have hp1 := pad_str (c := 64) (show 64 ≤ i by omega) hM.out.ri
        have hl1 : ¬ 9223372036854775807 < (pad (kk key.data.toList) 54).length + s.size := by rw [pad_len]; omega
        go_wp2_with fail
        obtain ⟨S, hS⟩ : ∃ S : ByteArray, S = ({ data := (pad (kk key.data.toList) 54).toArray } ++ s : ByteArray) := ⟨_, rfl⟩
        have HSd : Hid (S.data.toList = pad (kk key.data.toList) 54 ++ s.data.toList) := by rw [hS]; exact cat_list _ _
        have hSz : S.size ≤ 1073741824 := by rw [size_eq, HSd.out, List.length_append, pad_len, ← size_eq]; omega
        rw [← hS]
        clear hS hp1 hl1
        refine (sum_any S wr hSz (HR.out.below hM.out.bel h0) (by have := hM.out.bel.size; omega)).mono ?_
        rintro e w1 ⟨rfl, hb1⟩
        rw [HSd.out]
        have hlO := hM.out.ro.lt
        have ro1 := Lib.hid ((hM.out.ro.below hb1 hlO).alloc (.cells (arr 32 (b8 (sumD (pad (kk key.data.toList) 54 ++ s.data.toList)))) 31))
        have r01 := Lib.hid ((hM.out.r0.below hb1 hM.out.r0.lt).alloc (.cells (arr 32 (b8 (sumD (pad (kk key.data.toList) 54 ++ s.data.toList)))) 31))
        have rd1 : Hid (Row (w1.alloc (.cells (arr 32 (b8 (sumD (pad (kk key.data.toList) 54 ++ s.data.toList)))) 31)) w1.heap.size 31 32 (b8 (sumD (pad (kk key.data.toList) 54 ++ s.data.toList)))) := Row.ofList w1 31 _ _ 32 rfl
        have bb1 : Below w.heap.size w w1 := hM.out.bel.trans (hb1.mono hM.out.bel.size)
        have bb2 := bb1.alloc bb1.size (.cells (arr 32 (b8 (sumD (pad (kk key.data.toList) 54 ++ s.data.toList)))) 31)
        clear hb1 bb1
        go_wp2_with fail
        generalize w1.alloc (.cells (arr 32 (b8 (sumD (pad (kk key.data.toList) 54 ++ s.data.toList)))) 31) = W1 at ro1 r01 rd1 bb2 ⊢
        have hp2 := pad_str (c := 64) (show 64 ≤ i by omega) ro1.out.drew
        have hp3 := dig_str (sumD_byt _) rd1.out.drew
        have hl2 : ¬ 9223372036854775807 < (pad (kk key.data.toList) 92).length + (dl (sumD (pad (kk key.data.toList) 54 ++ s.data.toList))).length := by rw [pad_len, dl_len]; omega
        go_still_tail 5, (by kernel_rfl)
        change wpList _ _ _ _ _ W1.drew
        obtain ⟨S2, hS2⟩ : ∃ S2 : ByteArray, S2 = ({ data := (pad (kk key.data.toList) 92).toArray } ++ { data := (dl (sumD (pad (kk key.data.toList) 54 ++ s.data.toList))).toArray } : ByteArray) := ⟨_, rfl⟩
        have HSd2 : Hid (S2.data.toList = pad (kk key.data.toList) 92 ++ dl (sumD (pad (kk key.data.toList) 54 ++ s.data.toList))) := by rw [hS2]; exact cat_list _ _
        have hSz2 : S2.size ≤ 1073741824 := by rw [size_eq, HSd2.out, List.length_append, pad_len, dl_len]; omega
        rw [← hS2]
        clear hS2 hp2 hp3 hl2
        go_wp2_with fail
        refine (sum_any S2 W1.drew hSz2 (HR.out.below bb2.drew h0) (by have := bb2.size; show 0 < W1.heap.size; omega)).mono ?_
        rintro e w2 ⟨rfl, hb2⟩
        rw [HSd2.out]
        have r02 := Lib.hid (r01.out.drew.below hb2 r01.out.lt)
        have bb3 : Below w.heap.size w w2 := bb2.drew.trans (hb2.mono bb2.size)
        have hst : stN 32 w2 (.pointer (some ⟨w.heap.size, 0, none⟩)) (.agg (arr 32 (b8 (sumD (pad (kk key.data.toList) 92 ++ dl (sumD (pad (kk key.data.toList) 54 ++ s.data.toList))))))) = some (w.heap.size, 0, arr 32 (b8 (sumD (pad (kk key.data.toList) 92 ++ dl (sumD (pad (kk key.data.toList) 54 ++ s.data.toList)))))) := stN_of (by simp [arr]) r02.out.there (all_one _ _ (fun _ => rfl))
        have hrow := Lib.hid (Row.setWhole (u := b8 (macD key.data.toList s.data.toList)) r02.out)
        clear hb2
        go_wp2_with fail
        exact bodyPost_ret (v := .agg (arr 32 (b8 (macD key.data.toList s.data.toList)))) (results_cell_row rfl _ _ w.heap.size 31 (arr 32 (b8 (macD key.data.toList s.data.toList))) (0, 0) _ rfl hrow.out.arr Tryz.underlying31 rfl (by kernel_rfl)) rfl ⟨rfl, Below.setAll (Nat.le_refl _) _ _ _ bb3⟩
end Go.Proofs.YtdinbpdpalgohaaGreatDoor.Ms
namespace Go.Proofs.YtdinbpdpalgohaaGreatDoor.Ms
open Go.RowKit
attribute [local go_sem ↓] alloc26 alloc63 alloc68 alloc77 load63n store63n load77n store77n load26n store26n
attribute [local go_sem] stN_uc stN_b8 set_new fold_drew ldN_drew ldN_drewN stN_drew stN_drewN

/-- The cells of the mixed key, the first n written. -/
def xz (l : List UInt8) (x : UInt8) (n i : Nat) : Value := if i < n then .int .u8 (((l.getD i 0 ^^^ x).toNat : Nat) : Int) else zb i
theorem xz_hi (l : List UInt8) (x : UInt8) (n i : Nat) (h : n ≤ i) : xz l x n i = zb i := if_neg (by omega)
theorem xz_lo (l : List UInt8) (x : UInt8) (n i : Nat) (h : i < n) : xz l x n i = .int .u8 (((l.getD i 0 ^^^ x).toNat : Nat) : Int) := if_pos h
theorem xz_step (l : List UInt8) (x : UInt8) (n : Nat) : upd (xz l x n) n (.int .u8 (((l.getD n 0 ^^^ x).toNat : Nat) : Int)) = xz l x (n + 1) := by
  funext q
  by_cases e : q = n
  · subst e; rw [upd_hit, xz_lo _ _ _ _ (by omega)]
  · rw [upd_miss _ _ e]
    by_cases h : q < n
    · rw [xz_lo _ _ _ _ h, xz_lo _ _ _ _ (by omega)]
    · rw [xz_hi _ _ _ _ (by omega), xz_hi _ _ _ _ (by omega)]
set_option maxRecDepth 100000 in
theorem padz_str {W : World} {B t c : Nat} {l : List UInt8} {x : UInt8} {n : Nat} (hn : 64 ≤ n) (h : Row W B t 64 (xz l x n)) : (convert 99 9 (.slice (some ⟨B, 0, none⟩) 64 c)).run Tryz.prog W = .ok (.string ⟨(pad l x).toArray⟩) W :=
  row_str (pad l x) (pad_len l x) (fun i hi => by rw [xz_lo _ _ _ _ (by omega), pad_at _ _ _ hi]) h

end Go.Proofs.YtdinbpdpalgohaaGreatDoor.Ms
namespace Go.Proofs.YtdinbpdpalgohaaGreatDoor.Ms
open Go.RowKit
attribute [local go_sem ↓] alloc26 load26n store26n
attribute [local go_sem] stN_uc stN_b8 set_new fold_drew ldN_drew ldN_drewN stN_drew stN_drewN

set_option maxRecDepth 100000 in
theorem measure_bad (B : Nat) (r : Int) (t s : ByteArray) (w : World) (hr : r < 0 ∨ 8 ≤ r) :
    Calls Tryz.prog 60 #[.pointer (some ⟨B, 0, none⟩), .int .i64 r, .string t, .string s] w fun e w' => e = .returned (.int .i64 1) ∧ w = w' := by
  go_enter Tryz.func60, Tryz.ntmps60
  go_wp2_with (go_at_call 113; refine (isreg_no r _ hr).mono ?_; rintro e w1 ⟨rfl, rfl⟩)
  go_ret
  exact ⟨rfl, rfl⟩
set_option maxRecDepth 100000 in
theorem measure_long (B : Nat) (r : Int) (t s : ByteArray) (w : World) (h64 : 64 < t.size) :
    Calls Tryz.prog 60 #[.pointer (some ⟨B, 0, none⟩), .int .i64 r, .string t, .string s] w fun e w' => e = .returned (.int .i64 1) ∧ w = w' := by
  by_cases hr : r < 0 ∨ 8 ≤ r
  · exact measure_bad B r t s w hr
  · obtain ⟨n, rfl⟩ := Int.eq_ofNat_of_zero_le (show 0 ≤ r by omega)
    have d1 : decide ((t.size : Int) > 64) = true := by simp; omega
    go_enter Tryz.func60, Tryz.ntmps60
    go_wp2_with (go_at_call 113; refine (isreg_yes n _ (by omega)).mono ?_; rintro e w1 ⟨rfl, rfl⟩)
    go_ret
    exact ⟨rfl, rfl⟩
set_option maxRecDepth 100000 in
theorem measure_full (base B r : Nat) (es : List Ev) (t s : ByteArray) (w : World) (hr : r < 8) (ht : t.size ≤ 64) (hes : 256 ≤ es.length) (hes2 : es.length ≤ 1000) (h : LOG w base B es) :
    Calls Tryz.prog 60 #[.pointer (some ⟨B, 0, none⟩), .int .i64 (r : Int), .string t, .string s] w fun e w' => e = .returned (.int .i64 8) ∧ w = w' := by
  obtain ⟨hbB, v, hL, hO⟩ := h
  obtain ⟨va, vc, rfl⟩ := own_len hO
  have c256 : w.cell? ⟨B, 256, none⟩ = some (.slice va es.length vc) := Row.cell hL (i := 256) (by omega)
  have d1 : decide ((t.size : Int) > 64) = false := by simp; omega
  have d2 : decide ((es.length : Int) ≥ 256) = true := by simp; omega
  clear hL hO
  go_enter Tryz.func60, Tryz.ntmps60
  go_wp2_with (go_at_call 113; refine (isreg_yes r _ hr).mono ?_; rintro e w1 ⟨rfl, rfl⟩)
  go_ret
  exact ⟨rfl, rfl⟩
theorem log_new {w : World} {base B : Nat} (hB : base ≤ B) (h : LG w B (fun _ _ => 0) (.slice none 0 0)) : LOG w base B [] := ⟨hB, .slice none 0 0, h, rfl, .inl ⟨rfl, rfl⟩⟩
theorem LOG.below {w w' : World} {base B B0 : Nat} {es : List Ev} (h : LOG w base B es) (hb : Below B0 w w') (hB : w.heap.size ≤ B0) : LOG w' base B es := by
  obtain ⟨h1, v, h2, h3⟩ := h
  exact ⟨h1, v, h2.below hb (by have := h2.lt; omega), own_below h3 hb hB⟩
theorem LOG.lg {w : World} {base B : Nat} {es : List Ev} (h : LOG w base B es) : ∃ v, LG w B (regs es) v := by
  obtain ⟨_, v, h2, _⟩ := h
  exact ⟨v, h2⟩

set_option maxRecDepth 1000000 in
theorem abc_0 : sumD [97, 98, 99] 0 = 186 ∧ sumD [97, 98, 99] 1 = 120 ∧ sumD [97, 98, 99] 31 = 173 := by decide +kernel
set_option maxRecDepth 1000000 in
theorem mac_0 : macD [107, 101, 121] [84, 104, 101, 32, 113, 117, 105, 99, 107, 32, 98, 114, 111, 119, 110, 32, 102, 111, 120, 32, 106, 117, 109, 112, 115, 32, 111, 118, 101, 114, 32, 116, 104, 101, 32, 108, 97, 122, 121, 32, 100, 111, 103] 0 = 247 ∧
    macD [107, 101, 121] [84, 104, 101, 32, 113, 117, 105, 99, 107, 32, 98, 114, 111, 119, 110, 32, 102, 111, 120, 32, 106, 117, 109, 112, 115, 32, 111, 118, 101, 114, 32, 116, 104, 101, 32, 108, 97, 122, 121, 32, 100, 111, 103] 1 = 188 := by decide +kernel
end Go.Proofs.YtdinbpdpalgohaaGreatDoor.Ms
namespace Go.Proofs.YtdinbpdpalgohaaGreatDoor.Ms
open Go.RowKit
attribute [local go_sem ↓] alloc26 load26n store26n
attribute [local go_sem ↓] Go.wp_at_zero Go.wp_at_succ
attribute [local go_sem] stN_uc stN_b8 set_new fold_drew ldN_drew ldN_drewN stN_drew stN_drewN

theorem arr_dl {D : Nat → Int} (h : Byt D) : arr 32 (b8 D) = ((dl D).map Extern.Stop.cell).toArray := by
  unfold arr dl
  rw [List.map_map]
  congr 1
  apply List.map_congr_left
  intro i _
  have := h i
  have e : ((((D i).toNat % 2 ^ 8 : Nat)) : Int) = D i := by omega
  simp only [Function.comp_def, Extern.Stop.cell, b8, UInt8.toNat_ofNat']
  exact congrArg (Value.int .u8) e.symm
set_option maxRecDepth 100000 in
theorem eqD {D E : Nat → Int} (hD : Byt D) (hE : Byt E) (w : World) : (binOp .eql 31 (.agg (arr 32 (b8 D))) (.agg (arr 32 (b8 E)))).run Tryz.prog w = .ok (.bool (dl D == dl E)) w := by
  rw [arr_dl hD, arr_dl hE]
  exact run_eql_bytes w 31 5 32 Tryz.underlying31 Tryz.underlying5 (fun _ => by kernel_rfl) (dl D) (dl E) (dl_len D) (dl_len E)
set_option maxRecDepth 100000 in
theorem eqDD {D : Nat → Int} (hD : Byt D) (w : World) : (binOp .eql 31 (.agg (arr 32 (b8 D))) (.agg (arr 32 (b8 D)))).run Tryz.prog w = .ok (.bool true) w := by
  rw [eqD hD hD]; simp
set_option maxRecDepth 100000 in
theorem neD {D E : Nat → Int} (hD : Byt D) (hE : Byt E) (w : World) : (binOp .neq 31 (.agg (arr 32 (b8 D))) (.agg (arr 32 (b8 E)))).run Tryz.prog w = .ok (.bool (!(dl D == dl E))) w := by
  have h : Sem.run Tryz.prog (Op.equal 31 (.agg (arr 32 (b8 D))) (.agg (arr 32 (b8 E)))) w = .ok (dl D == dl E) w := by
    rw [arr_dl hD, arr_dl hE]
    exact run_equalIn_bytes w 9998 31 5 32 Tryz.underlying31 Tryz.underlying5 (fun _ => by kernel_rfl) (dl D) (dl E) (dl_len D) (dl_len E)
  simp [binOp, h]
end Go.Proofs.YtdinbpdpalgohaaGreatDoor.Ms
namespace Go.Proofs.YtdinbpdpalgohaaGreatDoor.Ms
open Go.RowKit
attribute [local go_sem ↓] alloc26 load26n store26n
attribute [local go_sem] stN_uc stN_b8 set_new fold_drew ldN_drew ldN_drewN stN_drew stN_drewN

theorem rangeAt_below {w w' : World} {b o B0 : Nat} {cs : List Value} (h : w.rangeAt b o cs) (hb : Below B0 w w') (hB : b < B0) : w'.rangeAt b o cs := fun j u hu => (hb.cell (p := ⟨b, o + j, none⟩) hB).trans (h j u hu)
theorem rangeAt_ch {C : Nat → Prop} {w w' : World} {b o : Nat} {cs : List Value} (h : w.rangeAt b o cs) (hb : Ch C w w') (hl : b < w.heap.size) (hB : ¬ C b) : w'.rangeAt b o cs := fun j u hu => (hb.cell ⟨b, o + j, none⟩ hl hB).trans (h j u hu)
/-- v reads as these events. -/
def RdE (w : World) (v : Value) (es : List Ev) : Prop := ∃ a c, v = .slice a es.length c ∧ (es ≠ [] → ∃ b o, a = some ⟨b, o, none⟩ ∧ b < w.heap.size ∧ ∀ i e, es[i]? = some e → w.rangeAt b (o + i * 34) (evc e))
theorem RdE.below {w w' : World} {v : Value} {es : List Ev} {B0 : Nat} (h : RdE w v es) (hb : Below B0 w w') (hB : w.heap.size ≤ B0) : RdE w' v es := by
  obtain ⟨a, c, rfl, h⟩ := h
  refine ⟨a, c, rfl, fun hne => ?_⟩
  obtain ⟨b, o, rfl, hl, hr⟩ := h hne
  exact ⟨b, o, rfl, by have := hb.size; omega, fun i e he => rangeAt_below (hr i e he) hb (by omega)⟩
theorem RdE.ch {C : Nat → Prop} {w w' : World} {v : Value} {es : List Ev} (h : RdE w v es) (hb : Ch C w w') (hC : ∀ i, C i → w.heap.size ≤ i) : RdE w' v es := by
  obtain ⟨a, c, rfl, h⟩ := h
  refine ⟨a, c, rfl, fun hne => ?_⟩
  obtain ⟨b, o, rfl, hl, hr⟩ := h hne
  exact ⟨b, o, rfl, by have := hb.size; omega, fun i e he => rangeAt_ch (hr i e he) hb hl (fun h => by have := hC b h; omega)⟩
/-- v is a slice of the call's own that holds these events. -/
def OE (w : World) (base : Nat) (v : Value) (es : List Ev) : Prop := w.ownsRow base 62 34 v es.length (evs es)
theorem evs_at (es : List Ev) : ∀ (i : Nat) (e : Ev), es[i]? = some e → ∀ j u, (evc e)[j]? = some u → (evs es)[i * 34 + j]? = some u := by
  induction es with
  | nil => intro i e h; simp at h
  | cons x r ih =>
    intro i e h j u hu
    have hj : j < 34 := by have := (List.getElem?_eq_some_iff.1 hu).1; rw [evc_len] at this; exact this
    show (evc x ++ evs r)[i * 34 + j]? = some u
    cases i with
    | zero =>
      have : x = e := by simpa using h
      subst this
      rw [List.getElem?_append_left (by rw [evc_len]; omega)]
      simpa using hu
    | succ i =>
      rw [List.getElem?_append_right (by rw [evc_len]; omega), evc_len, show (i + 1) * 34 + j - 34 = i * 34 + j by omega]
      exact ih i e (by simpa using h) j u hu
set_option maxRecDepth 100000 in
theorem OE.rd {w : World} {base : Nat} {v : Value} {es : List Ev} (h : OE w base v es) : RdE w v es := by
  obtain ⟨hl, ⟨rfl, h0⟩ | ⟨g, cap, cur, rfl, hb, hh, h1, h2, h3, h4⟩⟩ := h
  · have : es = [] := List.eq_nil_of_length_eq_zero h0
    subst this
    exact ⟨none, 0, rfl, fun h => absurd rfl h⟩
  · refine ⟨_, _, rfl, fun _ => ⟨g, 0, rfl, heap_lt hh, fun i e he j u hu => ?_⟩⟩
    have := evs_at es i e he j u hu
    have hlt := (List.getElem?_eq_some_iff.1 this).1
    rw [← h4, List.getElem?_take] at this
    split at this
    · rw [cell_of_row w g _ cur 62 (0, 0) hh, ← Array.getElem?_toList, show 0 + i * 34 + j = i * 34 + j by omega]
      exact this
    · cases this
theorem OE.below {w w' : World} {base B0 : Nat} {v : Value} {es : List Ev} (h : OE w base v es) (hb : Below B0 w w') (hB : w.heap.size ≤ B0) : OE w' base v es := own_below h hb hB
theorem LOG.cells {w : World} {base B : Nat} {es : List Ev} (h : LOG w base B es) : ∃ v, w.cell? ⟨B, 256, none⟩ = some v ∧ OE w base v es ∧ B < w.heap.size := by
  obtain ⟨_, v, hL, hO⟩ := h
  exact ⟨v, by rw [Row.cell hL (i := 256) (by omega), lgv_ev], hO, hL.lt⟩

set_option maxRecDepth 100000 in
theorem app0 (W : World) (h c : Nat) (a : Option Addr) : (Builtin.append_ #[59, 59] 59 #[.slice (some ⟨h, 0, none⟩) 0 0, .slice a 0 c]).run Tryz.prog W = .ok (.slice (some ⟨h, 0, none⟩) 0 0) W := by
  obtain ⟨i0, hi0, hz0, hz1, hz2⟩ := info_parts Tryz.info62
  cases a <;> simp [Builtin.append_, run_underlying Tryz.underlying59, sizeOf, typeInfo, hi0, Builtin.lenOf, Builtin.firstCells, storeCells, loadCells, loadCellsFrom]
/-- A slice of these events, in new memory. -/
def NewE (w : World) (es : List Ev) (e : Ending) (w' : World) : Prop := ∃ v, e = .returned v ∧ OE w' w.heap.size v es ∧ Below w.heap.size w w'
set_option maxRecDepth 100000 in
set_option maxHeartbeats 1000000 in
theorem clone_any (v : Value) (es : List Ev) (w : World) (h : RdE w v es) (hl : es.length ≤ 1000) : Calls Tryz.prog 67 #[v] w (NewE w es) := by
  obtain ⟨a, c, rfl, hr⟩ := h
  have hnil := fun W => Lib.run_eql_slice_nil (P := Tryz.prog) W 59 62 a es.length c 0 0 Tryz.underlying59
  cases a with
  | none =>
    have he : es = [] := by
      rcases es with _ | ⟨x, r⟩
      · rfl
      · obtain ⟨b, o, hx, _⟩ := hr (by simp); cases hx
    subst he
    have hnil0 : ∀ W, (binOp .eql 59 (.slice none 0 c) (.slice none 0 0)).run Tryz.prog W = .ok (.bool true) W := hnil
    clear hnil
    go_enter Tryz.func67, Tryz.ntmps67
    go_wp2_with fail
    go_ret
    exact ⟨_, rfl, ⟨rfl, .inl ⟨rfl, rfl⟩⟩, Below.refl _ _⟩
  | some ad =>
    simp only [Option.isNone_some] at hnil
    have hmk : ∀ W, (Instr.buildSlice 59 0 #[]).run Tryz.prog W = .ok (.slice (some ⟨W.heap.size, 0, none⟩) 0 0) (W.alloc (.cells #[] 62)) := fun _ => by kernel_rfl
    have ho : Hid ((w.alloc (.cells #[] 62)).ownsRow w.heap.size 62 34 (.slice (some ⟨w.heap.size, 0, none⟩) 0 0) 0 []) := ⟨rfl, .inr ⟨w.heap.size, 0, #[], rfl, Nat.le_refl _, heap_alloc_new w _, Nat.le_refl _, by simp [maxLen], rfl, rfl⟩⟩
    by_cases he : es = []
    · subst he
      have hnil0 : ∀ W, (binOp .eql 59 (.slice (some ad) 0 c) (.slice none 0 0)).run Tryz.prog W = .ok (.bool false) W := hnil
      clear hnil
      have ha := app0 (w.alloc (.cells #[] 62)) w.heap.size c (some ad)
      go_enter Tryz.func67, Tryz.ntmps67
      go_wp2_with fail
      go_ret
      exact ⟨_, rfl, ho.out, (Below.refl _ _).alloc (Nat.le_refl _) _⟩
    · obtain ⟨b, o, hx, hbl, hrg⟩ := hr he
      injection hx with hx
      subst hx
      have hpos : 0 < es.length := List.length_pos_iff.2 he
      obtain ⟨i0, hi0, hz0, hz1, hz2⟩ := info_parts Tryz.info62
      have hnews : Hid (∀ j u, (evs es)[j]? = some u → (w.alloc (.cells #[] 62)).cell? ((⟨b, o, none⟩ : Addr).add j) = some u) := fun j u hu => by
        have hj : j < es.length * 34 := by have := (List.getElem?_eq_some_iff.1 hu).1; rw [evs_len] at this; exact this
        have hi : j / 34 < es.length := by omega
        have hee : es[j / 34]? = some es[j / 34] := List.getElem?_eq_getElem hi
        have hjj : (evc es[j / 34])[j % 34]? = some ((evc es[j / 34])[j % 34]'(by rw [evc_len]; omega)) := List.getElem?_eq_getElem _
        have h1 := evs_at es _ _ hee _ _ hjj
        rw [show j / 34 * 34 + j % 34 = j by omega, hu] at h1
        injection h1 with h1
        have h2 := hrg _ _ hee _ _ hjj
        rw [Addr.add_mid, show o + j = o + j / 34 * 34 + j % 34 by omega, h1]
        rw [World.cell?_of_block (w := w) (Below.heap_alloc w _ b hbl)]
        exact h2
      have hone : Hid (∀ u ∈ evs es, u.oneCell' = true) := fun u hu => by
        obtain ⟨x, _, hx⟩ := List.mem_flatMap.1 hu
        rcases List.mem_cons.1 hx with rfl | hx
        · rfl
        rcases List.mem_append.1 hx with hx | hx
        · simp only [arr, List.mem_map] at hx; obtain ⟨i, _, rfl⟩ := hx; rfl
        · rw [List.mem_singleton.1 hx]; rfl
      have HE := Lib.hid he
      clear he hr
      go_enter Tryz.func67, Tryz.ntmps67
      go_wp2_with (at_builtin; refine wpList_append_lies _ rfl _ _ 59 rfl w.heap.size 62 i0 _ 34 56 Tryz.underlying59 hi0 hz0 hz1 hz2 (by kernel_rfl) (by omega) _ 0 [] rfl (by exact ho.out) ⟨b, o, none⟩ es.length c (evs es) rfl (evs_len es) (by exact hnews.out) hone.out hpos (by simp only [maxLen]; omega) (by omega) (by simp) (w.heap.size + 1) (by simp) ?_)
      intro g cap w' hown hgrow hat hlt
      have hb : Below w.heap.size w w' := Below.grown ((Below.refl _ _).alloc (Nat.le_refl _) _) hgrow (by simp) (fun k hk => by
        have : w.heap.size = k := by simpa [Value.ownBlock] using hk
        omega)
      have HO := Lib.hid hown
      clear hown hgrow hat
      go_wp2_with fail
      go_ret
      exact ⟨_, rfl, HO.out, hb⟩
set_option maxRecDepth 100000 in
set_option maxHeartbeats 1000000 in
theorem events_any (base B : Nat) (es : List Ev) (w : World) (h : LOG w base B es) (hl : es.length ≤ 1000) : Calls Tryz.prog 28 #[.pointer (some ⟨B, 0, none⟩)] w (NewE w es) := by
  obtain ⟨v, hv, hO, hB⟩ := h.cells
  have HO := Lib.hid hO.rd
  clear hO h
  go_enter Tryz.func28, Tryz.ntmps28
  go_wp2_with fail
  refine (clone_any v es _ HO.out hl).mono ?_
  rintro e w' ⟨v', rfl, hO', hb⟩
  have HO' := Lib.hid hO'
  clear hO'
  go_wp2_with fail
  go_ret
  exact ⟨_, rfl, HO'.out, hb⟩
end Go.Proofs.YtdinbpdpalgohaaGreatDoor.Ms
namespace Go.Proofs.YtdinbpdpalgohaaGreatDoor.Ms
open Go.RowKit

/-- The blocks of a log: its own and that of its events. -/
def FP (B : Nat) (v : Value) (k : Nat) : Prop := k = B ∨ v.ownBlock = some k
def LOGN (w0 : World) (v0 : Value) (w : World) (base B : Nat) (es : List Ev) : Prop := base ≤ B ∧ ∃ v, LG w B (regs es) v ∧ w.ownsRow base 62 34 v es.length (evs es) ∧ ∀ g, v.ownBlock = some g → v0.ownBlock = some g ∨ w0.heap.size ≤ g
def RLOGN (w0 : World) (v0 : Value) (w : World) (base B : Nat) (es : List Ev) : Prop := base ≤ B ∧ ∃ v, Row w B 174 1 (fun _ => v) ∧ w.ownsRow base 62 34 v es.length (evs es) ∧ ∀ g, v.ownBlock = some g → v0.ownBlock = some g ∨ w0.heap.size ≤ g
theorem own_new {w0 : World} {v0 : Value} {g n cap : Nat} (h : v0.ownBlock = some g ∨ w0.heap.size ≤ g) : ∀ k, (Value.slice (some ⟨g, 0, none⟩) n cap).ownBlock = some k → v0.ownBlock = some k ∨ w0.heap.size ≤ k := fun k hk => by
  have e : g = k := by simpa [Value.ownBlock] using hk
  rw [← e]; exact h
section
attribute [local go_sem ↓] Go.wp_at_zero Go.wp_at_succ build45 slice46 load26 store26
attribute [local go_sem] bldV slcV
set_option maxRecDepth 100000 in
set_option maxHeartbeats 3200000 in
theorem measure_okF (base B r : Nat) (es : List Ev) (t s : ByteArray) (w : World) (hr : r < 8) (ht : t.size ≤ 64) (hes : es.length < 256) (hs : s.size ≤ 1073741824) (hR : Rnd w) (h0 : 0 < base) (v : Value) (hbB : base ≤ B) (hL : LG w B (regs es) v) (hO : w.ownsRow base 62 34 v es.length (evs es)) :
    Calls Tryz.prog 60 #[.pointer (some ⟨B, 0, none⟩), .int .i64 (r : Int), .string t, .string s] w fun e w' => e = .returned (.int .i64 0) ∧ LOGN w v w' base B (es ++ [⟨r, sumD s.data.toList, t⟩]) ∧ Ch (FP B v) w w' := by
  obtain ⟨va, vc, rfl⟩ := own_len hO
  have hBl := hL.lt
  have h00 : 0 < w.heap.size := by omega
  have c256 : w.cell? ⟨B, 256, none⟩ = some (.slice va es.length vc) := Row.cell hL (i := 256) (by omega)
  have hlen : (es.length : Int) < 256 := by omega
  have d1 : decide ((t.size : Int) > 64) = false := by simp; omega
  have d2 : decide ((es.length : Int) ≥ 256) = false := by simp; omega
  have HL := Lib.hid hL
  have HO := Lib.hid hO
  have HR := Lib.hid hR
  clear hL hO hR
  go_enter Tryz.func60, Tryz.ntmps60
  go_wp2_with (first | (go_at_call 113; refine (isreg_yes r _ hr).mono ?_; rintro e w1 ⟨rfl, rfl⟩) | (go_at_call 14; refine (sum_any s _ hs HR.out (by omega)).mono ?_; rintro e w1 ⟨rfl, hb⟩; have HB := Lib.hid hb; clear hb) | (rw [zz32]; refine wpList_store_mid rfl 31 _ _ rfl w1.heap.size 0 (arr 32 (b8 (sumD s.data.toList))) rfl rfl (by exact (Row.ofList w1 31 (arr 32 zb) zb 32 rfl).there) (by kernel_rfl) (by kernel_rfl) ?_))
  have hbs := HB.out.size
  have DR : Row ((w1.alloc (.cells (arr 32 zb) 31)).setCells w1.heap.size 0 (arr 32 (b8 (sumD s.data.toList))).toList) w1.heap.size 31 32 (b8 (sumD s.data.toList)) := Row.setWhole (Row.ofList w1 31 (arr 32 zb) zb 32 rfl)
  have hBW : Below w.heap.size w ((w1.alloc (.cells (arr 32 zb) 31)).setCells w1.heap.size 0 (arr 32 (b8 (sumD s.data.toList))).toList) := Below.setAll (by omega) _ _ _ (HB.out.alloc (by omega) _)
  have hsz : w1.heap.size < ((w1.alloc (.cells (arr 32 zb) 31)).setCells w1.heap.size 0 (arr 32 (b8 (sumD s.data.toList))).toList).heap.size := DR.lt
  generalize (w1.alloc (.cells (arr 32 zb) 31)).setCells w1.heap.size 0 (arr 32 (b8 (sumD s.data.toList))).toList = W at DR hBW hsz ⊢
  generalize hT : w1.heap.size = T at DR hsz hbs ⊢
  clear hT HB w1
  have hBlt := HL.out.lt
  have L2 : LG W B (regs es) (.slice va es.length vc) := HL.out.below hBW hBlt
  have O2 : W.ownsRow base 62 34 (.slice va es.length vc) es.length (evs es) := HO.out.kept (row := none) ⟨hBW.os, hBW.tape, hBW.output, hBW.size, fun k hk _ => hBW.block k hk⟩ (by cases hv : (Value.slice va es.length vc).ownBlock <;> simp)
  generalize hD : sumD s.data.toList = D at DR ⊢
  have hcs : (arr 32 (b8 D)).toList.length = 32 := by simp [arr]
  have hc1 : ∀ u ∈ (arr 32 (b8 D)).toList, u.oneCell' = true := fun u hu => by
    simp only [arr, List.mem_map] at hu; obtain ⟨i, _, rfl⟩ := hu; rfl
  obtain ⟨cs, hcsd⟩ : ∃ cs, cs = (arr 32 (b8 D)).toList := ⟨_, rfl⟩
  have rT : W.rangeAt T 0 cs := by
    intro j u hu
    rw [hcsd] at hu
    have hj : j < 32 := by have := (List.getElem?_eq_some_iff.1 hu).1; rw [hcs] at this; exact this
    have : u = b8 D j := by simpa [arr, hj] using hu.symm
    rw [this, Nat.zero_add, Row.cell DR hj]
  rw [← hcsd] at hcs hc1
  have hu26 := Tryz.underlying31
  have hi26 : (Tryz.prog.info? 31).map (·.size) = some cs.length := by rw [hcs]; kernel_rfl
  have e256 : W.cell? ⟨B, 256, none⟩ = some (.slice va es.length vc) := Row.cell L2 (i := 256) (by omega)
  have f256 : W.frozen? ⟨B, 256, none⟩ = false := Row.frozen L2 256
  have hne : (Value.slice va es.length vc).ownBlock ≠ some B := own_ne O2 L2 (by decide)
  have hneT : (Value.slice va es.length vc).ownBlock ≠ some T := own_ne O2 DR (by decide)
  have HO2 := Lib.hid O2
  have HL2 := Lib.hid L2
  have HDR := Lib.hid DR
  have HBW := Lib.hid hBW
  have HD := Lib.hid hD
  have Hcsd := Lib.hid hcsd
  have lB : B < W.heap.size := L2.lt
  clear O2 L2 DR hBW hD hcsd c256 HO HL
  obtain ⟨i0, hi0, hz0, hz1, hz2⟩ := info_parts Tryz.info62
  have hnews : ∀ (W' : World) (X : Nat), W'.heap[X]? = some (.cells (.int .i64 (r : Int) :: (cs ++ [.string t])).toArray 62) → ∀ j u, (Value.int .i64 (r : Int) :: (cs ++ [.string t]))[j]? = some u → W'.cell? ((⟨X, 0, none⟩ : Addr).add j) = some u := fun W' X h j u hu => World.news_of_block h j u (by simpa using hu)
  have hone : ∀ u ∈ (Value.int .i64 (r : Int) :: (cs ++ [.string t])), u.oneCell' = true := fun u hu => by
    rcases List.mem_cons.1 hu with rfl | hu
    · rfl
    rcases List.mem_append.1 hu with hu | hu
    · exact hc1 u hu
    · rw [List.mem_singleton.1 hu]; rfl
  have hnl : (Value.int .i64 (r : Int) :: (cs ++ [.string t])).length = 1 * 34 := by simp [hcs]
  have Hone := Lib.hid hone
  have Hnews := Lib.hid hnews
  have Hnl := Lib.hid hnl
  clear hone hnews hnl
  have hl0 : ldV W.drew (.pointer (some ⟨T, 0, none⟩)) = some cs.toArray := ldV_of (by simpa using rT) (by simpa using hcs)
  have hl1 : ∀ o, ldV (W.alloc o).drew (.pointer (some ⟨T, 0, none⟩)) = some cs.toArray := fun o => ldV_of (by simpa using World.rangeAt_alloc rT o) (by simpa using hcs)
  have hBn : ¬ B = W.heap.size := by omega
  have hgc : ∀ o w2, (W.alloc o).drew.grownBy w2 (Value.slice va es.length vc).ownBlock → w2.cell? ⟨B, 256, none⟩ = some (.slice va es.length vc) := fun o w2 hg => by
    have h1 := (HL2.out.alloc o).drew
    rw [World.cell?_of_block (w := (W.alloc o).drew) (hg.block B h1.lt (fun h => hne h.symm)), Row.cell h1 (i := 256) (by omega)]
    rw [lgv_ev]
  have hgf : ∀ o w2, (W.alloc o).drew.grownBy w2 (Value.slice va es.length vc).ownBlock → w2.frozen? ⟨B, 256, none⟩ = false := fun o w2 hg => by
    have h1 := (HL2.out.alloc o).drew
    rw [World.frozen?_of_block (w := (W.alloc o).drew) (hg.block B h1.lt (fun h => hne h.symm))]
    exact Row.frozen h1 256
  have HGC := Lib.hid hgc
  have HGF := Lib.hid hgf
  clear hgc hgf
  go_region_law
    ((refine step_append_lies _ (by rfl) _ _ _ (by rfl) base 62 i0 _ 34 56 Tryz.underlying59 hi0 hz0 hz1 hz2 (by kernel_rfl) (by omega) (.slice va es.length vc) es.length (evs es) (by rfl) ((HO2.out.alloc _).drew)
        ⟨W.heap.size, 0, none⟩ 1 1 (.int .i64 (r : Int) :: (cs ++ [.string t])) (by rfl) Hnl.out (Hnews.out _ _ (heap_alloc_new W _)) Hone.out (by omega) (by simp only [maxLen]; omega) (by omega) (by simp; omega) (W.heap.size + 1) (by simp) ?_; intro g cap w2 hown2 hgrow hat hlt; have hc2 := HGC.out _ _ hgrow; have hf2 := HGF.out _ _ hgrow))
  all_goals
    have L3 : LG w2 B (regs es) (.slice va es.length vc) := Row.ch (w := (W.alloc (.cells (.int .i64 (r : Int) :: (cs ++ [.string t])).toArray 62)).drew) (HL2.out.alloc _).drew (Ch.of_grown (C := fun b => (Value.slice va es.length vc).ownBlock = some b) hgrow (fun k hk _ => hk)) hne
    have D3 : Row w2 T 31 32 (b8 D) := Row.ch (w := (W.alloc (.cells (.int .i64 (r : Int) :: (cs ++ [.string t])).toArray 62)).drew) (HDR.out.alloc _).drew (Ch.of_grown (C := fun b => (Value.slice va es.length vc).ownBlock = some b) hgrow (fun k hk _ => hk)) hneT
    have B3 : Below base w w2 := Below.grown (((HBW.out.mono (by omega)).alloc (by omega) _).drew) hgrow (by simp; omega) (fun k hk => (HO2.out.lt k hk).1)
    have C3 : Ch (FP B (.slice va es.length vc)) w w2 := Ch.andThen (((Ch.of_below HBW.out _).alloc (.cells (.int .i64 (r : Int) :: (cs ++ [.string t])).toArray 62)).drew) (Ch.of_grown (C := fun b => (Value.slice va es.length vc).ownBlock = some b) hgrow (fun k hk _ => hk)) (fun i hi _ => .inr hi)
    have HG : Hid ((Value.slice va es.length vc).ownBlock = some g ∨ w.heap.size ≤ g) := by
      rcases hat with h | h
      · exact .inl h
      · exact .inr (by rw [h]; have := HBW.out.size; omega)
    have C4 : Hid (Ch (FP B (.slice va es.length vc)) w (w2.setCell ⟨B, 256, none⟩ (.slice (some ⟨g, 0, none⟩) (es.length + 1) cap))) := C3.setCell (p := ⟨B, 256, none⟩) (fun _ => .inl rfl) _
    have L4 := L3.ev (.slice (some ⟨g, 0, none⟩) (es.length + 1) cap)
    have D4 : Row (w2.setCell ⟨B, 256, none⟩ (.slice (some ⟨g, 0, none⟩) (es.length + 1) cap)) T 31 32 (b8 D) := Row.far D3 (by show T ≠ B; omega) _
    have O4 := own_set hown2 L3 (by decide) (w2.setCell ⟨B, 256, none⟩ (.slice (some ⟨g, 0, none⟩) (es.length + 1) cap)) ((Ch.refl (fun b => b = B) w2).setCell (p := ⟨B, 256, none⟩) (fun _ => rfl) _)
    have B4 : Below base w (w2.setCell ⟨B, 256, none⟩ (.slice (some ⟨g, 0, none⟩) (es.length + 1) cap)) := B3.setCell (p := ⟨B, 256, none⟩) hbB _
    clear L3 D3 B3 C3 hc2 hf2 hgrow hat hlt hown2 hl0 hl1 e256 f256 rT
    generalize w2.setCell ⟨B, 256, none⟩ (.slice (some ⟨g, 0, none⟩) (es.length + 1) cap) = X at L4 D4 O4 B4 C4 ⊢
    have R4 : Hid (Rnd X.drew) := HR.out.below B4.drew h0
    have hX0 : 0 < X.drew.heap.size := by have := L4.drew.lt; omega
    have rT4 : X.drew.rangeAt T 0 cs := by
      intro j u hu
      rw [Hcsd.out] at hu
      have hj : j < 32 := by have := (List.getElem?_eq_some_iff.1 hu).1; simpa [arr] using this
      have : u = b8 D j := by simpa [arr, hj] using hu.symm
      rw [this, Nat.zero_add, Row.cell D4.drew hj]
    have hl2 : ldV X.drew (.pointer (some ⟨T, 0, none⟩)) = some (arr 32 (b8 D)) := ldV_of (by rw [← Hcsd.out]; exact rT4) (by simp [arr])
    have hl3 : ldV X.drew (.pointer (some ⟨B, r * 32, none⟩)) = some (arr 32 (b8 (regs es r))) := ldV_of (LG.range (L4.drew) hr) (by simp [arr])
    have r8 : (r : Int) < 8 := by omega
    have HL4 := Lib.hid L4
    have HO4 := Lib.hid O4
    have HB4 := Lib.hid B4
    have hDB : Hid (Byt D) := by rw [← HD.out]; exact sumD_byt _
    clear L4 D4 O4 B4 rT4 hu26 hi26 HO2 HL2 HDR HBW Hone Hnews Hnl HGC HGF hne hneT hi0 hz0 hz1 hz2 hc1 hcs
    go_wp2_with fail
    go_region_law (first | (go_simp; go_at_call 114; refine (extend_any (regs es r) D _ (regs_byt _ _) hDB.out (by exact R4.out) hX0).mono ?_; rintro e w3 ⟨rfl, hb3⟩; have hst3 := stV_of (w := w3) (b := B) (o := r * 32) (cs := arr 32 (b8 (sumD (dl (regs es r) ++ dl D)))) (by simp [arr]) (LG.there (HL4.out.drew.below hb3 HL4.out.lt) r hr) (arr_one _)))
    all_goals
      have B5 : Below base w (w3.setCells B (r * 32) (arr 32 (b8 (sumD (dl (regs es r) ++ dl D)))).toList) := Below.setAll hbB _ _ _ (HB4.out.drew.trans (hb3.mono (by have := HL4.out.lt; show base ≤ X.heap.size; omega)))
      have C5 : Hid (Ch (FP B (.slice va es.length vc)) w (w3.setCells B (r * 32) (arr 32 (b8 (sumD (dl (regs es r) ++ dl D)))).toList)) := Ch.setAll (.inl rfl) _ _ _ (C4.out.drew.andThen (Ch.of_below hb3 (fun _ => False)) (fun _ h _ => h.elim))
      have L5 := LG.reg (HL4.out.drew.below hb3 HL4.out.lt) r hr (sumD (dl (regs es r) ++ dl D))
      have O5 := own_set (own_below (w := X.drew) HO4.out.drew hb3 (Nat.le_refl _)) (HL4.out.drew.below hb3 HL4.out.lt) (by decide) (w3.setCells B (r * 32) (arr 32 (b8 (sumD (dl (regs es r) ++ dl D)))).toList) (Ch.setAll (C := fun b => b = B) rfl _ _ _ (Ch.refl _ _))
      have hfin : Hid (LOGN w (.slice va es.length vc) (w3.setCells B (r * 32) (arr 32 (b8 (sumD (dl (regs es r) ++ dl D)))).toList) base B (es ++ [⟨r, sumD s.data.toList, t⟩])) := by
        refine ⟨hbB, .slice (some ⟨g, 0, none⟩) (es.length + 1) cap, ?_, ?_, ?_⟩
        · rw [regs_snoc]
          have e : reg1 (regs es) ⟨r, sumD s.data.toList, t⟩ = fun q => if q = r then sumD (dl (regs es r) ++ dl D) else regs es q := by
            funext q
            unfold reg1
            by_cases hq : q = r
            · subst hq; rw [if_pos rfl, if_pos rfl, HD.out]
            · rw [if_neg (by show ¬ (q : Int) = (r : Int); omega), if_neg hq]
          rw [e]
          exact L5
        · rw [evs_snoc, List.length_append]
          rw [Hcsd.out] at O5
          have e : evc ⟨r, sumD s.data.toList, t⟩ = Value.int .i64 (r : Int) :: ((arr 32 (b8 D)).toList ++ [.string t]) := by rw [← HD.out]; rfl
          rw [e]
          exact O5
        · exact own_new HG.out
      clear L5 O5 hb3 hst3 hl2 hl3
      clear B5
      generalize w3.setCells B (r * 32) (arr 32 (b8 (sumD (dl (regs es r) ++ dl D)))).toList = Z at hfin C5 ⊢
      go_wp2_with fail
      go_ret
      exact ⟨rfl, hfin.out, C5.out⟩
end
end Go.Proofs.YtdinbpdpalgohaaGreatDoor.Ms
