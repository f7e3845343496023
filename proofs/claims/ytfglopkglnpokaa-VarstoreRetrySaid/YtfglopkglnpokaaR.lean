/- target. No condition but that store and flash lie in memory and the power is on. -/
import Derived.Test.YtfglopkglnpokaaQ
namespace Go.Proofs.Ytfglopkglnpokaa
open Go.RowKit
def tstep (fl : FL) (blk : Nat) (t : Nat × Bool × Bool) (b : Nat) : Nat × Bool × Bool :=
  if b = blk ∨ (t.2.2 = true ∧ fl.er t.1 ≤ fl.er b) then t
  else if blankP (pgsF fl b) = false ∧ fl.E ≤ fl.er b then t
  else (b, blankP (pgsF fl b), true)
def tgtK (fl : FL) (blk k : Nat) : Nat × Bool × Bool := (List.range k).foldl (tstep fl blk) (0, false, false)
def tgtF (fl : FL) (blk : Nat) : Nat × Bool × Bool := tgtK fl blk fl.B
theorem tgtK_succ (fl : FL) (blk k : Nat) : tgtK fl blk (k + 1) = tstep fl blk (tgtK fl blk k) k := by
  unfold tgtK
  rw [List.range_succ, List.foldl_append]
  rfl
theorem tgtK_lt (fl : FL) (blk k : Nat) : (tgtK fl blk k).1 < k ∨ (tgtK fl blk k).1 = 0 := by
  induction k with
  | zero => right; rfl
  | succ k ih =>
    rw [tgtK_succ]
    unfold tstep
    split
    · omega
    · split
      · omega
      · left; exact Nat.lt_succ_self k
section
variable {w : World} {D DS : Nat → Prop} {S X m n : Nat} {st : ST} {y : FLay} {fl : FL}
set_option maxRecDepth 100000 in
set_option maxHeartbeats 8000000 in
theorem target_any (hs : SW w DS S X m n st) (h : FW w D X y fl) (ho : fl.off = false) :
    Calls Try.prog 81 #[fptr S] w fun e w' => e = .returned (.tuple #[.int .i64 (tgtF fl st.blk).1, .bool (tgtF fl st.blk).2.1, .bool (tgtF fl st.blk).2.2]) ∧ Below w.heap.size w w' := by
  have c0 := hs.c0
  have HSH := Lib.hid (shape_any h)
  have H := Lib.hid h
  have HS := Lib.hid hs
  have hB := h.hB
  have hP := h.hP
  obtain ⟨blk, hblk⟩ : ∃ blk, st.blk = blk := ⟨_, rfl⟩
  have HBK := Lib.hid hblk
  have hbl := hs.hb
  rw [hblk] at hbl ⊢
  clear h hs hblk
  go_enter Try.func81, Try.ntmps81
  go_wp2_with fail
  refine HSH.out.mono ?_
  rintro e w1 ⟨rfl, b1⟩
  have BA : Below w.heap.size w (w1.alloc (.cells #[.int .i64 fl.B, .int .i64 fl.P, .int .i64 fl.E] 23)) := b1.alloc b1.size _
  have RA := Row.ofList w1 23 #[.int .i64 fl.B, .int .i64 fl.P, .int .i64 fl.E] (fun j => if j = 0 then .int .i64 fl.B else if j = 1 then .int .i64 fl.P else .int .i64 fl.E) 3 rfl
  obtain ⟨w2, hw2⟩ : ∃ w2, w1.alloc (.cells #[.int .i64 fl.B, .int .i64 fl.P, .int .i64 fl.E] 23) = w2 := ⟨_, rfl⟩
  have hz1 := b1.size
  obtain ⟨Z0, hZ0⟩ : ∃ Z0, w1.heap.size = Z0 := ⟨_, rfl⟩
  rw [hw2] at BA RA
  rw [hZ0] at RA
  have z0 : w2.cell? ⟨Z0, 0, none⟩ = some (.int .i64 fl.B) := RA.cell (i := 0) (by omega)
  have HB2 := Lib.hid BA
  have HZ2 : Hid (Row w2 Z0 23 3 (fun j => if j = 0 then .int .i64 fl.B else if j = 1 then .int .i64 fl.P else .int .i64 fl.E)) := RA
  clear BA RA b1 HSH c0
  go_wp2_with fail
  have HK0 : Hid ((0, false, false) = tgtK fl blk 0) := rfl
  clear z0
  go_loopw [2, 3, 4, 17] (fun x2 x3 x4 z wr => ∃ (k tb : Nat) (tk tf : Bool), k ≤ fl.B ∧ z = .int .i64 (k : Int) ∧ x2 = .int .i64 (tb : Int) ∧ x3 = .bool tk ∧ x4 = .bool tf ∧ Hid ((tb, tk, tf) = tgtK fl blk k) ∧ Hid (Row wr Z0 23 3 (fun j => if j = 0 then .int .i64 fl.B else if j = 1 then .int .i64 fl.P else .int .i64 fl.E)) ∧ Hid (Below w.heap.size w wr)) (fun _ _ _ z _ => fl.B - (intOf z).toNat)
  case atStart => exact ⟨0, 0, false, false, by omega, rfl, rfl, rfl, rfl, HK0, HZ2, HB2⟩
  case round =>
    clear HK0 HZ2 HB2
    obtain ⟨k, tb, tk, tf, hk, rfl, rfl, rfl, rfl, HK, HZ, HB⟩ := hrel
    by_cases hkB : k < fl.B
    · have y0 : (k : Int) < fl.B := by omega
      have htb : tb < fl.B := by
        have := tgtK_lt fl blk k
        rw [← HK.out] at this
        simp only at this
        omega
      have Hr := Lib.hid (H.out.below HB.out)
      have Sr := Lib.hid (HS.out.below HB.out)
      have S5 : Hid (wr.drew.cell? ⟨S, 0, none⟩ = some (fptr X) ∧ wr.drew.cell? ⟨S, 2, none⟩ = some (.int .i64 blk) ∧ FW wr.drew D X y fl) := ⟨Sr.out.c0, by rw [← HBK.out]; exact Sr.out.c2, Hr.out.drew⟩
      have HZd : Hid (Row wr.drew Z0 23 3 (fun j => if j = 0 then .int .i64 fl.B else if j = 1 then .int .i64 fl.P else .int .i64 fl.E)) := HZ.out.drew
      have HBd : Hid (Below w.heap.size w wr.drew) := HB.out.drew
      have HNX := Lib.hid (tgtK_succ fl blk k)
      clear HZ HB
      by_cases hkb : k = blk
      · have hkI : (k : Int) = blk := by omega
        have hkd : ((k : Int) == (blk : Int)) = true := by rw [beq_iff_eq]; exact hkI
        have HN2 : Hid ((tb, tk, tf) = tgtK fl blk (k + 1)) := by
          show _ = _
          rw [HNX.out, ← HK.out]
          unfold tstep
          rw [if_pos (.inl hkb)]
        go_wp2_with fail
        refine wp_region_pl (fun Y => Y.cell? ⟨S, 0, none⟩ = some (fptr X) ∧ Y.cell? ⟨S, 2, none⟩ = some (.int .i64 blk) ∧ FW Y D X y fl) ((0, 0) :: (1, 0) :: (2, 0) :: (3, 0) :: (4, 0) :: (5, 0) :: (6, 0) :: (7, 0) :: (8, 0) :: (9, 0) :: (10, 0) :: (11, 0) :: (12, 0) :: (13, 0) :: (14, 0) :: (15, 0) :: (16, 0) :: (17, 0) :: (18, 0) :: (19, 0) :: (20, 0) :: (21, 0) :: (22, 0) :: (23, 0) :: []) (by kernel_rfl) (by kernel_rfl) ?_
        iterate 7 (apply wpP_go; (focus rfl); (focus rfl); (focus exact S5.out); (focus (rintro Z ⟨s0, s1, s2⟩; go_simp; exact rfl)); intro K hK; go_simp; refine hK _ ?_; clear hK K)
        iterate 16 (apply wpP_not; (focus rfl); (focus rfl); (focus exact S5.out); intro K hK; go_simp; refine hK _ ?_; clear hK K)
        iterate 1 (apply wpP_go; (focus rfl); (focus rfl); (focus exact S5.out); (focus (rintro Z ⟨s0, s1, s2⟩; go_simp; exact rfl)); intro K hK; go_simp; refine hK _ ?_; clear hK K)
        refine wpP_done ?_
        clear S5
        generalize wr.drew = V at *
        go_wp2_with fail
        go_roundw
        case rel => exact ⟨k + 1, tb, tk, tf, by omega, by go_num, rfl, rfl, rfl, HN2, HZd, HBd⟩
        case measure => simp [intOf]; omega
      · have hkI : ¬ (k : Int) = blk := by omega
        have hkd : ((k : Int) == (blk : Int)) = false := by rw [beq_eq_false_iff_ne]; exact hkI
        cases tf
        · have HNC : Hid (¬ (k = blk ∨ (((tb, tk, false) : Nat × Bool × Bool).2.2 = true ∧ fl.er ((tb, tk, false) : Nat × Bool × Bool).1 ≤ fl.er k))) := by
            rintro (h | h)
            · exact hkb h
            · cases h.1
          go_wp2_with fail
          refine wp_region_pl (fun Y => Y.cell? ⟨S, 0, none⟩ = some (fptr X) ∧ Y.cell? ⟨S, 2, none⟩ = some (.int .i64 blk) ∧ FW Y D X y fl) ((0, 0) :: (1, 0) :: (2, 0) :: (3, 0) :: (4, 0) :: (5, 0) :: (6, 0) :: (7, 0) :: (8, 0) :: (9, 0) :: (10, 0) :: (11, 0) :: (12, 0) :: (13, 0) :: (14, 0) :: (15, 0) :: (16, 0) :: (17, 0) :: (18, 0) :: (19, 0) :: (20, 0) :: (21, 0) :: (22, 0) :: (23, 0) :: []) (by kernel_rfl) (by kernel_rfl) ?_
          iterate 7 (apply wpP_go; (focus rfl); (focus rfl); (focus exact S5.out); (focus (rintro Z ⟨s0, s1, s2⟩; go_simp; exact rfl)); intro K hK; go_simp; refine hK _ ?_; clear hK K)
          iterate 2 (apply wpP_go; (focus rfl); (focus rfl); (focus exact S5.out); (focus (rintro Z ⟨s0, s1, s2⟩; go_simp; exact rfl)); intro K hK; go_simp; refine hK _ ?_; clear hK K)
          iterate 13 (apply wpP_not; (focus rfl); (focus rfl); (focus exact S5.out); intro K hK; go_simp; refine hK _ ?_; clear hK K)
          iterate 2 (apply wpP_go; (focus rfl); (focus rfl); (focus exact S5.out); (focus (rintro Z ⟨s0, s1, s2⟩; go_simp; exact rfl)); intro K hK; go_simp; refine hK _ ?_; clear hK K)
          refine wpP_done ?_
          have S5' := Lib.hid S5.out.2.2
          have C0 := S5.out.1
          clear S5
          generalize wr.drew = V at *
          have HRB := Lib.hid (readBlock_any S5'.out hkB)
          have hnx : ∀ bl, blankP (pgsF fl k) = bl → tgtK fl blk (k + 1) = if bl = false ∧ fl.E ≤ fl.er k then (tb, tk, false) else (k, bl, true) := fun bl hbl => by
            rw [HNX.out, ← HK.out]
            unfold tstep
            rw [if_neg (by have h9 := HNC.out; simpa using h9), hbl]
          have HNXT := Lib.hid hnx
          clear hnx
          go_wp2_with fail
          refine HRB.out.mono ?_
          rintro e w3 ⟨b3, ⟨h1, _⟩ | ⟨_, g, rfl, hg, hps⟩⟩
          · rw [ho] at h1; cases h1
          have HF3 := Lib.hid (S5'.out.below b3)
          have HB3 : Hid (Below w.heap.size w w3) := HBd.out.trans (b3.mono HBd.out.size)
          have HZ3 : Hid (Row w3 Z0 23 3 (fun j => if j = 0 then .int .i64 fl.B else if j = 1 then .int .i64 fl.P else .int .i64 fl.E)) := HZd.out.ch (Ch.of_below b3 (fun _ => False)) id
          have C3 : w3.cell? ⟨S, 0, none⟩ = some (fptr X) := (HS.out.below HB3.out).c0
          have HIB := Lib.hid (isBlank_any hps (pgsF_len fl k) (fun p hp => by
            unfold pgsF at hp
            obtain ⟨j, hj, rfl⟩ := List.mem_map.1 hp
            rw [S5'.out.len k j hkB (by simpa using hj)]
            omega) (by omega))
          obtain ⟨bl, hbl⟩ : ∃ bl, blankP (pgsF fl k) = bl := ⟨_, rfl⟩
          have HNX2 := Lib.hid (HNXT.out bl hbl)
          rw [hbl] at HIB
          have S9 : Hid (w3.drew.cell? ⟨S, 0, none⟩ = some (fptr X) ∧ w3.drew.cell? ⟨Z0, 2, none⟩ = some (.int .i64 fl.E) ∧ FW w3.drew D X y fl) := ⟨C3, HZ3.out.cell (i := 2) (by omega), HF3.out.drew⟩
          have HZ4 : Hid (Row w3.drew Z0 23 3 (fun j => if j = 0 then .int .i64 fl.B else if j = 1 then .int .i64 fl.P else .int .i64 fl.E)) := HZ3.out.drew
          have HB4 : Hid (Below w.heap.size w w3.drew) := HB3.out.drew
          clear hbl b3 hps HZ3 HB3 HF3 HRB HNXT HNX HZd HBd C0
          cases bl
          · by_cases hw : fl.E ≤ fl.er k
            · have hwI : (fl.E : Int) ≤ (fl.er k : Int) := by omega
              have hwd : decide ((fl.er k : Int) ≥ (fl.E : Int)) = true := by simpa using hw
              have HN3 : Hid ((tb, tk, false) = tgtK fl blk (k + 1)) := by
                show _ = _
                rw [HNX2.out, if_pos ⟨rfl, hw⟩]
              go_wp2_with fail
              refine HIB.out.mono ?_
              rintro e w' ⟨rfl, rfl⟩
              go_wp2_with fail
              refine wp_region_pl (fun Y => Y.cell? ⟨S, 0, none⟩ = some (fptr X) ∧ Y.cell? ⟨Z0, 2, none⟩ = some (.int .i64 fl.E) ∧ FW Y D X y fl) ((0, 0) :: (1, 0) :: (2, 0) :: (3, 0) :: (4, 0) :: (5, 0) :: (6, 0) :: (7, 0) :: (8, 0) :: (9, 0) :: (10, 0) :: (11, 0) :: (12, 0) :: []) (by kernel_rfl) (by kernel_rfl) ?_
              iterate 3 (apply wpP_go; (focus rfl); (focus rfl); (focus exact S9.out); (focus (rintro Z ⟨s0, s1, s2⟩; go_simp; exact rfl)); intro K hK; go_simp; refine hK _ ?_; clear hK K)
              iterate 5 (apply wpP_go; (focus rfl); (focus rfl); (focus exact S9.out); (focus (rintro Z ⟨s0, s1, s2⟩; go_simp; exact rfl)); intro K hK; go_simp; refine hK _ ?_; clear hK K)
              apply wpP_call
              focus rfl
              focus rfl
              focus exact S9.out
              focus (rintro Z ⟨s0, s1, s2⟩; go_simp; exact ⟨rfl, rfl⟩)
              focus (rintro Z ⟨s0, s1, s2⟩; exact erases_any s2 hkB)
              intro K hK
              go_simp
              refine hK _ ?_
              clear hK K
              iterate 4 (apply wpP_go; (focus rfl); (focus rfl); (focus exact S9.out); (focus (rintro Z ⟨s0, s1, s2⟩; go_simp; exact rfl)); intro K hK; go_simp; refine hK _ ?_; clear hK K)
              refine wpP_done ?_
              clear S9
              generalize w3.drew = V3 at *
              go_wp2_with fail
              go_roundw
              case rel => exact ⟨k + 1, tb, tk, false, by omega, by go_num, rfl, rfl, rfl, HN3, HZ4, HB4⟩
              case measure => simp [intOf]; omega
            · have hwI : ¬ (fl.E : Int) ≤ (fl.er k : Int) := by omega
              have hwd : decide ((fl.er k : Int) ≥ (fl.E : Int)) = false := by simpa using hw
              have HN3 : Hid ((k, false, true) = tgtK fl blk (k + 1)) := by
                show _ = _
                rw [HNX2.out, if_neg (fun h => hw h.2)]
              go_wp2_with fail
              refine HIB.out.mono ?_
              rintro e w' ⟨rfl, rfl⟩
              go_wp2_with fail
              refine wp_region_pl (fun Y => Y.cell? ⟨S, 0, none⟩ = some (fptr X) ∧ Y.cell? ⟨Z0, 2, none⟩ = some (.int .i64 fl.E) ∧ FW Y D X y fl) ((0, 0) :: (1, 0) :: (2, 0) :: (3, 0) :: (4, 0) :: (5, 0) :: (6, 0) :: (7, 0) :: (8, 0) :: (9, 0) :: (10, 0) :: (11, 0) :: (12, 0) :: []) (by kernel_rfl) (by kernel_rfl) ?_
              iterate 3 (apply wpP_go; (focus rfl); (focus rfl); (focus exact S9.out); (focus (rintro Z ⟨s0, s1, s2⟩; go_simp; exact rfl)); intro K hK; go_simp; refine hK _ ?_; clear hK K)
              iterate 5 (apply wpP_go; (focus rfl); (focus rfl); (focus exact S9.out); (focus (rintro Z ⟨s0, s1, s2⟩; go_simp; exact rfl)); intro K hK; go_simp; refine hK _ ?_; clear hK K)
              apply wpP_call
              focus rfl
              focus rfl
              focus exact S9.out
              focus (rintro Z ⟨s0, s1, s2⟩; go_simp; exact ⟨rfl, rfl⟩)
              focus (rintro Z ⟨s0, s1, s2⟩; exact erases_any s2 hkB)
              intro K hK
              go_simp
              refine hK _ ?_
              clear hK K
              iterate 4 (apply wpP_go; (focus rfl); (focus rfl); (focus exact S9.out); (focus (rintro Z ⟨s0, s1, s2⟩; go_simp; exact rfl)); intro K hK; go_simp; refine hK _ ?_; clear hK K)
              refine wpP_done ?_
              clear S9
              generalize w3.drew = V3 at *
              go_wp2_with fail
              go_roundw
              case rel => exact ⟨k + 1, k, false, true, by omega, by go_num, rfl, rfl, rfl, HN3, HZ4, HB4⟩
              case measure => simp [intOf]; omega
          · have HN3 : Hid ((k, true, true) = tgtK fl blk (k + 1)) := by
              show _ = _
              rw [HNX2.out, if_neg (fun h => by cases h.1)]
            go_wp2_with fail
            refine HIB.out.mono ?_
            rintro e w' ⟨rfl, rfl⟩
            go_wp2_with fail
            refine wp_region_pl (fun Y => Y.cell? ⟨S, 0, none⟩ = some (fptr X) ∧ Y.cell? ⟨Z0, 2, none⟩ = some (.int .i64 fl.E) ∧ FW Y D X y fl) ((0, 0) :: (1, 0) :: (2, 0) :: (3, 0) :: (4, 0) :: (5, 0) :: (6, 0) :: (7, 0) :: (8, 0) :: (9, 0) :: (10, 0) :: (11, 0) :: (12, 0) :: []) (by kernel_rfl) (by kernel_rfl) ?_
            iterate 3 (apply wpP_go; (focus rfl); (focus rfl); (focus exact S9.out); (focus (rintro Z ⟨s0, s1, s2⟩; go_simp; exact rfl)); intro K hK; go_simp; refine hK _ ?_; clear hK K)
            iterate 9 (apply wpP_not; (focus rfl); (focus rfl); (focus exact S9.out); intro K hK; go_simp; refine hK _ ?_; clear hK K)
            iterate 1 (apply wpP_go; (focus rfl); (focus rfl); (focus exact S9.out); (focus (rintro Z ⟨s0, s1, s2⟩; go_simp; exact rfl)); intro K hK; go_simp; refine hK _ ?_; clear hK K)
            refine wpP_done ?_
            clear S9
            generalize w3.drew = V3 at *
            go_wp2_with fail
            go_roundw
            case rel => exact ⟨k + 1, k, true, true, by omega, by go_num, rfl, rfl, rfl, HN3, HZ4, HB4⟩
            case measure => simp [intOf]; omega
        · by_cases hle : fl.er tb ≤ fl.er k
          · have hlI : (fl.er tb : Int) ≤ (fl.er k : Int) := by omega
            have hld : decide ((fl.er k : Int) ≥ (fl.er tb : Int)) = true := by simpa using hle
            have HN2 : Hid ((tb, tk, true) = tgtK fl blk (k + 1)) := by
              show _ = _
              rw [HNX.out, ← HK.out]
              unfold tstep
              rw [if_pos (.inr ⟨rfl, hle⟩)]
            go_wp2_with fail
            refine wp_region_pl (fun Y => Y.cell? ⟨S, 0, none⟩ = some (fptr X) ∧ Y.cell? ⟨S, 2, none⟩ = some (.int .i64 blk) ∧ FW Y D X y fl) ((0, 0) :: (1, 0) :: (2, 0) :: (3, 0) :: (4, 0) :: (5, 0) :: (6, 0) :: (7, 0) :: (8, 0) :: (9, 0) :: (10, 0) :: (11, 0) :: (12, 0) :: (13, 0) :: (14, 0) :: (15, 0) :: (16, 0) :: (17, 0) :: (18, 0) :: (19, 0) :: (20, 0) :: (21, 0) :: (22, 0) :: (23, 0) :: []) (by kernel_rfl) (by kernel_rfl) ?_
            iterate 7 (apply wpP_go; (focus rfl); (focus rfl); (focus exact S5.out); (focus (rintro Z ⟨s0, s1, s2⟩; go_simp; exact rfl)); intro K hK; go_simp; refine hK _ ?_; clear hK K)
            iterate 7 (apply wpP_go; (focus rfl); (focus rfl); (focus exact S5.out); (focus (rintro Z ⟨s0, s1, s2⟩; go_simp; exact rfl)); intro K hK; go_simp; refine hK _ ?_; clear hK K)
            apply wpP_call
            focus rfl
            focus rfl
            focus exact S5.out
            focus (rintro Z ⟨s0, s1, s2⟩; go_simp; exact ⟨rfl, rfl⟩)
            focus (rintro Z ⟨s0, s1, s2⟩; exact erases_any s2 hkB)
            intro K hK
            go_simp
            refine hK _ ?_
            clear hK K
            iterate 5 (apply wpP_go; (focus rfl); (focus rfl); (focus exact S5.out); (focus (rintro Z ⟨s0, s1, s2⟩; go_simp; exact rfl)); intro K hK; go_simp; refine hK _ ?_; clear hK K)
            apply wpP_call
            focus rfl
            focus rfl
            focus exact S5.out
            focus (rintro Z ⟨s0, s1, s2⟩; go_simp; exact ⟨rfl, rfl⟩)
            focus (rintro Z ⟨s0, s1, s2⟩; exact erases_any s2 htb)
            intro K hK
            go_simp
            refine hK _ ?_
            clear hK K
            iterate 3 (apply wpP_go; (focus rfl); (focus rfl); (focus exact S5.out); (focus (rintro Z ⟨s0, s1, s2⟩; go_simp; exact rfl)); intro K hK; go_simp; refine hK _ ?_; clear hK K)
            refine wpP_done ?_
            clear S5
            generalize wr.drew = V at *
            go_wp2_with fail
            go_roundw
            case rel => exact ⟨k + 1, tb, tk, true, by omega, by go_num, rfl, rfl, rfl, HN2, HZd, HBd⟩
            case measure => simp [intOf]; omega
          · have hlI : ¬ (fl.er tb : Int) ≤ (fl.er k : Int) := by omega
            have hld : decide ((fl.er k : Int) ≥ (fl.er tb : Int)) = false := by simpa using hle
            have HNC : Hid (¬ (k = blk ∨ (((tb, tk, true) : Nat × Bool × Bool).2.2 = true ∧ fl.er ((tb, tk, true) : Nat × Bool × Bool).1 ≤ fl.er k))) := by
              rintro (h | h)
              · exact hkb h
              · exact hle h.2
            go_wp2_with fail
            refine wp_region_pl (fun Y => Y.cell? ⟨S, 0, none⟩ = some (fptr X) ∧ Y.cell? ⟨S, 2, none⟩ = some (.int .i64 blk) ∧ FW Y D X y fl) ((0, 0) :: (1, 0) :: (2, 0) :: (3, 0) :: (4, 0) :: (5, 0) :: (6, 0) :: (7, 0) :: (8, 0) :: (9, 0) :: (10, 0) :: (11, 0) :: (12, 0) :: (13, 0) :: (14, 0) :: (15, 0) :: (16, 0) :: (17, 0) :: (18, 0) :: (19, 0) :: (20, 0) :: (21, 0) :: (22, 0) :: (23, 0) :: []) (by kernel_rfl) (by kernel_rfl) ?_
            iterate 7 (apply wpP_go; (focus rfl); (focus rfl); (focus exact S5.out); (focus (rintro Z ⟨s0, s1, s2⟩; go_simp; exact rfl)); intro K hK; go_simp; refine hK _ ?_; clear hK K)
            iterate 7 (apply wpP_go; (focus rfl); (focus rfl); (focus exact S5.out); (focus (rintro Z ⟨s0, s1, s2⟩; go_simp; exact rfl)); intro K hK; go_simp; refine hK _ ?_; clear hK K)
            apply wpP_call
            focus rfl
            focus rfl
            focus exact S5.out
            focus (rintro Z ⟨s0, s1, s2⟩; go_simp; exact ⟨rfl, rfl⟩)
            focus (rintro Z ⟨s0, s1, s2⟩; exact erases_any s2 hkB)
            intro K hK
            go_simp
            refine hK _ ?_
            clear hK K
            iterate 5 (apply wpP_go; (focus rfl); (focus rfl); (focus exact S5.out); (focus (rintro Z ⟨s0, s1, s2⟩; go_simp; exact rfl)); intro K hK; go_simp; refine hK _ ?_; clear hK K)
            apply wpP_call
            focus rfl
            focus rfl
            focus exact S5.out
            focus (rintro Z ⟨s0, s1, s2⟩; go_simp; exact ⟨rfl, rfl⟩)
            focus (rintro Z ⟨s0, s1, s2⟩; exact erases_any s2 htb)
            intro K hK
            go_simp
            refine hK _ ?_
            clear hK K
            iterate 3 (apply wpP_go; (focus rfl); (focus rfl); (focus exact S5.out); (focus (rintro Z ⟨s0, s1, s2⟩; go_simp; exact rfl)); intro K hK; go_simp; refine hK _ ?_; clear hK K)
            refine wpP_done ?_
            have S5' := Lib.hid S5.out.2.2
            have C0 := S5.out.1
            clear S5
            generalize wr.drew = V at *
            have HRB := Lib.hid (readBlock_any S5'.out hkB)
            have hnx : ∀ bl, blankP (pgsF fl k) = bl → tgtK fl blk (k + 1) = if bl = false ∧ fl.E ≤ fl.er k then (tb, tk, true) else (k, bl, true) := fun bl hbl => by
              rw [HNX.out, ← HK.out]
              unfold tstep
              rw [if_neg (by have h9 := HNC.out; simpa using h9), hbl]
            have HNXT := Lib.hid hnx
            clear hnx
            go_wp2_with fail
            refine HRB.out.mono ?_
            rintro e w3 ⟨b3, ⟨h1, _⟩ | ⟨_, g, rfl, hg, hps⟩⟩
            · rw [ho] at h1; cases h1
            have HF3 := Lib.hid (S5'.out.below b3)
            have HB3 : Hid (Below w.heap.size w w3) := HBd.out.trans (b3.mono HBd.out.size)
            have HZ3 : Hid (Row w3 Z0 23 3 (fun j => if j = 0 then .int .i64 fl.B else if j = 1 then .int .i64 fl.P else .int .i64 fl.E)) := HZd.out.ch (Ch.of_below b3 (fun _ => False)) id
            have C3 : w3.cell? ⟨S, 0, none⟩ = some (fptr X) := (HS.out.below HB3.out).c0
            have HIB := Lib.hid (isBlank_any hps (pgsF_len fl k) (fun p hp => by
              unfold pgsF at hp
              obtain ⟨j, hj, rfl⟩ := List.mem_map.1 hp
              rw [S5'.out.len k j hkB (by simpa using hj)]
              omega) (by omega))
            obtain ⟨bl, hbl⟩ : ∃ bl, blankP (pgsF fl k) = bl := ⟨_, rfl⟩
            have HNX2 := Lib.hid (HNXT.out bl hbl)
            rw [hbl] at HIB
            have S9 : Hid (w3.drew.cell? ⟨S, 0, none⟩ = some (fptr X) ∧ w3.drew.cell? ⟨Z0, 2, none⟩ = some (.int .i64 fl.E) ∧ FW w3.drew D X y fl) := ⟨C3, HZ3.out.cell (i := 2) (by omega), HF3.out.drew⟩
            have HZ4 : Hid (Row w3.drew Z0 23 3 (fun j => if j = 0 then .int .i64 fl.B else if j = 1 then .int .i64 fl.P else .int .i64 fl.E)) := HZ3.out.drew
            have HB4 : Hid (Below w.heap.size w w3.drew) := HB3.out.drew
            clear hbl b3 hps HZ3 HB3 HF3 HRB HNXT HNX HZd HBd C0
            cases bl
            · by_cases hw : fl.E ≤ fl.er k
              · have hwI : (fl.E : Int) ≤ (fl.er k : Int) := by omega
                have hwd : decide ((fl.er k : Int) ≥ (fl.E : Int)) = true := by simpa using hw
                have HN3 : Hid ((tb, tk, true) = tgtK fl blk (k + 1)) := by
                  show _ = _
                  rw [HNX2.out, if_pos ⟨rfl, hw⟩]
                go_wp2_with fail
                refine HIB.out.mono ?_
                rintro e w' ⟨rfl, rfl⟩
                go_wp2_with fail
                refine wp_region_pl (fun Y => Y.cell? ⟨S, 0, none⟩ = some (fptr X) ∧ Y.cell? ⟨Z0, 2, none⟩ = some (.int .i64 fl.E) ∧ FW Y D X y fl) ((0, 0) :: (1, 0) :: (2, 0) :: (3, 0) :: (4, 0) :: (5, 0) :: (6, 0) :: (7, 0) :: (8, 0) :: (9, 0) :: (10, 0) :: (11, 0) :: (12, 0) :: []) (by kernel_rfl) (by kernel_rfl) ?_
                iterate 3 (apply wpP_go; (focus rfl); (focus rfl); (focus exact S9.out); (focus (rintro Z ⟨s0, s1, s2⟩; go_simp; exact rfl)); intro K hK; go_simp; refine hK _ ?_; clear hK K)
                iterate 5 (apply wpP_go; (focus rfl); (focus rfl); (focus exact S9.out); (focus (rintro Z ⟨s0, s1, s2⟩; go_simp; exact rfl)); intro K hK; go_simp; refine hK _ ?_; clear hK K)
                apply wpP_call
                focus rfl
                focus rfl
                focus exact S9.out
                focus (rintro Z ⟨s0, s1, s2⟩; go_simp; exact ⟨rfl, rfl⟩)
                focus (rintro Z ⟨s0, s1, s2⟩; exact erases_any s2 hkB)
                intro K hK
                go_simp
                refine hK _ ?_
                clear hK K
                iterate 4 (apply wpP_go; (focus rfl); (focus rfl); (focus exact S9.out); (focus (rintro Z ⟨s0, s1, s2⟩; go_simp; exact rfl)); intro K hK; go_simp; refine hK _ ?_; clear hK K)
                refine wpP_done ?_
                clear S9
                generalize w3.drew = V3 at *
                go_wp2_with fail
                go_roundw
                case rel => exact ⟨k + 1, tb, tk, true, by omega, by go_num, rfl, rfl, rfl, HN3, HZ4, HB4⟩
                case measure => simp [intOf]; omega
              · have hwI : ¬ (fl.E : Int) ≤ (fl.er k : Int) := by omega
                have hwd : decide ((fl.er k : Int) ≥ (fl.E : Int)) = false := by simpa using hw
                have HN3 : Hid ((k, false, true) = tgtK fl blk (k + 1)) := by
                  show _ = _
                  rw [HNX2.out, if_neg (fun h => hw h.2)]
                go_wp2_with fail
                refine HIB.out.mono ?_
                rintro e w' ⟨rfl, rfl⟩
                go_wp2_with fail
                refine wp_region_pl (fun Y => Y.cell? ⟨S, 0, none⟩ = some (fptr X) ∧ Y.cell? ⟨Z0, 2, none⟩ = some (.int .i64 fl.E) ∧ FW Y D X y fl) ((0, 0) :: (1, 0) :: (2, 0) :: (3, 0) :: (4, 0) :: (5, 0) :: (6, 0) :: (7, 0) :: (8, 0) :: (9, 0) :: (10, 0) :: (11, 0) :: (12, 0) :: []) (by kernel_rfl) (by kernel_rfl) ?_
                iterate 3 (apply wpP_go; (focus rfl); (focus rfl); (focus exact S9.out); (focus (rintro Z ⟨s0, s1, s2⟩; go_simp; exact rfl)); intro K hK; go_simp; refine hK _ ?_; clear hK K)
                iterate 5 (apply wpP_go; (focus rfl); (focus rfl); (focus exact S9.out); (focus (rintro Z ⟨s0, s1, s2⟩; go_simp; exact rfl)); intro K hK; go_simp; refine hK _ ?_; clear hK K)
                apply wpP_call
                focus rfl
                focus rfl
                focus exact S9.out
                focus (rintro Z ⟨s0, s1, s2⟩; go_simp; exact ⟨rfl, rfl⟩)
                focus (rintro Z ⟨s0, s1, s2⟩; exact erases_any s2 hkB)
                intro K hK
                go_simp
                refine hK _ ?_
                clear hK K
                iterate 4 (apply wpP_go; (focus rfl); (focus rfl); (focus exact S9.out); (focus (rintro Z ⟨s0, s1, s2⟩; go_simp; exact rfl)); intro K hK; go_simp; refine hK _ ?_; clear hK K)
                refine wpP_done ?_
                clear S9
                generalize w3.drew = V3 at *
                go_wp2_with fail
                go_roundw
                case rel => exact ⟨k + 1, k, false, true, by omega, by go_num, rfl, rfl, rfl, HN3, HZ4, HB4⟩
                case measure => simp [intOf]; omega
            · have HN3 : Hid ((k, true, true) = tgtK fl blk (k + 1)) := by
                show _ = _
                rw [HNX2.out, if_neg (fun h => by cases h.1)]
              go_wp2_with fail
              refine HIB.out.mono ?_
              rintro e w' ⟨rfl, rfl⟩
              go_wp2_with fail
              refine wp_region_pl (fun Y => Y.cell? ⟨S, 0, none⟩ = some (fptr X) ∧ Y.cell? ⟨Z0, 2, none⟩ = some (.int .i64 fl.E) ∧ FW Y D X y fl) ((0, 0) :: (1, 0) :: (2, 0) :: (3, 0) :: (4, 0) :: (5, 0) :: (6, 0) :: (7, 0) :: (8, 0) :: (9, 0) :: (10, 0) :: (11, 0) :: (12, 0) :: []) (by kernel_rfl) (by kernel_rfl) ?_
              iterate 3 (apply wpP_go; (focus rfl); (focus rfl); (focus exact S9.out); (focus (rintro Z ⟨s0, s1, s2⟩; go_simp; exact rfl)); intro K hK; go_simp; refine hK _ ?_; clear hK K)
              iterate 9 (apply wpP_not; (focus rfl); (focus rfl); (focus exact S9.out); intro K hK; go_simp; refine hK _ ?_; clear hK K)
              iterate 1 (apply wpP_go; (focus rfl); (focus rfl); (focus exact S9.out); (focus (rintro Z ⟨s0, s1, s2⟩; go_simp; exact rfl)); intro K hK; go_simp; refine hK _ ?_; clear hK K)
              refine wpP_done ?_
              clear S9
              generalize w3.drew = V3 at *
              go_wp2_with fail
              go_roundw
              case rel => exact ⟨k + 1, k, true, true, by omega, by go_num, rfl, rfl, rfl, HN3, HZ4, HB4⟩
              case measure => simp [intOf]; omega
    · have y0 : ¬ (k : Int) < fl.B := by omega
      have ek : k = fl.B := by omega
      have HE : Hid ((tb, tk, tf) = tgtF fl blk) := by rw [ek] at HK; exact HK
      go_wp2_with fail
      go_ret3
      rw [← HE.out]
      exact ⟨rfl, HB.out⟩
end
end Go.Proofs.Ytfglopkglnpokaa
