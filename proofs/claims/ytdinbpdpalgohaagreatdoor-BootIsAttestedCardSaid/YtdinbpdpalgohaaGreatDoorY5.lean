/- target; compact. Conditions: those that each theorem names. -/
import Derived.Test.YtdinbpdpalgohaaGreatDoorY4
namespace Go.Proofs.YtdinbpdpalgohaaGreatDoor
open Go.RowKit
def tstep (fl : FL) (blk : Nat) (t : Nat × Bool × Bool) (b : Nat) : Nat × Bool × Bool :=
  if b = blk ∨ (t.2.2 = true ∧ fl.er t.1 ≤ fl.er b) then t
  else if blankP (pgsF fl b) = false ∧ fl.E ≤ fl.er b then t
  else (b, blankP (pgsF fl b), true)
def tgtK (fl : FL) (blk k : Nat) : Nat × Bool × Bool := (List.range k).foldl (tstep fl blk) (0, false, false)
def tgtF (fl : FL) (blk : Nat) : Nat × Bool × Bool := tgtK fl blk fl.B
theorem tgtK_succ (fl : FL) (blk k : Nat) : tgtK fl blk (k + 1) = tstep fl blk (tgtK fl blk k) k := by
  unfold tgtK
  rw [List.range_succ, List.foldl_append]
  rfl
theorem tgtK_lt (fl : FL) (blk k : Nat) : (tgtK fl blk k).1 < k ∨ (tgtK fl blk k).1 = 0 := by
  induction k with
  | zero => right; rfl
  | succ k ih =>
    rw [tgtK_succ]
    unfold tstep
    split
    · omega
    · split
      · omega
      · left; exact Nat.lt_succ_self k
section
variable {w : World} {D DS : Nat → Prop} {S X m n : Nat} {st : ST} {y : FLay} {fl : FL}
set_option maxRecDepth 100000 in
set_option maxHeartbeats 8000000 in
theorem target_any (hs : SW w DS S X m n st) (h : FW w D X y fl) (ho : fl.off = false) :
    Calls Tryz.prog 164 #[fptr S] w fun e w' => e = .returned (.tuple #[.int .i64 (tgtF fl st.blk).1, .bool (tgtF fl st.blk).2.1, .bool (tgtF fl st.blk).2.2]) ∧ Below w.heap.size w w' := by
  have c0 := hs.c0
  have HSH := Lib.hid (shape_any h)
  have H := Lib.hid h
  have HS := Lib.hid hs
  have hB := h.hB
  have hP := h.hP
  obtain ⟨blk, hblk⟩ : ∃ blk, st.blk = blk := ⟨_, rfl⟩
  have HBK := Lib.hid hblk
  have hbl := hs.hb
  rw [hblk] at hbl ⊢
  clear h hs hblk
  go_enter Tryz.func164, Tryz.ntmps164
  go_wp2_with fail
  refine HSH.out.mono ?_
  rintro e w1 ⟨rfl, b1⟩
  have BA : Below w.heap.size w (w1.alloc (.cells #[.int .i64 fl.B, .int .i64 fl.P, .int .i64 fl.E] 76)) := b1.alloc b1.size _
  have RA := Row.ofList w1 76 #[.int .i64 fl.B, .int .i64 fl.P, .int .i64 fl.E] (fun j => if j = 0 then .int .i64 fl.B else if j = 1 then .int .i64 fl.P else .int .i64 fl.E) 3 rfl
  obtain ⟨w2, hw2⟩ : ∃ w2, w1.alloc (.cells #[.int .i64 fl.B, .int .i64 fl.P, .int .i64 fl.E] 76) = w2 := ⟨_, rfl⟩
  have hz1 := b1.size
  obtain ⟨Z0, hZ0⟩ : ∃ Z0, w1.heap.size = Z0 := ⟨_, rfl⟩
  rw [hw2] at BA RA
  rw [hZ0] at RA
  have z0 : w2.cell? ⟨Z0, 0, none⟩ = some (.int .i64 fl.B) := RA.cell (i := 0) (by omega)
  have HB2 := Lib.hid BA
  have HZ2 : Hid (Row w2 Z0 76 3 (fun j => if j = 0 then .int .i64 fl.B else if j = 1 then .int .i64 fl.P else .int .i64 fl.E)) := RA
  clear BA RA b1 HSH c0
  go_wp2_with fail
  have HK0 : Hid ((0, false, false) = tgtK fl blk 0) := rfl
  clear z0
  go_loopw [2, 3, 4, 17] (fun x2 x3 x4 z wr => ∃ (k tb : Nat) (tk tf : Bool), k ≤ fl.B ∧ z = .int .i64 (k : Int) ∧ x2 = .int .i64 (tb : Int) ∧ x3 = .bool tk ∧ x4 = .bool tf ∧ Hid ((tb, tk, tf) = tgtK fl blk k) ∧ Hid (Row wr Z0 76 3 (fun j => if j = 0 then .int .i64 fl.B else if j = 1 then .int .i64 fl.P else .int .i64 fl.E)) ∧ Hid (Below w.heap.size w wr)) (fun _ _ _ z _ => fl.B - (intOf z).toNat)
  case atStart => exact ⟨0, 0, false, false, by omega, rfl, rfl, rfl, rfl, HK0, HZ2, HB2⟩
  case round =>
    clear HK0 HZ2 HB2
    obtain ⟨k, tb, tk, tf, hk, rfl, rfl, rfl, rfl, HK, HZ, HB⟩ := hrel
    by_cases hkB : k < fl.B
    · have y0 : (k : Int) < fl.B := by omega
      have htb : tb < fl.B := by
        have := tgtK_lt fl blk k
        rw [← HK.out] at this
        simp only at this
        omega
      have Hr := Lib.hid (H.out.below HB.out)
      have Sr := Lib.hid (HS.out.below HB.out)
      have S5 : Hid (wr.drew.cell? ⟨S, 0, none⟩ = some (fptr X) ∧ wr.drew.cell? ⟨S, 2, none⟩ = some (.int .i64 blk) ∧ FW wr.drew D X y fl) := ⟨Sr.out.c0, by rw [← HBK.out]; exact Sr.out.c2, Hr.out.drew⟩
      have HZd : Hid (Row wr.drew Z0 76 3 (fun j => if j = 0 then .int .i64 fl.B else if j = 1 then .int .i64 fl.P else .int .i64 fl.E)) := HZ.out.drew
      have HBd : Hid (Below w.heap.size w wr.drew) := HB.out.drew
      have HNX := Lib.hid (tgtK_succ fl blk k)
      clear HZ HB
      by_cases hkb : k = blk
      · have hkI : (k : Int) = blk := by omega
        have hkd : ((k : Int) == (blk : Int)) = true := by rw [beq_iff_eq]; exact hkI
        have HN2 : Hid ((tb, tk, tf) = tgtK fl blk (k + 1)) := by
          show _ = _
          rw [HNX.out, ← HK.out]
          unfold tstep
          rw [if_pos (.inl hkb)]
        go_wp2_with fail
        refine wp_region_pl (fun Y => Y.cell? ⟨S, 0, none⟩ = some (fptr X) ∧ Y.cell? ⟨S, 2, none⟩ = some (.int .i64 blk) ∧ FW Y D X y fl) ((0, 0) :: (1, 0) :: (2, 0) :: (3, 0) :: (4, 0) :: (5, 0) :: (6, 0) :: (7, 0) :: (8, 0) :: (9, 0) :: (10, 0) :: (11, 0) :: (12, 0) :: (13, 0) :: (14, 0) :: (15, 0) :: (16, 0) :: (17, 0) :: (18, 0) :: (19, 0) :: (20, 0) :: (21, 0) :: (22, 0) :: (23, 0) :: []) (by kernel_rfl) (by kernel_rfl) ?_
        iterate 7 (apply wpP_go; (focus rfl); (focus rfl); (focus exact S5.out); (focus (rintro Z ⟨s0, s1, s2⟩; go_simp; exact rfl)); intro K hK; go_simp; refine hK _ ?_; clear hK K)
        iterate 16 (apply wpP_not; (focus rfl); (focus rfl); (focus exact S5.out); intro K hK; go_simp; refine hK _ ?_; clear hK K)
        iterate 1 (apply wpP_go; (focus rfl); (focus rfl); (focus exact S5.out); (focus (rintro Z ⟨s0, s1, s2⟩; go_simp; exact rfl)); intro K hK; go_simp; refine hK _ ?_; clear hK K)
        refine wpP_done ?_
        clear S5
        generalize wr.drew = V at *
        go_wp2_with fail
        go_roundw
        case rel => exact ⟨k + 1, tb, tk, tf, by omega, by go_num, rfl, rfl, rfl, HN2, HZd, HBd⟩
        case measure => simp [intOf]; omega
      · have hkI : ¬ (k : Int) = blk := by omega
        have hkd : ((k : Int) == (blk : Int)) = false := by rw [beq_eq_false_iff_ne]; exact hkI
        cases tf
        · have HNC : Hid (¬ (k = blk ∨ (((tb, tk, false) : Nat × Bool × Bool).2.2 = true ∧ fl.er ((tb, tk, false) : Nat × Bool × Bool).1 ≤ fl.er k))) := by
            rintro (h | h)
            · exact hkb h
            · cases h.1
          go_wp2_with fail
          refine wp_region_pl (fun Y => Y.cell? ⟨S, 0, none⟩ = some (fptr X) ∧ Y.cell? ⟨S, 2, none⟩ = some (.int .i64 blk) ∧ FW Y D X y fl) ((0, 0) :: (1, 0) :: (2, 0) :: (3, 0) :: (4, 0) :: (5, 0) :: (6, 0) :: (7, 0) :: (8, 0) :: (9, 0) :: (10, 0) :: (11, 0) :: (12, 0) :: (13, 0) :: (14, 0) :: (15, 0) :: (16, 0) :: (17, 0) :: (18, 0) :: (19, 0) :: (20, 0) :: (21, 0) :: (22, 0) :: (23, 0) :: []) (by kernel_rfl) (by kernel_rfl) ?_
          iterate 7 (apply wpP_go; (focus rfl); (focus rfl); (focus exact S5.out); (focus (rintro Z ⟨s0, s1, s2⟩; go_simp; exact rfl)); intro K hK; go_simp; refine hK _ ?_; clear hK K)
          iterate 2 (apply wpP_go; (focus rfl); (focus rfl); (focus exact S5.out); (focus (rintro Z ⟨s0, s1, s2⟩; go_simp; exact rfl)); intro K hK; go_simp; refine hK _ ?_; clear hK K)
          iterate 13 (apply wpP_not; (focus rfl); (focus rfl); (focus exact S5.out); intro K hK; go_simp; refine hK _ ?_; clear hK K)
          iterate 2 (apply wpP_go; (focus rfl); (focus rfl); (focus exact S5.out); (focus (rintro Z ⟨s0, s1, s2⟩; go_simp; exact rfl)); intro K hK; go_simp; refine hK _ ?_; clear hK K)
          refine wpP_done ?_
          have S5' := Lib.hid S5.out.2.2
          have C0 := S5.out.1
          clear S5
          generalize wr.drew = V at *
          have HRB := Lib.hid (readBlock_any S5'.out hkB)
          have hnx : ∀ bl, blankP (pgsF fl k) = bl → tgtK fl blk (k + 1) = if bl = false ∧ fl.E ≤ fl.er k then (tb, tk, false) else (k, bl, true) := fun bl hbl => by
            rw [HNX.out, ← HK.out]
            unfold tstep
            rw [if_neg (by have h9 := HNC.out; simpa using h9), hbl]
          have HNXT := Lib.hid hnx
          clear hnx
          go_wp2_with fail
          refine HRB.out.mono ?_
          rintro e w3 ⟨b3, ⟨h1, _⟩ | ⟨_, g, rfl, hg, hps⟩⟩
          · rw [ho] at h1; cases h1
          have HF3 := Lib.hid (S5'.out.below b3)
          have HB3 : Hid (Below w.heap.size w w3) := HBd.out.trans (b3.mono HBd.out.size)
          have HZ3 : Hid (Row w3 Z0 76 3 (fun j => if j = 0 then .int .i64 fl.B else if j = 1 then .int .i64 fl.P else .int .i64 fl.E)) := HZd.out.ch (Ch.of_below b3 (fun _ => False)) id
          have C3 : w3.cell? ⟨S, 0, none⟩ = some (fptr X) := (HS.out.below HB3.out).c0
          have HIB := Lib.hid (isBlank_any hps (pgsF_len fl k) (fun p hp => by
            unfold pgsF at hp
            obtain ⟨j, hj, rfl⟩ := List.mem_map.1 hp
            rw [S5'.out.len k j hkB (by simpa using hj)]
            omega) (by omega))
          obtain ⟨bl, hbl⟩ : ∃ bl, blankP (pgsF fl k) = bl := ⟨_, rfl⟩
          have HNX2 := Lib.hid (HNXT.out bl hbl)
          rw [hbl] at HIB
          have S9 : Hid (w3.drew.cell? ⟨S, 0, none⟩ = some (fptr X) ∧ w3.drew.cell? ⟨Z0, 2, none⟩ = some (.int .i64 fl.E) ∧ FW w3.drew D X y fl) := ⟨C3, HZ3.out.cell (i := 2) (by omega), HF3.out.drew⟩
          have HZ4 : Hid (Row w3.drew Z0 76 3 (fun j => if j = 0 then .int .i64 fl.B else if j = 1 then .int .i64 fl.P else .int .i64 fl.E)) := HZ3.out.drew
          have HB4 : Hid (Below w.heap.size w w3.drew) := HB3.out.drew
          clear hbl b3 hps HZ3 HB3 HF3 HRB HNXT HNX HZd HBd C0
          cases bl
          · by_cases hw : fl.E ≤ fl.er k
            · have hwI : (fl.E : Int) ≤ (fl.er k : Int) := by omega
              have hwd : decide ((fl.er k : Int) ≥ (fl.E : Int)) = true := by simpa using hw
              have HN3 : Hid ((tb, tk, false) = tgtK fl blk (k + 1)) := by
                show _ = _
                rw [HNX2.out, if_pos ⟨rfl, hw⟩]
              go_wp2_with fail
              refine HIB.out.mono ?_
              rintro e w' ⟨rfl, rfl⟩
              go_wp2_with fail
              refine wp_region_pl (fun Y => Y.cell? ⟨S, 0, none⟩ = some (fptr X) ∧ Y.cell? ⟨Z0, 2, none⟩ = some (.int .i64 fl.E) ∧ FW Y D X y fl) ((0, 0) :: (1, 0) :: (2, 0) :: (3, 0) :: (4, 0) :: (5, 0) :: (6, 0) :: (7, 0) :: (8, 0) :: (9, 0) :: (10, 0) :: (11, 0) :: (12, 0) :: []) (by kernel_rfl) (by kernel_rfl) ?_
              iterate 3 (apply wpP_go; (focus rfl); (focus rfl); (focus exact S9.out); (focus (rintro Z ⟨s0, s1, s2⟩; go_simp; exact rfl)); intro K hK; go_simp; refine hK _ ?_; clear hK K)
              iterate 5 (apply wpP_go; (focus rfl); (focus rfl); (focus exact S9.out); (focus (rintro Z ⟨s0, s1, s2⟩; go_simp; exact rfl)); intro K hK; go_simp; refine hK _ ?_; clear hK K)
              apply wpP_call
              focus rfl
              focus rfl
              focus exact S9.out
              focus (rintro Z ⟨s0, s1, s2⟩; go_simp; exact ⟨rfl, rfl⟩)
              focus (rintro Z ⟨s0, s1, s2⟩; exact erases_any s2 hkB)
              intro K hK
              go_simp
              refine hK _ ?_
              clear hK K
              iterate 4 (apply wpP_go; (focus rfl); (focus rfl); (focus exact S9.out); (focus (rintro Z ⟨s0, s1, s2⟩; go_simp; exact rfl)); intro K hK; go_simp; refine hK _ ?_; clear hK K)
              refine wpP_done ?_
              clear S9
              generalize w3.drew = V3 at *
              go_wp2_with fail
              go_roundw
              case rel => exact ⟨k + 1, tb, tk, false, by omega, by go_num, rfl, rfl, rfl, HN3, HZ4, HB4⟩
              case measure => simp [intOf]; omega
            · have hwI : ¬ (fl.E : Int) ≤ (fl.er k : Int) := by omega
              have hwd : decide ((fl.er k : Int) ≥ (fl.E : Int)) = false := by simpa using hw
              have HN3 : Hid ((k, false, true) = tgtK fl blk (k + 1)) := by
                show _ = _
                rw [HNX2.out, if_neg (fun h => hw h.2)]
              go_wp2_with fail
              refine HIB.out.mono ?_
              rintro e w' ⟨rfl, rfl⟩
              go_wp2_with fail
              refine wp_region_pl (fun Y => Y.cell? ⟨S, 0, none⟩ = some (fptr X) ∧ Y.cell? ⟨Z0, 2, none⟩ = some (.int .i64 fl.E) ∧ FW Y D X y fl) ((0, 0) :: (1, 0) :: (2, 0) :: (3, 0) :: (4, 0) :: (5, 0) :: (6, 0) :: (7, 0) :: (8, 0) :: (9, 0) :: (10, 0) :: (11, 0) :: (12, 0) :: []) (by kernel_rfl) (by kernel_rfl) ?_
              iterate 3 (apply wpP_go; (focus rfl); (focus rfl); (focus exact S9.out); (focus (rintro Z ⟨s0, s1, s2⟩; go_simp; exact rfl)); intro K hK; go_simp; refine hK _ ?_; clear hK K)
              iterate 5 (apply wpP_go; (focus rfl); (focus rfl); (focus exact S9.out); (focus (rintro Z ⟨s0, s1, s2⟩; go_simp; exact rfl)); intro K hK; go_simp; refine hK _ ?_; clear hK K)
              apply wpP_call
              focus rfl
              focus rfl
              focus exact S9.out
              focus (rintro Z ⟨s0, s1, s2⟩; go_simp; exact ⟨rfl, rfl⟩)
              focus (rintro Z ⟨s0, s1, s2⟩; exact erases_any s2 hkB)
              intro K hK
              go_simp
              refine hK _ ?_
              clear hK K
              iterate 4 (apply wpP_go; (focus rfl); (focus rfl); (focus exact S9.out); (focus (rintro Z ⟨s0, s1, s2⟩; go_simp; exact rfl)); intro K hK; go_simp; refine hK _ ?_; clear hK K)
              refine wpP_done ?_
              clear S9
              generalize w3.drew = V3 at *
              go_wp2_with fail
              go_roundw
              case rel => exact ⟨k + 1, k, false, true, by omega, by go_num, rfl, rfl, rfl, HN3, HZ4, HB4⟩
              case measure => simp [intOf]; omega
          · have HN3 : Hid ((k, true, true) = tgtK fl blk (k + 1)) := by
              show _ = _
              rw [HNX2.out, if_neg (fun h => by cases h.1)]
            go_wp2_with fail
            refine HIB.out.mono ?_
            rintro e w' ⟨rfl, rfl⟩
            go_wp2_with fail
            refine wp_region_pl (fun Y => Y.cell? ⟨S, 0, none⟩ = some (fptr X) ∧ Y.cell? ⟨Z0, 2, none⟩ = some (.int .i64 fl.E) ∧ FW Y D X y fl) ((0, 0) :: (1, 0) :: (2, 0) :: (3, 0) :: (4, 0) :: (5, 0) :: (6, 0) :: (7, 0) :: (8, 0) :: (9, 0) :: (10, 0) :: (11, 0) :: (12, 0) :: []) (by kernel_rfl) (by kernel_rfl) ?_
            iterate 3 (apply wpP_go; (focus rfl); (focus rfl); (focus exact S9.out); (focus (rintro Z ⟨s0, s1, s2⟩; go_simp; exact rfl)); intro K hK; go_simp; refine hK _ ?_; clear hK K)
            iterate 9 (apply wpP_not; (focus rfl); (focus rfl); (focus exact S9.out); intro K hK; go_simp; refine hK _ ?_; clear hK K)
            iterate 1 (apply wpP_go; (focus rfl); (focus rfl); (focus exact S9.out); (focus (rintro Z ⟨s0, s1, s2⟩; go_simp; exact rfl)); intro K hK; go_simp; refine hK _ ?_; clear hK K)
            refine wpP_done ?_
            clear S9
            generalize w3.drew = V3 at *
            go_wp2_with fail
            go_roundw
            case rel => exact ⟨k + 1, k, true, true, by omega, by go_num, rfl, rfl, rfl, HN3, HZ4, HB4⟩
            case measure => simp [intOf]; omega
        · by_cases hle : fl.er tb ≤ fl.er k
          · have hlI : (fl.er tb : Int) ≤ (fl.er k : Int) := by omega
            have hld : decide ((fl.er k : Int) ≥ (fl.er tb : Int)) = true := by simpa using hle
            have HN2 : Hid ((tb, tk, true) = tgtK fl blk (k + 1)) := by
              show _ = _
              rw [HNX.out, ← HK.out]
              unfold tstep
              rw [if_pos (.inr ⟨rfl, hle⟩)]
            go_wp2_with fail
            refine wp_region_pl (fun Y => Y.cell? ⟨S, 0, none⟩ = some (fptr X) ∧ Y.cell? ⟨S, 2, none⟩ = some (.int .i64 blk) ∧ FW Y D X y fl) ((0, 0) :: (1, 0) :: (2, 0) :: (3, 0) :: (4, 0) :: (5, 0) :: (6, 0) :: (7, 0) :: (8, 0) :: (9, 0) :: (10, 0) :: (11, 0) :: (12, 0) :: (13, 0) :: (14, 0) :: (15, 0) :: (16, 0) :: (17, 0) :: (18, 0) :: (19, 0) :: (20, 0) :: (21, 0) :: (22, 0) :: (23, 0) :: []) (by kernel_rfl) (by kernel_rfl) ?_
            iterate 7 (apply wpP_go; (focus rfl); (focus rfl); (focus exact S5.out); (focus (rintro Z ⟨s0, s1, s2⟩; go_simp; exact rfl)); intro K hK; go_simp; refine hK _ ?_; clear hK K)
            iterate 7 (apply wpP_go; (focus rfl); (focus rfl); (focus exact S5.out); (focus (rintro Z ⟨s0, s1, s2⟩; go_simp; exact rfl)); intro K hK; go_simp; refine hK _ ?_; clear hK K)
            apply wpP_call
            focus rfl
            focus rfl
            focus exact S5.out
            focus (rintro Z ⟨s0, s1, s2⟩; go_simp; exact ⟨rfl, rfl⟩)
            focus (rintro Z ⟨s0, s1, s2⟩; exact erases_any s2 hkB)
            intro K hK
            go_simp
            refine hK _ ?_
            clear hK K
            iterate 5 (apply wpP_go; (focus rfl); (focus rfl); (focus exact S5.out); (focus (rintro Z ⟨s0, s1, s2⟩; go_simp; exact rfl)); intro K hK; go_simp; refine hK _ ?_; clear hK K)
            apply wpP_call
            focus rfl
            focus rfl
            focus exact S5.out
            focus (rintro Z ⟨s0, s1, s2⟩; go_simp; exact ⟨rfl, rfl⟩)
            focus (rintro Z ⟨s0, s1, s2⟩; exact erases_any s2 htb)
            intro K hK
            go_simp
            refine hK _ ?_
            clear hK K
            iterate 3 (apply wpP_go; (focus rfl); (focus rfl); (focus exact S5.out); (focus (rintro Z ⟨s0, s1, s2⟩; go_simp; exact rfl)); intro K hK; go_simp; refine hK _ ?_; clear hK K)
            refine wpP_done ?_
            clear S5
            generalize wr.drew = V at *
            go_wp2_with fail
            go_roundw
            case rel => exact ⟨k + 1, tb, tk, true, by omega, by go_num, rfl, rfl, rfl, HN2, HZd, HBd⟩
            case measure => simp [intOf]; omega
          · have hlI : ¬ (fl.er tb : Int) ≤ (fl.er k : Int) := by omega
            have hld : decide ((fl.er k : Int) ≥ (fl.er tb : Int)) = false := by simpa using hle
            have HNC : Hid (¬ (k = blk ∨ (((tb, tk, true) : Nat × Bool × Bool).2.2 = true ∧ fl.er ((tb, tk, true) : Nat × Bool × Bool).1 ≤ fl.er k))) := by
              rintro (h | h)
              · exact hkb h
              · exact hle h.2
            go_wp2_with fail
            refine wp_region_pl (fun Y => Y.cell? ⟨S, 0, none⟩ = some (fptr X) ∧ Y.cell? ⟨S, 2, none⟩ = some (.int .i64 blk) ∧ FW Y D X y fl) ((0, 0) :: (1, 0) :: (2, 0) :: (3, 0) :: (4, 0) :: (5, 0) :: (6, 0) :: (7, 0) :: (8, 0) :: (9, 0) :: (10, 0) :: (11, 0) :: (12, 0) :: (13, 0) :: (14, 0) :: (15, 0) :: (16, 0) :: (17, 0) :: (18, 0) :: (19, 0) :: (20, 0) :: (21, 0) :: (22, 0) :: (23, 0) :: []) (by kernel_rfl) (by kernel_rfl) ?_
            iterate 7 (apply wpP_go; (focus rfl); (focus rfl); (focus exact S5.out); (focus (rintro Z ⟨s0, s1, s2⟩; go_simp; exact rfl)); intro K hK; go_simp; refine hK _ ?_; clear hK K)
            iterate 7 (apply wpP_go; (focus rfl); (focus rfl); (focus exact S5.out); (focus (rintro Z ⟨s0, s1, s2⟩; go_simp; exact rfl)); intro K hK; go_simp; refine hK _ ?_; clear hK K)
            apply wpP_call
            focus rfl
            focus rfl
            focus exact S5.out
            focus (rintro Z ⟨s0, s1, s2⟩; go_simp; exact ⟨rfl, rfl⟩)
            focus (rintro Z ⟨s0, s1, s2⟩; exact erases_any s2 hkB)
            intro K hK
            go_simp
            refine hK _ ?_
            clear hK K
            iterate 5 (apply wpP_go; (focus rfl); (focus rfl); (focus exact S5.out); (focus (rintro Z ⟨s0, s1, s2⟩; go_simp; exact rfl)); intro K hK; go_simp; refine hK _ ?_; clear hK K)
            apply wpP_call
            focus rfl
            focus rfl
            focus exact S5.out
            focus (rintro Z ⟨s0, s1, s2⟩; go_simp; exact ⟨rfl, rfl⟩)
            focus (rintro Z ⟨s0, s1, s2⟩; exact erases_any s2 htb)
            intro K hK
            go_simp
            refine hK _ ?_
            clear hK K
            iterate 3 (apply wpP_go; (focus rfl); (focus rfl); (focus exact S5.out); (focus (rintro Z ⟨s0, s1, s2⟩; go_simp; exact rfl)); intro K hK; go_simp; refine hK _ ?_; clear hK K)
            refine wpP_done ?_
            have S5' := Lib.hid S5.out.2.2
            have C0 := S5.out.1
            clear S5
            generalize wr.drew = V at *
            have HRB := Lib.hid (readBlock_any S5'.out hkB)
            have hnx : ∀ bl, blankP (pgsF fl k) = bl → tgtK fl blk (k + 1) = if bl = false ∧ fl.E ≤ fl.er k then (tb, tk, true) else (k, bl, true) := fun bl hbl => by
              rw [HNX.out, ← HK.out]
              unfold tstep
              rw [if_neg (by have h9 := HNC.out; simpa using h9), hbl]
            have HNXT := Lib.hid hnx
            clear hnx
            go_wp2_with fail
            refine HRB.out.mono ?_
            rintro e w3 ⟨b3, ⟨h1, _⟩ | ⟨_, g, rfl, hg, hps⟩⟩
            · rw [ho] at h1; cases h1
            have HF3 := Lib.hid (S5'.out.below b3)
            have HB3 : Hid (Below w.heap.size w w3) := HBd.out.trans (b3.mono HBd.out.size)
            have HZ3 : Hid (Row w3 Z0 76 3 (fun j => if j = 0 then .int .i64 fl.B else if j = 1 then .int .i64 fl.P else .int .i64 fl.E)) := HZd.out.ch (Ch.of_below b3 (fun _ => False)) id
            have C3 : w3.cell? ⟨S, 0, none⟩ = some (fptr X) := (HS.out.below HB3.out).c0
            have HIB := Lib.hid (isBlank_any hps (pgsF_len fl k) (fun p hp => by
              unfold pgsF at hp
              obtain ⟨j, hj, rfl⟩ := List.mem_map.1 hp
              rw [S5'.out.len k j hkB (by simpa using hj)]
              omega) (by omega))
            obtain ⟨bl, hbl⟩ : ∃ bl, blankP (pgsF fl k) = bl := ⟨_, rfl⟩
            have HNX2 := Lib.hid (HNXT.out bl hbl)
            rw [hbl] at HIB
            have S9 : Hid (w3.drew.cell? ⟨S, 0, none⟩ = some (fptr X) ∧ w3.drew.cell? ⟨Z0, 2, none⟩ = some (.int .i64 fl.E) ∧ FW w3.drew D X y fl) := ⟨C3, HZ3.out.cell (i := 2) (by omega), HF3.out.drew⟩
            have HZ4 : Hid (Row w3.drew Z0 76 3 (fun j => if j = 0 then .int .i64 fl.B else if j = 1 then .int .i64 fl.P else .int .i64 fl.E)) := HZ3.out.drew
            have HB4 : Hid (Below w.heap.size w w3.drew) := HB3.out.drew
            clear hbl b3 hps HZ3 HB3 HF3 HRB HNXT HNX HZd HBd C0
            cases bl
            · by_cases hw : fl.E ≤ fl.er k
              · have hwI : (fl.E : Int) ≤ (fl.er k : Int) := by omega
                have hwd : decide ((fl.er k : Int) ≥ (fl.E : Int)) = true := by simpa using hw
                have HN3 : Hid ((tb, tk, true) = tgtK fl blk (k + 1)) := by
                  show _ = _
                  rw [HNX2.out, if_pos ⟨rfl, hw⟩]
                go_wp2_with fail
                refine HIB.out.mono ?_
                rintro e w' ⟨rfl, rfl⟩
                go_wp2_with fail
                refine wp_region_pl (fun Y => Y.cell? ⟨S, 0, none⟩ = some (fptr X) ∧ Y.cell? ⟨Z0, 2, none⟩ = some (.int .i64 fl.E) ∧ FW Y D X y fl) ((0, 0) :: (1, 0) :: (2, 0) :: (3, 0) :: (4, 0) :: (5, 0) :: (6, 0) :: (7, 0) :: (8, 0) :: (9, 0) :: (10, 0) :: (11, 0) :: (12, 0) :: []) (by kernel_rfl) (by kernel_rfl) ?_
                iterate 3 (apply wpP_go; (focus rfl); (focus rfl); (focus exact S9.out); (focus (rintro Z ⟨s0, s1, s2⟩; go_simp; exact rfl)); intro K hK; go_simp; refine hK _ ?_; clear hK K)
                iterate 5 (apply wpP_go; (focus rfl); (focus rfl); (focus exact S9.out); (focus (rintro Z ⟨s0, s1, s2⟩; go_simp; exact rfl)); intro K hK; go_simp; refine hK _ ?_; clear hK K)
                apply wpP_call
                focus rfl
                focus rfl
                focus exact S9.out
                focus (rintro Z ⟨s0, s1, s2⟩; go_simp; exact ⟨rfl, rfl⟩)
                focus (rintro Z ⟨s0, s1, s2⟩; exact erases_any s2 hkB)
                intro K hK
                go_simp
                refine hK _ ?_
                clear hK K
                iterate 4 (apply wpP_go; (focus rfl); (focus rfl); (focus exact S9.out); (focus (rintro Z ⟨s0, s1, s2⟩; go_simp; exact rfl)); intro K hK; go_simp; refine hK _ ?_; clear hK K)
                refine wpP_done ?_
                clear S9
                generalize w3.drew = V3 at *
                go_wp2_with fail
                go_roundw
                case rel => exact ⟨k + 1, tb, tk, true, by omega, by go_num, rfl, rfl, rfl, HN3, HZ4, HB4⟩
                case measure => simp [intOf]; omega
              · have hwI : ¬ (fl.E : Int) ≤ (fl.er k : Int) := by omega
                have hwd : decide ((fl.er k : Int) ≥ (fl.E : Int)) = false := by simpa using hw
                have HN3 : Hid ((k, false, true) = tgtK fl blk (k + 1)) := by
                  show _ = _
                  rw [HNX2.out, if_neg (fun h => hw h.2)]
                go_wp2_with fail
                refine HIB.out.mono ?_
                rintro e w' ⟨rfl, rfl⟩
                go_wp2_with fail
                refine wp_region_pl (fun Y => Y.cell? ⟨S, 0, none⟩ = some (fptr X) ∧ Y.cell? ⟨Z0, 2, none⟩ = some (.int .i64 fl.E) ∧ FW Y D X y fl) ((0, 0) :: (1, 0) :: (2, 0) :: (3, 0) :: (4, 0) :: (5, 0) :: (6, 0) :: (7, 0) :: (8, 0) :: (9, 0) :: (10, 0) :: (11, 0) :: (12, 0) :: []) (by kernel_rfl) (by kernel_rfl) ?_
                iterate 3 (apply wpP_go; (focus rfl); (focus rfl); (focus exact S9.out); (focus (rintro Z ⟨s0, s1, s2⟩; go_simp; exact rfl)); intro K hK; go_simp; refine hK _ ?_; clear hK K)
                iterate 5 (apply wpP_go; (focus rfl); (focus rfl); (focus exact S9.out); (focus (rintro Z ⟨s0, s1, s2⟩; go_simp; exact rfl)); intro K hK; go_simp; refine hK _ ?_; clear hK K)
                apply wpP_call
                focus rfl
                focus rfl
                focus exact S9.out
                focus (rintro Z ⟨s0, s1, s2⟩; go_simp; exact ⟨rfl, rfl⟩)
                focus (rintro Z ⟨s0, s1, s2⟩; exact erases_any s2 hkB)
                intro K hK
                go_simp
                refine hK _ ?_
                clear hK K
                iterate 4 (apply wpP_go; (focus rfl); (focus rfl); (focus exact S9.out); (focus (rintro Z ⟨s0, s1, s2⟩; go_simp; exact rfl)); intro K hK; go_simp; refine hK _ ?_; clear hK K)
                refine wpP_done ?_
                clear S9
                generalize w3.drew = V3 at *
                go_wp2_with fail
                go_roundw
                case rel => exact ⟨k + 1, k, false, true, by omega, by go_num, rfl, rfl, rfl, HN3, HZ4, HB4⟩
                case measure => simp [intOf]; omega
            · have HN3 : Hid ((k, true, true) = tgtK fl blk (k + 1)) := by
                show _ = _
                rw [HNX2.out, if_neg (fun h => by cases h.1)]
              go_wp2_with fail
              refine HIB.out.mono ?_
              rintro e w' ⟨rfl, rfl⟩
              go_wp2_with fail
              refine wp_region_pl (fun Y => Y.cell? ⟨S, 0, none⟩ = some (fptr X) ∧ Y.cell? ⟨Z0, 2, none⟩ = some (.int .i64 fl.E) ∧ FW Y D X y fl) ((0, 0) :: (1, 0) :: (2, 0) :: (3, 0) :: (4, 0) :: (5, 0) :: (6, 0) :: (7, 0) :: (8, 0) :: (9, 0) :: (10, 0) :: (11, 0) :: (12, 0) :: []) (by kernel_rfl) (by kernel_rfl) ?_
              iterate 3 (apply wpP_go; (focus rfl); (focus rfl); (focus exact S9.out); (focus (rintro Z ⟨s0, s1, s2⟩; go_simp; exact rfl)); intro K hK; go_simp; refine hK _ ?_; clear hK K)
              iterate 9 (apply wpP_not; (focus rfl); (focus rfl); (focus exact S9.out); intro K hK; go_simp; refine hK _ ?_; clear hK K)
              iterate 1 (apply wpP_go; (focus rfl); (focus rfl); (focus exact S9.out); (focus (rintro Z ⟨s0, s1, s2⟩; go_simp; exact rfl)); intro K hK; go_simp; refine hK _ ?_; clear hK K)
              refine wpP_done ?_
              clear S9
              generalize w3.drew = V3 at *
              go_wp2_with fail
              go_roundw
              case rel => exact ⟨k + 1, k, true, true, by omega, by go_num, rfl, rfl, rfl, HN3, HZ4, HB4⟩
              case measure => simp [intOf]; omega
    · have y0 : ¬ (k : Int) < fl.B := by omega
      have ek : k = fl.B := by omega
      have HE : Hid ((tb, tk, tf) = tgtF fl blk) := by rw [ek] at HK; exact HK
      go_wp2_with fail
      go_ret3
      rw [← HE.out]
      exact ⟨rfl, HB.out⟩
end
end Go.Proofs.YtdinbpdpalgohaaGreatDoor
namespace Go.Proofs.YtdinbpdpalgohaaGreatDoor
open Go.RowKit
def recs (V : Vars) : List Str := V.map fun p => recd 1 p.1 p.2
def sumP : List Str → Nat
  | [] => 0
  | r :: l => pgs r.length + sumP l
theorem sumP_append (a b : List Str) : sumP (a ++ b) = sumP a + sumP b := by
  induction a with
  | nil => simp [sumP]
  | cons r l ih => simp only [List.cons_append, sumP, ih]; omega
theorem sumP_take {l : List Str} {i : Nat} (h : i < l.length) : sumP (l.take (i + 1)) = sumP (l.take i) + pgs (l[i]).length := by
  rw [List.take_succ_eq_append_getElem h, sumP_append]; simp [sumP]
theorem sumP_le (l : List Str) (i : Nat) : sumP (l.take i) ≤ sumP l := by
  have h := sumP_append (l.take i) (l.drop i)
  rw [List.take_append_drop] at h
  omega
theorem bsz (s : ByteArray) : s.size = s.data.toList.length := rfl
theorem recd_len (k : Nat) (n v : Str) : (recd k n v).length = 5 + n.length + v.length := by
  simp [recd]; omega
/-- Records written one after another. -/
def wrAll : FL → Nat → Nat → List Str → Int × FL × Nat
  | fl, _, p, [] => (0, fl, p)
  | fl, b, p, r :: l => if (wrL fl b p (pagesR r)).1 = 0 then wrAll (wrL fl b p (pagesR r)).2 b (p + pgs r.length) l else ((wrL fl b p (pagesR r)).1, (wrL fl b p (pagesR r)).2, p)
/-- The target's block made ready. -/
def prepF (fl : FL) (t : Nat × Bool × Bool) : Int × FL := if t.2.1 = true then (0, fl) else eraseF fl t.1
def cmpF (fl : FL) (st : ST) (V : Vars) : Int × FL × ST :=
  if fl.P < 1 + sumP (recs V) then (8, fl, st) else
  if (tgtF fl st.blk).2.2 = false then (8, fl, st) else
  if (prepF fl (tgtF fl st.blk)).1 ≠ 0 then ((prepF fl (tgtF fl st.blk)).1, (prepF fl (tgtF fl st.blk)).2, st) else
  if (wrAll (prepF fl (tgtF fl st.blk)).2 (tgtF fl st.blk).1 1 (recs V)).1 ≠ 0 then ((wrAll (prepF fl (tgtF fl st.blk)).2 (tgtF fl st.blk).1 1 (recs V)).1, (wrAll (prepF fl (tgtF fl st.blk)).2 (tgtF fl st.blk).1 1 (recs V)).2.1, st) else
  if (wrL (wrAll (prepF fl (tgtF fl st.blk)).2 (tgtF fl st.blk).1 1 (recs V)).2.1 (tgtF fl st.blk).1 0 (pagesR (hdr ((st.gen + 1) % 18446744073709551616)))).1 ≠ 0 then
    ((wrL (wrAll (prepF fl (tgtF fl st.blk)).2 (tgtF fl st.blk).1 1 (recs V)).2.1 (tgtF fl st.blk).1 0 (pagesR (hdr ((st.gen + 1) % 18446744073709551616)))).1, (wrL (wrAll (prepF fl (tgtF fl st.blk)).2 (tgtF fl st.blk).1 1 (recs V)).2.1 (tgtF fl st.blk).1 0 (pagesR (hdr ((st.gen + 1) % 18446744073709551616)))).2, st)
  else (0, (wrL (wrAll (prepF fl (tgtF fl st.blk)).2 (tgtF fl st.blk).1 1 (recs V)).2.1 (tgtF fl st.blk).1 0 (pagesR (hdr ((st.gen + 1) % 18446744073709551616)))).2,
    ⟨V, (tgtF fl st.blk).1, (st.gen + 1) % 18446744073709551616, (wrAll (prepF fl (tgtF fl st.blk)).2 (tgtF fl st.blk).1 1 (recs V)).2.2, false⟩)
theorem wrL_same : ∀ (cs : List Str) (fl : FL) (b p : Nat), (wrL fl b p cs).2.B = fl.B ∧ (wrL fl b p cs).2.P = fl.P
  | [], _, _, _ => ⟨rfl, rfl⟩
  | c :: r, fl, b, p => by
    have h := progF_same fl b p c
    unfold wrL
    split
    · have := wrL_same r (progF fl b p c).2 b (p + 1)
      exact ⟨this.1.trans h.1, this.2.trans h.2⟩
    · exact h
theorem eraseF_same (fl : FL) (b : Nat) : (eraseF fl b).2.B = fl.B ∧ (eraseF fl b).2.P = fl.P := by
  have h := intF_same (fl.erd b (fl.er b + 1))
  unfold eraseF
  split
  · exact ⟨rfl, rfl⟩
  · split
    · exact ⟨rfl, rfl⟩
    · split
      · exact ⟨h.1, h.2.1⟩
      · exact ⟨h.1, h.2.1⟩
section
variable {fl : FL} {st : ST} {V : Vars} {p t : Nat} {bl : Bool} {f1 f2 f3 : FL} {e : Int} {p' : Nat}
theorem cmp1 (hp : 1 + sumP (recs V) = p) (h : fl.P < p) : cmpF fl st V = (8, fl, st) := by
  unfold cmpF; rw [if_pos (by omega)]
theorem cmp2 (hp : 1 + sumP (recs V) = p) (h : ¬ fl.P < p) (ht : tgtF fl st.blk = (t, bl, false)) : cmpF fl st V = (8, fl, st) := by
  unfold cmpF; rw [if_neg (by omega), ht, if_pos rfl]
theorem cmp3 (hp : 1 + sumP (recs V) = p) (h : ¬ fl.P < p) (ht : tgtF fl st.blk = (t, bl, true)) (h1 : prepF fl (t, bl, true) = (e, f1)) (he : e ≠ 0) : cmpF fl st V = (e, f1, st) := by
  unfold cmpF; rw [if_neg (by omega), ht, if_neg (by simp), h1, if_pos he]
theorem cmp4 (hp : 1 + sumP (recs V) = p) (h : ¬ fl.P < p) (ht : tgtF fl st.blk = (t, bl, true)) (h1 : prepF fl (t, bl, true) = (0, f1)) (h2 : wrAll f1 t 1 (recs V) = (e, f2, p')) (he : e ≠ 0) : cmpF fl st V = (e, f2, st) := by
  unfold cmpF; rw [if_neg (by omega), ht, if_neg (by simp), h1, if_neg (by simp), h2, if_pos he]
theorem cmp5 (hp : 1 + sumP (recs V) = p) (h : ¬ fl.P < p) (ht : tgtF fl st.blk = (t, bl, true)) (h1 : prepF fl (t, bl, true) = (0, f1)) (h2 : wrAll f1 t 1 (recs V) = (0, f2, p'))
    (h3 : wrL f2 t 0 (pagesR (hdr ((st.gen + 1) % 18446744073709551616))) = (e, f3)) (he : e ≠ 0) : cmpF fl st V = (e, f3, st) := by
  unfold cmpF; rw [if_neg (by omega), ht, if_neg (by simp), h1, if_neg (by simp), h2, if_neg (by simp), h3, if_pos he]
theorem cmp6 (hp : 1 + sumP (recs V) = p) (h : ¬ fl.P < p) (ht : tgtF fl st.blk = (t, bl, true)) (h1 : prepF fl (t, bl, true) = (0, f1)) (h2 : wrAll f1 t 1 (recs V) = (0, f2, p'))
    (h3 : wrL f2 t 0 (pagesR (hdr ((st.gen + 1) % 18446744073709551616))) = (0, f3)) : cmpF fl st V = (0, f3, ⟨V, t, (st.gen + 1) % 18446744073709551616, p', false⟩) := by
  unfold cmpF; rw [if_neg (by omega), ht, if_neg (by simp), h1, if_neg (by simp), h2, if_neg (by simp), h3, if_neg (by simp)]
end
/-- Which map the store holds afterwards. -/
def mapOf (e : Int) (m' m : Nat) : Nat := if e = 0 then m' else m
theorem SW.more {w : World} {D : Nat → Prop} {S X m n m' n' : Nat} {st : ST} (h : SW w D S X m n st) (hm' : m' < w.heap.size) : SW w (fun k => D k ∨ k = m') S X m (max n n') st :=
  { h with map := h.map.mono (Nat.le_max_left _ _), dS := .inl h.dS, dm := .inl h.dm, fin := fun k hk => by rcases hk with hk | rfl; exact h.fin k hk; exact hm' }
theorem cmp_end {w w' : World} {D DS : Nat → Prop} {S X m n m' n' : Nat} {st : ST} {y : FLay} {fl f : FL} {V : Vars} {e : Int} (he : e ≠ 0) (hc : cmpF fl st V = (e, f, st)) (hf : FW w' D X y f) (c : Ch D w w') (hs : SW w DS S X m n st) (hm : SM w m' n' V) (hdis : ∀ k, D k → ¬ DS k) :
    Ending.returned (.int .i64 e) = .returned (.int .i64 (cmpF fl st V).1) ∧ FW w' D X y (cmpF fl st V).2.1 ∧ Ch (fun k => D k ∨ DS k) w w' ∧
      SW w' (fun k => DS k ∨ k = m') S X (mapOf (cmpF fl st V).1 m' m) (max n n') (cmpF fl st V).2.2 := by
  rw [hc]
  refine ⟨rfl, hf, c.mono fun i h _ => .inl h, ?_⟩
  unfold mapOf
  rw [if_neg he]
  exact (hs.ch c fun k h1 h2 => hdis k h2 h1).more (Nat.lt_of_lt_of_le hm.lt c.size)
section
variable {w : World} {D DS : Nat → Prop} {S X m n m' n' : Nat} {st : ST} {y : FLay} {fl : FL} {V : Vars}
set_option maxRecDepth 100000 in
set_option maxHeartbeats 2000000 in
theorem compact_any (hs : SW w DS S X m n st) (h : FW w D X y fl) (ho : fl.off = false) (hdis : ∀ k, D k → ¬ DS k) (hm : SM w m' n' V) (hn' : n' ≤ 1000) (hV : Srt V) (hv : ∀ p ∈ V, p.1.length ≤ 24 ∧ p.2.length ≤ 128) (hmD : ¬ D m') (hmS : ¬ DS m') :
    Calls Tryz.prog 148 #[fptr S, .map (some m')] w fun e w' => e = .returned (.int .i64 (cmpF fl st V).1) ∧ FW w' D X y (cmpF fl st V).2.1 ∧ Ch (fun k => D k ∨ DS k) w w' ∧
      SW w' (fun k => DS k ∨ k = m') S X (mapOf (cmpF fl st V).1 m' m) (max n n') (cmpF fl st V).2.2 := by
  obtain ⟨i0, hi0, hx0, hx1, hx2⟩ := info_parts Tryz.infoS
  have HKY := Lib.hid (keys_any m' w)
  have HSO := Lib.hid (sorted_any hm hV hn')
  have H := Lib.hid h
  have HS := Lib.hid hs
  have HM := Lib.hid hm
  have HVV := Lib.hid hv
  have hP := h.hP
  have hB := h.hB
  have hVl : V.length ≤ 1000 := by have := hm.len hV; omega
  obtain ⟨L, hL⟩ : ∃ L, V.length = L := ⟨_, rfl⟩
  rw [hL] at HSO hVl
  have HLL := Lib.hid hL
  clear h hs hm hv hL
  go_enter Tryz.func148, Tryz.ntmps148
  go_wp2_with fail
  refine HKY.out.mono ?_
  rintro e w1 ⟨rfl, rfl⟩
  go_wp2_with fail
  refine HSO.out.mono ?_
  rintro e w2 ⟨a, cap, rfl, ha0, ha1, b2⟩
  have HA0 := Lib.hid ha0
  have HA1 := Lib.hid ha1
  have hmk : (Instr.makeSlice 37 (.int .i64 (L : Int)) (.int .i64 (L : Int))).run Tryz.prog w2 = .ok (.slice (some ⟨w2.heap.size, 0, none⟩) L L) (w2.alloc (.cells (madeCells (Value.string ⟨#[]⟩).cells L) 9)) := by
    have := run_make (P := Tryz.prog) w2 37 9 i0 (.string ⟨#[]⟩) Tryz.underlying37 hi0 hx0 .i64 .i64 (L : Int) (L : Int) (by omega) (by omega) (by rw [hx2]; omega) (by omega)
    rw [hx1] at this
    simpa using this
  have R3 := Rg.made w2 9 L (.string ⟨#[]⟩) rfl
  have B3 : Below w2.heap.size w2 (w2.alloc (.cells (madeCells (Value.string ⟨#[]⟩).cells L) 9)) := (Below.refl _ _).alloc (Nat.le_refl _) _
  obtain ⟨w3, hw3⟩ : ∃ w3, w2.alloc (.cells (madeCells (Value.string ⟨#[]⟩).cells L) 9) = w3 := ⟨_, rfl⟩
  obtain ⟨q, hq⟩ : ∃ q, w2.heap.size = q := ⟨_, rfl⟩
  rw [hw3] at hmk R3 B3
  rw [hq] at hmk R3
  have hqw : w.heap.size ≤ q := by rw [← hq]; exact b2.size
  have HR : Hid (Rg w3 q 9 L (fun j => if j < 0 then str ((recs V).getD j []) else str [])) := R3.congr fun j _ => by rw [if_neg (by omega)]
  have HB : Hid (Below w.heap.size w w3) := b2.trans (B3.mono b2.size)
  have HA3 : Hid (V ≠ [] → ∃ g, a = some ⟨g, 0, none⟩ ∧ PS w3 g 0 cap (V.map (·.1)) ∧ g ≠ q) := fun hne => by
    obtain ⟨g, e, hg, hps⟩ := ha1 hne
    exact ⟨g, e, hps.below B3, by have := hps.1; omega⟩
  clear ha0 ha1 b2 R3 B3 HKY HSO HA1 HA0 hw3 hq
  go_wp2_with fail
  have HC0 : Hid (1 + sumP ((recs V).take 0) = 1) := by show _ = _; simp [sumP]
  have HSW : Hid (SW w DS S X m n st) := HS
  go_loopw [7, 27] (fun x7 z wr => ∃ (i p : Nat), i ≤ L ∧ x7 = .int .i64 (p : Int) ∧ z = .int .i64 (i : Int) ∧ Hid (1 + sumP ((recs V).take i) = p ∧ p ≤ 1 + 5 * i) ∧ Hid (Rg wr q 9 L (fun j => if j < i then str ((recs V).getD j []) else str [])) ∧ Hid (Below w.heap.size w wr) ∧ Hid (V ≠ [] → ∃ g, a = some ⟨g, 0, none⟩ ∧ PS wr g 0 cap (V.map (·.1)) ∧ g ≠ q)) (fun _ z _ => L - (intOf z).toNat)
  case atStart => exact ⟨0, 1, by omega, rfl, rfl, ⟨HC0, by omega⟩, HR, HB, HA3⟩
  case round =>
    clear HC0 HR HB HA3
    obtain ⟨i, p, hi, rfl, rfl, HP, HR, HB, HA3⟩ := hrel
    by_cases hlt : i < L
    · have y0 : (i : Int) < L := by omega
      have hiV : i < V.length := by rw [HLL.out]; exact hlt
      have hne : V ≠ [] := by intro e; rw [e] at hiV; cases hiV
      obtain ⟨g, rfl, hps, hgq⟩ := HA3.out hne
      have hc := hps.2.2.2 i (by rw [List.length_map]; exact hiV)
      have hgd : (V.map (·.1)).getD i [] = (V[i]).1 := by rw [List.getD_eq_getElem?_getD, List.getElem?_map, List.getElem?_eq_getElem hiV]; rfl
      rw [Nat.zero_add, hgd] at hc
      obtain ⟨ke, hke⟩ : ∃ s : ByteArray, s = ⟨(V[i]).1.toArray⟩ := ⟨_, rfl⟩
      obtain ⟨ve, hve⟩ : ∃ s : ByteArray, s = ⟨(V[i]).2.toArray⟩ := ⟨_, rfl⟩
      have hkl : ke.data.toList = (V[i]).1 := by rw [hke]
      have hvl : ve.data.toList = (V[i]).2 := by rw [hve]
      have hlen := HVV.out V[i] (List.getElem_mem hiV)
      have hks : ke.size = (V[i]).1.length := by rw [hke]; show (V[i].1.toArray).size = _; simp
      have hvs : ve.size = (V[i]).2.length := by rw [hve]; show (V[i].2.toArray).size = _; simp
      rw [show str (V[i]).1 = .string ke by rw [hke]] at hc
      have hlk := (HM.out.ch (Ch.of_below HB.out (fun _ => False)) id).look1 (s := ke) (by rw [hks]; unfold maxLen; omega)
      rw [hkl, getV_mem hV (List.getElem_mem hiV)] at hlk
      rw [show str ((some (V[i]).2).getD []) = .string ve by rw [hve]; rfl] at hlk
      have HEN := Lib.hid (encode_any 1 ke ve wr (by omega) (by omega) (by omega))
      obtain ⟨re, hre⟩ : ∃ s : ByteArray, s = ⟨(recd 1 (V[i]).1 (V[i]).2).toArray⟩ := ⟨_, rfl⟩
      rw [hkl, hvl, ← hre] at HEN
      have hrl : re.data.toList = recd 1 (V[i]).1 (V[i]).2 := by rw [hre]
      have hrs : re.size = (recd 1 (V[i]).1 (V[i]).2).length := by rw [hre]; show ((recd 1 V[i].1 V[i].2).toArray).size = _; simp
      have hrsz : re.size ≤ 157 := by rw [hrs, recd_len]; omega
      have hil : i < (recs V).length := by unfold recs; rw [List.length_map]; exact hiV
      have hrg : (recs V)[i] = recd 1 (V[i]).1 (V[i]).2 := by simp [recs]
      have HG : Hid ((recs V).getD i [] = re.data.toList ∧ sumP ((recs V).take (i + 1)) = sumP ((recs V).take i) + pgs re.size) := ⟨by rw [hrl, ← hrg, List.getD_eq_getElem?_getD, List.getElem?_eq_getElem hil]; rfl, by rw [sumP_take hil, hrg, hrs]⟩
      have HPS := Lib.hid hps
      have HGQ := Lib.hid hgq
      clear hps hkl hvl hre hrl hrs hil hrg hke hve hgd hne hlen hks hvs
      go_wp2_with fail
      refine HEN.out.mono ?_
      rintro e w4 ⟨rfl, b4⟩
      have hb4 := HB.out.size
      have r4 := HR.out.ch (Ch.of_below b4 (fun _ => False)) id
      have f4 := r4.frozen i
      have z4 := r4.cell hlt
      rw [if_neg (Nat.lt_irrefl i)] at z4
      have r5 := r4.set hlt (.string re)
      have c5 : Ch (fun x => x = q) wr (w4.setCell ⟨q, i, none⟩ (.string re)) := (Ch.of_below b4 (fun x => x = q)).setCell (p := ⟨q, i, none⟩) (fun _ => rfl) _
      have z5 : (w4.setCell ⟨q, i, none⟩ (.string re)).cell? ⟨q, i, none⟩ = some (.string re) := by rw [r5.cell hlt]; simp [upd]
      have b5 : Below w.heap.size w (w4.setCell ⟨q, i, none⟩ (.string re)) := ((HB.out.trans (b4.mono hb4))).setCell hqw _
      have HR5 : Hid (Rg (w4.setCell ⟨q, i, none⟩ (.string re)) q 9 L (fun j => if j < i + 1 then str ((recs V).getD j []) else str [])) := r5.congr fun j hj => by
        unfold upd
        dsimp only
        rcases (by omega : j < i ∨ j = i ∨ i < j) with h1 | h1 | h1
        · rw [if_neg (by omega), if_pos h1, if_pos (by omega)]
        · rw [if_pos h1, if_pos (by omega), h1, HG.out.1]
        · rw [if_neg (by omega), if_neg (by omega), if_neg (by omega)]
      have HB5 := Lib.hid b5
      have HA5 : Hid (V ≠ [] → ∃ g', (some ⟨g, 0, none⟩ : Option Addr) = some ⟨g', 0, none⟩ ∧ PS (w4.setCell ⟨q, i, none⟩ (.string re)) g' 0 cap (V.map (·.1)) ∧ g' ≠ q) := fun _ => ⟨g, rfl, HPS.out.ch c5 HGQ.out, HGQ.out⟩
      obtain ⟨HP1, HP2⟩ := HP.out
      have hpgl : pgs re.size ≤ 5 := by unfold pgs; omega
      have HPO := Lib.hid (pagesOf_any re.size (w4.setCell ⟨q, i, none⟩ (.string re)) (by omega))
      obtain ⟨np, hnp⟩ : ∃ np, pgs re.size = np := ⟨_, rfl⟩
      rw [hnp] at HPO hpgl
      have HP5 : Hid (1 + sumP ((recs V).take (i + 1)) = p + np ∧ p + np ≤ 1 + 5 * (i + 1)) := ⟨by rw [HG.out.2, hnp]; omega, by omega⟩
      clear r4 r5 c5 b5 HR HB HA3 HPS HP hnp HG HP1
      go_wp2_with fail
      refine HPO.out.mono ?_
      rintro e w6 ⟨rfl, rfl⟩
      clear z4 z5 f4
      generalize w4.setCell ⟨q, i, none⟩ (.string re) = w6 at *
      go_wp2_with fail
      go_roundw
      case rel => exact ⟨i + 1, p + np, by omega, by go_num, by go_num, HP5, HR5, HB5, HA5⟩
      case measure => simp [intOf]; omega
    · have : i = L := by omega
      subst this
      clear hmk
      obtain ⟨hp1, hp2⟩ := HP.out
      have hrl : (recs V).length = i := by have := HLL.out; unfold recs; rw [List.length_map]; exact this
      rw [List.take_of_length_le (by omega)] at hp1
      have HRL := Lib.hid hrl
      have HSUM := Lib.hid hp1
      have HRQ : Hid (Rg wr q 9 i (fun j => str ((recs V).getD j []))) := HR.out.congr fun j hj => by rw [if_pos hj]
      have HBW : Hid (Ch D w wr) := Ch.of_below HB.out D
      have S1 := Lib.hid (HS.out.below HB.out)
      have F1 := Lib.hid (H.out.below HB.out)
      have c0 := S1.out.c0
      have HSH := Lib.hid (shape_any F1.out)
      clear HP HR hp1 hp2 hrl HA3 HB
      by_cases hfl : fl.P < p
      · have hflI : (fl.P : Int) < p := by omega
        have HE := Lib.hid (cmp1 (st := st) HSUM.out hfl)
        go_wp2_with fail
        refine HSH.out.mono ?_
        rintro e w2 ⟨rfl, b2⟩
        have hfp := field_P (.int .i64 fl.B) (.int .i64 fl.P) (.int .i64 fl.E) w2
        go_wp2_with fail
        go_ret
        exact cmp_end (by omega) HE.out (F1.out.below b2) (HBW.out.trans (Ch.of_below b2 D)) HS.out HM.out hdis
      · have hflI : ¬ (fl.P : Int) < p := by omega
        go_wp2_with fail
        refine HSH.out.mono ?_
        rintro e w2 ⟨rfl, b2⟩
        have hfp := field_P (.int .i64 fl.B) (.int .i64 fl.P) (.int .i64 fl.E) w2
        have HT := Lib.hid (target_any (S1.out.below b2) (F1.out.below b2) ho)
        have F2 := Lib.hid (F1.out.below b2)
        have S2 := Lib.hid (S1.out.below b2)
        have C2 : Hid (Ch D w w2) := HBW.out.trans (Ch.of_below b2 D)
        have R2 : Hid (Rg w2 q 9 i (fun j => str ((recs V).getD j []))) := HRQ.out.ch (Ch.of_below b2 (fun _ => False)) id
        obtain ⟨t, bl, fd, htg⟩ : ∃ t bl fd, tgtF fl st.blk = (t, bl, fd) := ⟨_, _, _, rfl⟩
        rw [htg] at HT
        have HTG := Lib.hid htg
        have htB : t < fl.B := by
          have := tgtK_lt fl st.blk fl.B
          rw [show tgtK fl st.blk fl.B = (t, bl, fd) from htg] at this
          simp only at this
          omega
        clear F1 S1 HBW HRQ b2 htg HSH
        go_wp2_with fail
        refine HT.out.mono ?_
        rintro e w3 ⟨rfl, b3⟩
        have F3 := Lib.hid (F2.out.below b3)
        have S3 := Lib.hid (S2.out.below b3)
        have C3 : Hid (Ch D w w3) := C2.out.trans (Ch.of_below b3 D)
        have R3 : Hid (Rg w3 q 9 i (fun j => str ((recs V).getD j []))) := R2.out.ch (Ch.of_below b3 (fun _ => False)) id
        clear F2 S2 C2 R2 b3 HT hfp
        cases fd
        · have HE := Lib.hid (cmp2 (st := st) HSUM.out hfl HTG.out)
          go_wp2_with fail
          go_ret
          exact cmp_end (by omega) HE.out F3.out C3.out HS.out HM.out hdis
        · have c3 := S3.out.c0
          go_upto_if 66 with fail
          go_cut [13] (fun x13 wx => ∃ f1, Hid (prepF fl (t, bl, true) = (0, f1) ∧ FW wx D X y f1 ∧ Ch D w wx ∧ Rg wx q 9 i (fun j => str ((recs V).getD j [])) ∧ f1.B = fl.B ∧ f1.P = fl.P))
          case first =>
            cases bl
            · have HER := Lib.hid (erase_any F3.out htB)
              obtain ⟨e, f1, hef⟩ : ∃ e f1, eraseF fl t = (e, f1) := ⟨_, _, rfl⟩
              have hsame := eraseF_same fl t
              rw [hef] at HER hsame
              have HSM := Lib.hid hsame
              have HPR : Hid (prepF fl (t, false, true) = (e, f1)) := by show _ = _; unfold prepF; rw [if_neg (by simp)]; exact hef
              clear hef hsame
              by_cases he : e = 0
              · subst he
                go_wp2_with fail
                refine HER.out.mono ?_
                rintro e w4 ⟨rfl, h4, c4⟩
                go_wp2_with fail
                go_meet
                exact ⟨f1, HPR.out, h4, C3.out.trans c4, R3.out.ch c4 (fun hq => by have := H.out.fin q hq; omega), HSM.out.1, HSM.out.2⟩
              · have hed : (e == 0) = false := by simpa using he
                have HE := Lib.hid (cmp3 (st := st) HSUM.out hfl HTG.out HPR.out he)
                go_wp2_with fail
                refine HER.out.mono ?_
                rintro e w4 ⟨rfl, h4, c4⟩
                go_wp2_with fail
                go_ret
                exact cmp_end he HE.out h4 (C3.out.trans c4) HS.out HM.out hdis
            · go_wp2_with fail
              go_meet
              exact ⟨fl, rfl, F3.out, C3.out, R3.out, rfl, rfl⟩
          case rest =>
            obtain ⟨f1, hc⟩ := hcut
            obtain ⟨hpr, h4, c4, r4, hB1, hP1⟩ := hc.out
            have HPR := Lib.hid hpr
            have HW0 : Hid (∃ f, FW wc D X y f ∧ f.B = fl.B ∧ f.P = fl.P ∧ wrAll f1 t 1 (recs V) = wrAll f t 1 ((recs V).drop 0)) := ⟨f1, h4, hB1, hP1, rfl⟩
            have HP0 : Hid (1 = 1 + sumP ((recs V).take 0)) := by show _ = _; simp [sumP]
            have HC4 := Lib.hid c4
            have HR4 := Lib.hid r4
            clear hc hpr h4 c4 r4 hB1 hP1 F3 S3 C3 R3 c3 c0
            go_wp2_with fail
            go_loopw [14, 78] (fun x14 z wr => ∃ (j p2 : Nat), j ≤ i ∧ x14 = .int .i64 (p2 : Int) ∧ z = .int .i64 (j : Int) ∧ Hid (p2 = 1 + sumP ((recs V).take j)) ∧ Hid (∃ f, FW wr D X y f ∧ f.B = fl.B ∧ f.P = fl.P ∧ wrAll f1 t 1 (recs V) = wrAll f t p2 ((recs V).drop j)) ∧ Hid (Ch D w wr) ∧ Hid (Rg wr q 9 i (fun j => str ((recs V).getD j [])))) (fun _ z _ => i - (intOf z).toNat)
            case atStart => exact ⟨0, 1, by omega, rfl, rfl, HP0, HW0, HC4, HR4⟩
            case round =>
              clear HP0 HW0 HC4 HR4
              obtain ⟨j, p2, hj, rfl, rfl, HP2, HF, HC, HR⟩ := hrel
              by_cases hlt2 : j < i
              · have y0 : (j : Int) < i := by omega
                have hjl : j < (recs V).length := by rw [HRL.out]; exact hlt2
                have hgd : (recs V).getD j [] = (recs V)[j] := by rw [List.getD_eq_getElem?_getD, List.getElem?_eq_getElem hjl]; rfl
                have hz := HR.out.cell hlt2
                obtain ⟨re, hre⟩ : ∃ s : ByteArray, s = ⟨((recs V).getD j []).toArray⟩ := ⟨_, rfl⟩
                rw [show str ((recs V).getD j []) = .string re by rw [hre]] at hz
                have hrl : re.data.toList = (recs V)[j] := by rw [hre, ← hgd]
                have hrs : re.size = ((recs V)[j]).length := by rw [← hrl]; exact bsz _
                have hrz : re.size ≤ 157 := by
                  obtain ⟨x, hx, hx2⟩ := List.mem_map.1 (List.getElem_mem hjl)
                  have := HVV.out x hx
                  rw [hrs, ← hx2, recd_len]
                  omega
                have hst := sumP_take hjl
                rw [← hrs] at hst
                have hsl := sumP_le (recs V) (j + 1)
                obtain ⟨f, hf, fB, fP, hwr⟩ := HF.out
                have hdr : (recs V).drop j = (recs V)[j] :: (recs V).drop (j + 1) := List.drop_eq_getElem_cons hjl
                have hs0 := (HS.out.ch HC.out fun k h1 h2 => hdis k h2 h1).c0
                have HWR := Lib.hid (write_any hf (b := t) (p := p2) (d := re) (by rw [fB]; exact htB) (by omega) (by rw [fP]; have := HP2.out; have := HSUM.out; omega))
                obtain ⟨e, f', hef⟩ : ∃ e f', wrL f t p2 (pagesR re.data.toList) = (e, f') := ⟨_, _, rfl⟩
                have hsame := wrL_same (pagesR re.data.toList) f t p2
                rw [hef] at HWR hsame
                rw [hdr, wrAll, ← hrl, hef] at hwr
                by_cases he : e = 0
                · subst he
                  rw [if_pos rfl] at hwr
                  have HPO := Lib.hid (fun X => pagesOf_any re.size X (by omega))
                  have hpgl : pgs re.size ≤ 5 := by unfold pgs; omega
                  obtain ⟨np, hnp⟩ : ∃ np, pgs re.size = np := ⟨_, rfl⟩
                  rw [← bsz] at hwr
                  rw [hnp] at HPO hst hpgl hwr
                  have HWN := Lib.hid hwr
                  have HP3 : Hid (p2 + np = 1 + sumP ((recs V).take (j + 1))) := by have := HP2.out; show _ = _; omega
                  have HSM : Hid (f'.B = fl.B ∧ f'.P = fl.P) := ⟨hsame.1.trans fB, hsame.2.trans fP⟩
                  have hp2l : p2 + np ≤ 33 := by have := HP3.out; have := HSUM.out; omega
                  clear hjl hgd hre hrl hrs hst hsl hf fB fP hwr hdr hef hsame hnp HF
                  go_wp2_with fail
                  refine HWR.out.mono ?_
                  rintro e w5 ⟨rfl, h5, c5⟩
                  have HF5 := Lib.hid h5
                  have HC5 : Hid (Ch D w w5) := HC.out.trans c5
                  have HR5 : Hid (Rg w5 q 9 i (fun j => str ((recs V).getD j []))) := HR.out.ch c5 (fun hq => by have := H.out.fin q hq; omega)
                  clear h5 c5 HC HR hz hs0
                  go_wp2_with fail
                  refine (HPO.out w5).mono ?_
                  rintro e w6 ⟨rfl, rfl⟩
                  go_wp2_with fail
                  go_roundw
                  case rel => exact ⟨j + 1, p2 + np, by omega, by go_num, by go_num, HP3, ⟨f', HF5.out, HSM.out.1, HSM.out.2, HWN.out⟩, HC5, HR5⟩
                  case measure => simp [intOf]; omega
                · rw [if_neg he] at hwr
                  have hed : (e == 0) = false := by simpa using he
                  have HE := Lib.hid (cmp4 (st := st) HSUM.out hfl HTG.out HPR.out hwr he)
                  clear hjl hgd hre hrl hrs hst hsl hf fB fP hwr hdr hef hsame HF
                  go_wp2_with fail
                  refine HWR.out.mono ?_
                  rintro e w5 ⟨rfl, h5, c5⟩
                  go_wp2_with fail
                  go_ret
                  exact cmp_end he HE.out h5 (HC.out.trans c5) HS.out HM.out hdis
              · have : j = i := by omega
                obtain ⟨f, hf, fB, fP, hwr⟩ := HF.out
                rw [this, List.drop_of_length_le (by rw [HRL.out]; omega), wrAll] at hwr
                have HWA := Lib.hid hwr
                clear HF hwr
                obtain ⟨g2, hg2⟩ : ∃ g2, (st.gen + 1) % 18446744073709551616 = g2 := ⟨_, rfl⟩
                have hgl := (HS.out).hg
                have hsw := HS.out.ch HC.out fun k h1 h2 => hdis k h2 h1
                have S28 : Hid (wr.drew.cell? ⟨S, 0, none⟩ = some (fptr X) ∧ wr.drew.cell? ⟨S, 3, none⟩ = some (.int .u64 st.gen)) := ⟨hsw.c0, hsw.c3⟩
                have HC2 : Hid (Ch D w wr.drew) := HC.out.drew
                have HF2 := Lib.hid hf.drew
                obtain ⟨hd, hhd⟩ : ∃ s : ByteArray, s = ⟨(hdr g2).toArray⟩ := ⟨_, rfl⟩
                have hdl : hd.data.toList = hdr g2 := by rw [hhd]
                have hdz : hd.size = 13 := by rw [bsz, hdl]; unfold hdr; rw [recd_len]; simp [be8]
                have HHD := Lib.hid (header_any g2 wr.drew)
                rw [show str (hdr g2) = .string hd by rw [hhd]] at HHD
                obtain ⟨e3, f3, he3⟩ : ∃ e f', wrL f t 0 (pagesR (hdr g2)) = (e, f') := ⟨_, _, rfl⟩
                have HWR : Hid (∀ V1, FW V1 D X y f → Calls Tryz.prog 90 #[fptr X, .int .i64 t, .int .i64 0, .string hd] V1 fun e w' => e = .returned (.int .i64 e3) ∧ FW w' D X y f3 ∧ Ch D V1 w') := fun V1 hV1 => by
                  have := write_any hV1 (b := t) (p := 0) (d := hd) (by rw [fB]; exact htB) (by omega) (by rw [fP, hdz]; unfold pgs; omega)
                  rw [hdl, he3] at this
                  exact this
                have HE3 := Lib.hid he3
                have hDS : ¬ D S := fun h => hdis _ h HS.out.dS
                have hgI : IntKind.u64.wrap ((st.gen : Int) + 1) = (g2 : Int) := by rw [IntKind.wrap_u64]; omega
                have HG2 := Lib.hid hg2
                clear hsw hf HC hhd hdl he3 hg2
                obtain ⟨gen, hgen⟩ : ∃ gen, st.gen = gen := ⟨_, rfl⟩
                rw [hgen] at S28 hgI hgl HG2
                have HGEN := Lib.hid hgen
                clear hgen
                go_wp2_with fail
                refine wp_region_pl (fun Y => Y.cell? ⟨S, 0, none⟩ = some (fptr X) ∧ Y.cell? ⟨S, 3, none⟩ = some (.int .u64 gen)) ((0, 0) :: (1, 0) :: (2, 0) :: (3, 0) :: (4, 0) :: (5, 0) :: (6, 0) :: (7, 0) :: (8, 0) :: (9, 0) :: (10, 1) :: (11, 1) :: (12, 0) :: []) (by kernel_rfl) (by kernel_rfl) ?_
                iterate 10 (apply wpP_go; (focus rfl); (focus rfl); (focus exact S28.out); (focus (rintro Z ⟨s0, s1⟩; go_simp; exact rfl)); intro K hK; go_simp; refine hK _ ?_; clear hK K)
                apply wpP_one
                focus rfl
                intro K hK
                go_simp
                refine HHD.out.mono ?_
                rintro e V1 ⟨rfl, b1⟩
                have HF3 := Lib.hid (HF2.out.below b1)
                have HC3 : Hid (Ch D w V1) := HC2.out.trans (Ch.of_below b1 D)
                have S29 : Hid (V1.cell? ⟨S, 0, none⟩ = some (fptr X) ∧ V1.cell? ⟨S, 3, none⟩ = some (.int .u64 gen)) := ⟨cell_later b1 S28.out.1, cell_later b1 S28.out.2⟩
                refine hK _ _ S29.out ?_
                clear hK K b1 S28 HF2 HC2 HHD
                apply wpP_one
                focus rfl
                intro K hK
                go_simp
                refine (HWR.out V1 HF3.out).mono ?_
                rintro e V2 ⟨rfl, h5, c5⟩
                have HF4 := Lib.hid h5
                have HC4 : Hid (Ch D w V2) := HC3.out.trans c5
                have S30 : Hid (V2.cell? ⟨S, 0, none⟩ = some (fptr X) ∧ V2.cell? ⟨S, 3, none⟩ = some (.int .u64 gen)) := ⟨(c5.cell ⟨S, 0, none⟩ (Nat.lt_of_lt_of_le (HS.out.fin _ HS.out.dS) HC3.out.size) hDS).trans S29.out.1, (c5.cell ⟨S, 3, none⟩ (Nat.lt_of_lt_of_le (HS.out.fin _ HS.out.dS) HC3.out.size) hDS).trans S29.out.2⟩
                refine hK _ _ S30.out ?_
                clear hK K c5 h5 S29 HC3 HF3 HWR
                iterate 1 (apply wpP_go; (focus rfl); (focus rfl); (focus exact S30.out); (focus (rintro Z ⟨s0, s1⟩; go_simp; exact rfl)); intro K hK; go_simp; refine hK _ ?_; clear hK K)
                refine wpP_done ?_
                by_cases he : e3 = 0
                · subst he
                  have HE := Lib.hid (cmp6 (st := st) HSUM.out hfl HTG.out HPR.out HWA.out (by rw [HGEN.out, HG2.out]; exact HE3.out))
                  have r0 := (HS.out.ch HC4.out fun k h1 h2 => hdis k h2 h1).top
                  have q1 := r0.cell (i := 1) (by omega)
                  have f1' := r0.frozen 1
                  have r1 := r0.set (i := 1) (by omega) (.map (some m'))
                  have q2 := r1.cell (i := 2) (by omega)
                  have f2' := r1.frozen 2
                  have r2 := r1.set (i := 2) (by omega) (.int .i64 t)
                  have q3 := r2.cell (i := 4) (by omega)
                  have f3' := r2.frozen 4
                  have r3 := r2.set (i := 4) (by omega) (.int .i64 p2)
                  have q4 := r3.cell (i := 5) (by omega)
                  have f4' := r3.frozen 5
                  have r4 := r3.set (i := 5) (by omega) (.bool false)
                  have q5 := r4.cell (i := 3) (by omega)
                  have f5' := r4.frozen 3
                  have r5 := r4.set (i := 3) (by omega) (.int .u64 g2)
                  have q5' : (((((V2.setCell ⟨S, 1, none⟩ (.map (some m'))).setCell ⟨S, 2, none⟩ (.int .i64 t)).setCell ⟨S, 4, none⟩ (.int .i64 p2)).setCell ⟨S, 5, none⟩ (.bool false))).cell? ⟨S, 3, none⟩ = some (.int .u64 gen) := by
                    rw [q5]; simp [upd, stc, HGEN.out]
                  clear q5
                  have HR5 := Lib.hid (r5.congr (v' := stc ⟨V, t, g2, p2, false⟩ X m') fun j hj => by
                    rcases (by omega : j = 0 ∨ j = 1 ∨ j = 2 ∨ j = 3 ∨ j = 4 ∨ j = 5) with e | e | e | e | e | e <;> subst e <;> simp [upd, stc])
                  have hCh : Ch (fun x => x = S) V2 (((((V2.setCell ⟨S, 1, none⟩ (.map (some m'))).setCell ⟨S, 2, none⟩ (.int .i64 t)).setCell ⟨S, 4, none⟩ (.int .i64 p2)).setCell ⟨S, 5, none⟩ (.bool false)).setCell ⟨S, 3, none⟩ (.int .u64 g2)) :=
                    (((((Ch.refl (fun x => x = S) V2).setCell (p := ⟨S, 1, none⟩) (fun _ => rfl) _).setCell (p := ⟨S, 2, none⟩) (fun _ => rfl) _).setCell (p := ⟨S, 4, none⟩) (fun _ => rfl) _).setCell (p := ⟨S, 5, none⟩) (fun _ => rfl) _).setCell (p := ⟨S, 3, none⟩) (fun _ => rfl) _
                  have HCH := Lib.hid hCh
                  clear r0 r1 r2 r3 r4 r5 hCh S30
                  go_wp2_with fail
                  go_ret
                  rw [HE.out, HGEN.out, HG2.out]
                  refine ⟨rfl, HF4.out.ch HCH.out (fun k hk e => hDS (e ▸ hk)), (HC4.out.mono fun _ h _ => .inl h).andThen HCH.out (fun k e _ => by rw [e]; exact .inr HS.out.dS), ?_⟩
                  have hmS' : m' ≠ S := fun e => hmS (e ▸ HS.out.dS)
                  have hszz : w.heap.size ≤ _ := Nat.le_trans HC4.out.size HCH.out.size
                  exact ⟨HR5.out, ((HM.out.ch HC4.out hmD).ch HCH.out hmS').mono (Nat.le_max_right _ _), .inl HS.out.dS, .inr rfl, fun k hk => Nat.lt_of_lt_of_le (by rcases hk with hk | rfl; exact HS.out.fin k hk; exact HM.out.lt) hszz, hV, HVV.out, by have := HG2.out; show g2 ≤ _; omega, by have := HP2.out; have := sumP_le (recs V) j; have := HSUM.out; show p2 ≤ 1000; omega, by show t ≤ 1000; omega⟩
                · have hed : (e3 == 0) = false := by simpa using he
                  have HE := Lib.hid (cmp5 (st := st) HSUM.out hfl HTG.out HPR.out HWA.out (by rw [HGEN.out, HG2.out]; exact HE3.out) he)
                  clear S30
                  go_wp2_with fail
                  go_ret
                  exact cmp_end he HE.out HF4.out HC4.out HS.out HM.out hdis
end
end Go.Proofs.YtdinbpdpalgohaaGreatDoor
