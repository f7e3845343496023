/- timeout and apply. Condition: few locks and threads. -/
import Derived.Test.YtefgfmnnaglfmaaN10
namespace Go.Proofs.Ytefgfmnnaglfmaa
open Go.RowKit
def tmo (tm : Int) : Int := if tm % 7 = 6 then tm else tm % 9
theorem tmo_in {tm : Int} (h : 0 ≤ tm ∧ tm ≤ 18446744073709551615) : 0 ≤ tmo tm ∧ tmo tm ≤ 18446744073709551615 := by unfold tmo; split <;> omega
set_option maxRecDepth 100000 in
theorem tmo_any (tm : Int) (w : World) (h : 0 ≤ tm ∧ tm ≤ 18446744073709551615) : Calls Try.prog 44 #[.int .u64 tm] w fun e w' => e = .returned (.int .u64 (tmo tm)) ∧ w = w' := by
  by_cases h7 : tm % 7 = 6
  · have HE : Hid (tmo tm = tm) := if_pos h7
    have hb : (tm % 7 == 6) = true := by simpa using h7
    go_enter Try.func44, Try.ntmps44
    go_wp2_with fail
    go_ret
    rw [HE.out]
    exact ⟨rfl, rfl⟩
  · have HE : Hid (tmo tm = tm % 9) := if_neg h7
    have hb : (tm % 7 == 6) = false := by simpa using h7
    go_enter Try.func44, Try.ntmps44
    go_wp2_with fail
    go_ret
    rw [HE.out]
    exact ⟨rfl, rfl⟩
section
variable {w w' : World} {Kp : Nat → Prop} {L X n : Nat} {s : LK}
set_option maxRecDepth 100000 in
set_option maxHeartbeats 16000000 in
theorem apply_any {k tt id lv tm ps now : Int} (h : TW w Kp L X n n s s) (hI0 : SI s) (hn : n ≤ 900) (hnow : 0 ≤ now ∧ now ≤ 18446744073709551615) (htm : 0 ≤ tm ∧ tm ≤ 18446744073709551615) :
    Calls Try.prog 25 #[.agg #[ptr L, ptr X], .agg #[.int .i64 k, .int .i64 tt, .int .i64 id, .int .i64 lv, .int .u64 tm, .int .u64 ps], .int .u64 now] w fun e w' => e = .returned (.bool true) ∧ ∃ s', SI s' ∧ TW w' Kp L X (n + 8) (n + 8) s' s' ∧ CT Kp w w' := by
  have hI := Lib.hid hI0
  have ba : Below w.heap.size w ((w.alloc (.cells #[ptr L, ptr X] 49)).alloc (.cells #[.int .i64 k, .int .i64 tt, .int .i64 id, .int .i64 lv, .int .u64 tm, .int .u64 ps] 37)) := ((Below.refl _ _).alloc (Nat.le_refl _) _).alloc (by simp) _
  have hsz : ((w.alloc (.cells #[ptr L, ptr X] 49)).alloc (.cells #[.int .i64 k, .int .i64 tt, .int .i64 id, .int .i64 lv, .int .u64 tm, .int .u64 ps] 37)).heap.size = w.heap.size + 2 := by simp
  have HT0 := Lib.hid (h.adopt ba (G := fun j => j = w.heap.size ∨ j = w.heap.size + 1) (fun j hj => by rw [hsz]; omega))
  have HC0 : Hid (CT Kp w ((w.alloc (.cells #[ptr L, ptr X] 49)).alloc (.cells #[.int .i64 k, .int .i64 tt, .int .i64 id, .int .i64 lv, .int .u64 tm, .int .u64 ps] 37))) := Ch.of_below ba _
  have hr1 : Row ((w.alloc (.cells #[ptr L, ptr X] 49)).alloc (.cells #[.int .i64 k, .int .i64 tt, .int .i64 id, .int .i64 lv, .int .u64 tm, .int .u64 ps] 37)) w.heap.size 49 2 (fun j => if j = 0 then ptr L else ptr X) := (Row.ofList w 49 #[ptr L, ptr X] (fun j => if j = 0 then ptr L else ptr X) 2 rfl).alloc _
  have hr2 : Row ((w.alloc (.cells #[ptr L, ptr X] 49)).alloc (.cells #[.int .i64 k, .int .i64 tt, .int .i64 id, .int .i64 lv, .int .u64 tm, .int .u64 ps] 37)) (w.heap.size + 1) 37 6 (fun j => if j = 0 then .int .i64 k else if j = 1 then .int .i64 tt else if j = 2 then .int .i64 id else if j = 3 then .int .i64 lv else if j = 4 then .int .u64 tm else .int .u64 ps) := by
    have := Row.ofList (w.alloc (.cells #[ptr L, ptr X] 49)) 37 #[.int .i64 k, .int .i64 tt, .int .i64 id, .int .i64 lv, .int .u64 tm, .int .u64 ps] (fun j => if j = 0 then .int .i64 k else if j = 1 then .int .i64 tt else if j = 2 then .int .i64 id else if j = 3 then .int .i64 lv else if j = 4 then .int .u64 tm else .int .u64 ps) 6 rfl
    simpa using this
  go_enter Try.func25, Try.ntmps25
  go_upto_region 1 with fail
  obtain ⟨H, hH⟩ : ∃ H, w.heap.size = H := ⟨_, rfl⟩
  simp only [hH]
  rw [hH] at HT0 hr1 hr2
  have S1 : Hid (((w.alloc (.cells #[ptr L, ptr X] 49)).alloc (.cells #[.int .i64 k, .int .i64 tt, .int .i64 id, .int .i64 lv, .int .u64 tm, .int .u64 ps] 37)).drew.cell? ⟨H, 0, none⟩ = some (ptr L) ∧ ((w.alloc (.cells #[ptr L, ptr X] 49)).alloc (.cells #[.int .i64 k, .int .i64 tt, .int .i64 id, .int .i64 lv, .int .u64 tm, .int .u64 ps] 37)).drew.cell? ⟨H, 1, none⟩ = some (ptr X) ∧ ((w.alloc (.cells #[ptr L, ptr X] 49)).alloc (.cells #[.int .i64 k, .int .i64 tt, .int .i64 id, .int .i64 lv, .int .u64 tm, .int .u64 ps] 37)).drew.cell? ⟨H + 1, 3, none⟩ = some (.int .i64 lv) ∧ ((w.alloc (.cells #[ptr L, ptr X] 49)).alloc (.cells #[.int .i64 k, .int .i64 tt, .int .i64 id, .int .i64 lv, .int .u64 tm, .int .u64 ps] 37)).drew.cell? ⟨H + 1, 4, none⟩ = some (.int .u64 tm)) := ⟨hr1.cell (i := 0) (by omega), hr1.cell (i := 1) (by omega), hr2.cell (i := 3) (by omega), hr2.cell (i := 4) (by omega)⟩
  have S2 : Hid (((w.alloc (.cells #[ptr L, ptr X] 49)).alloc (.cells #[.int .i64 k, .int .i64 tt, .int .i64 id, .int .i64 lv, .int .u64 tm, .int .u64 ps] 37)).drew.cell? ⟨H + 1, 1, none⟩ = some (.int .i64 tt) ∧ ((w.alloc (.cells #[ptr L, ptr X] 49)).alloc (.cells #[.int .i64 k, .int .i64 tt, .int .i64 id, .int .i64 lv, .int .u64 tm, .int .u64 ps] 37)).drew.cell? ⟨H + 1, 2, none⟩ = some (.int .i64 id) ∧ ((w.alloc (.cells #[ptr L, ptr X] 49)).alloc (.cells #[.int .i64 k, .int .i64 tt, .int .i64 id, .int .i64 lv, .int .u64 tm, .int .u64 ps] 37)).drew.cell? ⟨H + 1, 0, none⟩ = some (.int .i64 k)) := ⟨hr2.cell (i := 1) (by omega), hr2.cell (i := 2) (by omega), hr2.cell (i := 0) (by omega)⟩
  have HT : Hid (TW ((w.alloc (.cells #[ptr L, ptr X] 49)).alloc (.cells #[.int .i64 k, .int .i64 tt, .int .i64 id, .int .i64 lv, .int .u64 tm, .int .u64 ps] 37)).drew (fun j => Kp j ∨ (j = H ∨ j = H + 1)) L X n n s s) := HT0.out.below ((Below.refl _ _).drew)
  have HC : Hid (CT Kp w ((w.alloc (.cells #[ptr L, ptr X] 49)).alloc (.cells #[.int .i64 k, .int .i64 tt, .int .i64 id, .int .i64 lv, .int .u64 tm, .int .u64 ps] 37)).drew) := HC0.out.drew
  clear hr1 hr2 hsz ba HT0 HC0 hH h hI0
  refine wp_region_pl (fun Y => Y.cell? ⟨H + 1, 1, none⟩ = some (.int .i64 tt) ∧ Y.cell? ⟨H + 1, 2, none⟩ = some (.int .i64 id) ∧ Y.cell? ⟨H + 1, 0, none⟩ = some (.int .i64 k)) ((0, 0) :: (1, 0) :: (2, 0) :: (3, 0) :: (4, 0) :: (5, 0) :: (6, 0) :: (7, 0) :: []) (by kernel_rfl) (by kernel_rfl) ?_
  generalize ((w.alloc (.cells #[ptr L, ptr X] 49)).alloc (.cells #[.int .i64 k, .int .i64 tt, .int .i64 id, .int .i64 lv, .int .u64 tm, .int .u64 ps] 37)).drew = w3 at *
  iterate 2 (apply wpP_go; (focus rfl); (focus rfl); (focus exact S2.out); (focus (rintro Q ⟨s0, s1, s2⟩; go_simp; exact rfl)); intro K hK; go_simp; refine hK _ ?_; clear hK K)
  apply wpP_call
  focus rfl
  focus rfl
  focus exact S2.out
  focus (rintro Q ⟨s0, s1, s2⟩; go_simp; exact ⟨rfl, rfl⟩)
  focus (rintro Q _; exact mod_any tt 4 Q (by omega) (by omega))
  intro K hK
  go_simp
  refine hK _ ?_
  clear hK K
  iterate 2 (apply wpP_go; (focus rfl); (focus rfl); (focus exact S2.out); (focus (rintro Q ⟨s0, s1, s2⟩; go_simp; exact rfl)); intro K hK; go_simp; refine hK _ ?_; clear hK K)
  apply wpP_call
  focus rfl
  focus rfl
  focus exact S2.out
  focus (rintro Q ⟨s0, s1, s2⟩; go_simp; exact ⟨rfl, rfl⟩)
  focus (rintro Q _; exact mod_any id 6 Q (by omega) (by omega))
  intro K hK
  go_simp
  refine hK _ ?_
  clear hK K
  iterate 2 (apply wpP_go; (focus rfl); (focus rfl); (focus exact S2.out); (focus (rintro Q ⟨s0, s1, s2⟩; go_simp; exact rfl)); intro K hK; go_simp; refine hK _ ?_; clear hK K)
  refine wpP_done ?_
  have ht4 := mo_lt tt 4 (by omega)
  have hi6 := mo_lt id 6 (by omega)
  obtain ⟨t, het⟩ : ∃ t : Int, ((mo tt 4 : Nat) : Int) = t := ⟨_, rfl⟩
  obtain ⟨i, hei⟩ : ∃ t : Int, ((mo id 6 : Nat) : Int) = t := ⟨_, rfl⟩
  have ht : OR4 t := ⟨by omega, by omega⟩
  have hid : OR6 i := ⟨by omega, by omega⟩
  rw [het, hei]
  have k0 := S2.out.2.2
  have SB := S1
  clear het hei ht4 hi6 S2 S1
  go_wp2_with fail
  refine (mod_any k 16 _ (by omega) (by omega)).mono ?_
  rintro e w4 ⟨rfl, rfl⟩
  have hk16 := mo_lt k 16 (by omega)
  obtain ⟨kk, hkk⟩ : ∃ z, mo k 16 = z := ⟨_, rfl⟩
  rw [hkk] at hk16 ⊢
  clear hkk k0
  rcases (by omega : kk = 0 ∨ kk = 1 ∨ kk = 2 ∨ kk = 3 ∨ kk = 4 ∨ kk = 5 ∨ kk = 6 ∨ kk = 7 ∨ kk = 8 ∨ kk = 9 ∨ kk = 10 ∨ kk = 11 ∨ kk = 12 ∨ kk = 13 ∨ kk = 14 ∨ kk = 15) with rfl | rfl | rfl | rfl | rfl | rfl | rfl | rfl | rfl | rfl | rfl | rfl | rfl | rfl | rfl | rfl
  · have hl18 := mo_lt lv 18 (by omega)
    have HMD := Lib.hid (fun Q => mod_any lv 18 Q (by omega) (by omega))
    obtain ⟨m18, hm18⟩ : ∃ z, mo lv 18 = z := ⟨_, rfl⟩
    rw [hm18] at HMD hl18
    have hlw : IntKind.i64.wrap ((m18 : Int) - 1) = (m18 : Int) - 1 := IntWalk.i64_in _ ⟨by omega, by omega⟩
    clear hm18
    have HB := Lib.hid (two_addM (Kp := fun j => Kp j ∨ (j = H ∨ j = H + 1)) (L := L) (X := X) (n := n) (lv := (m18 : Int) - 1) hI.out hid hn)
    obtain ⟨s9, hs9⟩ : ∃ z, (addM s i ((m18 : Int) - 1)).2 = z := ⟨_, rfl⟩
    obtain ⟨v9, hv9⟩ : ∃ z, (addM s i ((m18 : Int) - 1)).1 = z := ⟨_, rfl⟩
    rw [hs9, hv9] at HB
    clear hs9 hv9
    have SX : Hid (w3.drew.cell? ⟨H, 0, none⟩ = some (ptr L) ∧ w3.drew.cell? ⟨H, 1, none⟩ = some (ptr X) ∧ w3.drew.cell? ⟨H + 1, 3, none⟩ = some (.int .i64 lv) ∧ w3.drew.cell? ⟨H + 1, 4, none⟩ = some (.int .u64 tm)) := SB.out
    have HT1 : Hid (TW w3.drew (fun j => Kp j ∨ (j = H ∨ j = H + 1)) L X n n s s) := HT.out.below ((Below.refl _ _).drew)
    have HC1 : Hid (CT Kp w w3.drew) := HC.out.drew
    have hless : ∀ j, Kp j → (Kp j ∨ (j = H ∨ j = H + 1)) := fun j h => .inl h
    go_wp2_with fail
    refine wp_region_pl (fun Y => Y.cell? ⟨H, 0, none⟩ = some (ptr L) ∧ Y.cell? ⟨H, 1, none⟩ = some (ptr X) ∧ Y.cell? ⟨H + 1, 3, none⟩ = some (.int .i64 lv) ∧ Y.cell? ⟨H + 1, 4, none⟩ = some (.int .u64 tm)) ((0, 0) :: (1, 0) :: (2, 0) :: (3, 0) :: (4, 0) :: (5, 0) :: (6, 0) :: (8, 0) :: (9, 0) :: (10, 0) :: (11, 0) :: (12, 0) :: (7, 1) :: (13, 0) :: (14, 0) :: (15, 1) :: (16, 0) :: (17, 0) :: []) (by kernel_rfl) (by kernel_rfl) ?_
    iterate 5 (apply wpP_go; (focus rfl); (focus rfl); (focus exact SX.out); (focus (rintro Q ⟨s0, s1, s2, s3⟩; go_simp; exact rfl)); intro K hK; go_simp; refine hK _ ?_; clear hK K)
    apply wpP_call
    focus rfl
    focus rfl
    focus exact SX.out
    focus (rintro Q ⟨s0, s1, s2, s3⟩; go_simp; exact ⟨rfl, rfl⟩)
    focus (rintro Q _; exact HMD.out Q)
    intro K hK
    go_simp
    refine hK _ ?_
    clear hK K
    iterate 1 (apply wpP_go; (focus rfl); (focus rfl); (focus exact SX.out); (focus (rintro Q ⟨s0, s1, s2, s3⟩; go_simp; exact rfl)); intro K hK; go_simp; refine hK _ ?_; clear hK K)
    iterate 5 (apply wpP_go; (focus rfl); (focus rfl); (focus exact SX.out); (focus (rintro Q ⟨s0, s1, s2, s3⟩; go_simp; exact rfl)); intro K hK; go_simp; refine hK _ ?_; clear hK K)
    have HC1c : Hid (CT (fun j => Kp j ∨ (j = H ∨ j = H + 1)) w3.drew w3.drew) := Ch.refl _ _
    apply wpP_one
    focus rfl
    intro K hK
    go_simp
    refine (HB.out.2.1 _ HT1.out).mono ?_
    rintro e V1 ⟨rfl, h1, c1⟩
    have HT2 := Lib.hid h1
    have HC2c := Lib.hid (HC1c.out.trans c1)
    have SX1 : Hid (V1.cell? ⟨H, 0, none⟩ = some (ptr L) ∧ V1.cell? ⟨H, 1, none⟩ = some (ptr X) ∧ V1.cell? ⟨H + 1, 3, none⟩ = some (.int .i64 lv) ∧ V1.cell? ⟨H + 1, 4, none⟩ = some (.int .u64 tm)) := ⟨(c1.cell ⟨H, 0, none⟩ (HT1.out.kp (.inr (.inl rfl))) (.inr (.inl rfl))).trans SX.out.1, (c1.cell ⟨H, 1, none⟩ (HT1.out.kp (.inr (.inl rfl))) (.inr (.inl rfl))).trans SX.out.2.1, (c1.cell ⟨H + 1, 3, none⟩ (HT1.out.kp (.inr (.inr rfl))) (.inr (.inr rfl))).trans SX.out.2.2.1, (c1.cell ⟨H + 1, 4, none⟩ (HT1.out.kp (.inr (.inr rfl))) (.inr (.inr rfl))).trans SX.out.2.2.2⟩
    refine hK _ _ SX1.out ?_
    clear hK K h1 c1
    apply wpP_call
    focus rfl
    focus rfl
    focus exact SX1.out
    focus (rintro Q ⟨s0, s1, s2, s3⟩; go_simp; exact ⟨rfl, rfl⟩)
    focus (rintro Q _; exact HMD.out Q)
    intro K hK
    go_simp
    refine hK _ ?_
    clear hK K
    iterate 1 (apply wpP_go; (focus rfl); (focus rfl); (focus exact SX1.out); (focus (rintro Q ⟨s0, s1, s2, s3⟩; go_simp; exact rfl)); intro K hK; go_simp; refine hK _ ?_; clear hK K)
    apply wpP_one
    focus rfl
    intro K hK
    go_simp
    refine (HB.out.2.2 _ HT2.out).mono ?_
    rintro e V2 ⟨rfl, h1, c1⟩
    have HT3 := Lib.hid h1
    have HC3c := Lib.hid (HC2c.out.trans c1)
    have SX2 : Hid (V2.cell? ⟨H, 0, none⟩ = some (ptr L) ∧ V2.cell? ⟨H, 1, none⟩ = some (ptr X) ∧ V2.cell? ⟨H + 1, 3, none⟩ = some (.int .i64 lv) ∧ V2.cell? ⟨H + 1, 4, none⟩ = some (.int .u64 tm)) := ⟨(c1.cell ⟨H, 0, none⟩ (HT2.out.kp (.inr (.inl rfl))) (.inr (.inl rfl))).trans SX1.out.1, (c1.cell ⟨H, 1, none⟩ (HT2.out.kp (.inr (.inl rfl))) (.inr (.inl rfl))).trans SX1.out.2.1, (c1.cell ⟨H + 1, 3, none⟩ (HT2.out.kp (.inr (.inr rfl))) (.inr (.inr rfl))).trans SX1.out.2.2.1, (c1.cell ⟨H + 1, 4, none⟩ (HT2.out.kp (.inr (.inr rfl))) (.inr (.inr rfl))).trans SX1.out.2.2.2⟩
    refine hK _ _ SX2.out ?_
    clear hK K h1 c1
    have HC3 : Hid (CT Kp w V2) := HC1.out.trans (CT.less HC3c.out hless)
    iterate 2 (apply wpP_go; (focus rfl); (focus rfl); (focus exact SX2.out); (focus (rintro Q ⟨s0, s1, s2, s3⟩; go_simp; exact rfl)); intro K hK; go_simp; refine hK _ ?_; clear hK K)
    refine wpP_done ?_
    go_wp2_with fail
    go_ret
    exact ⟨rfl, _, HB.out.1, HT3.out.less hless, HC3.out⟩
  · have HB := Lib.hid (two_addE (Kp := fun j => Kp j ∨ (j = H ∨ j = H + 1)) (L := L) (X := X) (n := n) hI.out hid hn)
    obtain ⟨s9, hs9⟩ : ∃ z, (addE s i).2 = z := ⟨_, rfl⟩
    obtain ⟨v9, hv9⟩ : ∃ z, (addE s i).1 = z := ⟨_, rfl⟩
    rw [hs9, hv9] at HB
    clear hs9 hv9
    have SX : Hid (w3.drew.cell? ⟨H, 0, none⟩ = some (ptr L) ∧ w3.drew.cell? ⟨H, 1, none⟩ = some (ptr X) ∧ w3.drew.cell? ⟨H + 1, 3, none⟩ = some (.int .i64 lv) ∧ w3.drew.cell? ⟨H + 1, 4, none⟩ = some (.int .u64 tm)) := SB.out
    have HT1 : Hid (TW w3.drew (fun j => Kp j ∨ (j = H ∨ j = H + 1)) L X n n s s) := HT.out.below ((Below.refl _ _).drew)
    have HC1 : Hid (CT Kp w w3.drew) := HC.out.drew
    have hless : ∀ j, Kp j → (Kp j ∨ (j = H ∨ j = H + 1)) := fun j h => .inl h
    go_wp2_with fail
    refine wp_region_pl (fun Y => Y.cell? ⟨H, 0, none⟩ = some (ptr L) ∧ Y.cell? ⟨H, 1, none⟩ = some (ptr X) ∧ Y.cell? ⟨H + 1, 3, none⟩ = some (.int .i64 lv) ∧ Y.cell? ⟨H + 1, 4, none⟩ = some (.int .u64 tm)) ((0, 0) :: (1, 0) :: (2, 0) :: (4, 0) :: (5, 0) :: (6, 0) :: (3, 1) :: (7, 1) :: (8, 0) :: (9, 0) :: []) (by kernel_rfl) (by kernel_rfl) ?_
    iterate 6 (apply wpP_go; (focus rfl); (focus rfl); (focus exact SX.out); (focus (rintro Q ⟨s0, s1, s2, s3⟩; go_simp; exact rfl)); intro K hK; go_simp; refine hK _ ?_; clear hK K)
    have HC1c : Hid (CT (fun j => Kp j ∨ (j = H ∨ j = H + 1)) w3.drew w3.drew) := Ch.refl _ _
    apply wpP_one
    focus rfl
    intro K hK
    go_simp
    refine (HB.out.2.1 _ HT1.out).mono ?_
    rintro e V1 ⟨rfl, h1, c1⟩
    have HT2 := Lib.hid h1
    have HC2c := Lib.hid (HC1c.out.trans c1)
    have SX1 : Hid (V1.cell? ⟨H, 0, none⟩ = some (ptr L) ∧ V1.cell? ⟨H, 1, none⟩ = some (ptr X) ∧ V1.cell? ⟨H + 1, 3, none⟩ = some (.int .i64 lv) ∧ V1.cell? ⟨H + 1, 4, none⟩ = some (.int .u64 tm)) := ⟨(c1.cell ⟨H, 0, none⟩ (HT1.out.kp (.inr (.inl rfl))) (.inr (.inl rfl))).trans SX.out.1, (c1.cell ⟨H, 1, none⟩ (HT1.out.kp (.inr (.inl rfl))) (.inr (.inl rfl))).trans SX.out.2.1, (c1.cell ⟨H + 1, 3, none⟩ (HT1.out.kp (.inr (.inr rfl))) (.inr (.inr rfl))).trans SX.out.2.2.1, (c1.cell ⟨H + 1, 4, none⟩ (HT1.out.kp (.inr (.inr rfl))) (.inr (.inr rfl))).trans SX.out.2.2.2⟩
    refine hK _ _ SX1.out ?_
    clear hK K h1 c1
    apply wpP_one
    focus rfl
    intro K hK
    go_simp
    refine (HB.out.2.2 _ HT2.out).mono ?_
    rintro e V2 ⟨rfl, h1, c1⟩
    have HT3 := Lib.hid h1
    have HC3c := Lib.hid (HC2c.out.trans c1)
    have SX2 : Hid (V2.cell? ⟨H, 0, none⟩ = some (ptr L) ∧ V2.cell? ⟨H, 1, none⟩ = some (ptr X) ∧ V2.cell? ⟨H + 1, 3, none⟩ = some (.int .i64 lv) ∧ V2.cell? ⟨H + 1, 4, none⟩ = some (.int .u64 tm)) := ⟨(c1.cell ⟨H, 0, none⟩ (HT2.out.kp (.inr (.inl rfl))) (.inr (.inl rfl))).trans SX1.out.1, (c1.cell ⟨H, 1, none⟩ (HT2.out.kp (.inr (.inl rfl))) (.inr (.inl rfl))).trans SX1.out.2.1, (c1.cell ⟨H + 1, 3, none⟩ (HT2.out.kp (.inr (.inr rfl))) (.inr (.inr rfl))).trans SX1.out.2.2.1, (c1.cell ⟨H + 1, 4, none⟩ (HT2.out.kp (.inr (.inr rfl))) (.inr (.inr rfl))).trans SX1.out.2.2.2⟩
    refine hK _ _ SX2.out ?_
    clear hK K h1 c1
    have HC3 : Hid (CT Kp w V2) := HC1.out.trans (CT.less HC3c.out hless)
    iterate 2 (apply wpP_go; (focus rfl); (focus rfl); (focus exact SX2.out); (focus (rintro Q ⟨s0, s1, s2, s3⟩; go_simp; exact rfl)); intro K hK; go_simp; refine hK _ ?_; clear hK K)
    refine wpP_done ?_
    go_wp2_with fail
    go_ret
    exact ⟨rfl, _, HB.out.1, HT3.out.less hless, HC3.out⟩
  · have HB := Lib.hid (two_rm (Kp := fun j => Kp j ∨ (j = H ∨ j = H + 1)) (L := L) (X := X) (n := n) hI.out hid hn)
    obtain ⟨s9, hs9⟩ : ∃ z, (rmS s i).2 = z := ⟨_, rfl⟩
    obtain ⟨v9, hv9⟩ : ∃ z, (rmS s i).1 = z := ⟨_, rfl⟩
    rw [hs9, hv9] at HB
    clear hs9 hv9
    have SX : Hid (w3.drew.cell? ⟨H, 0, none⟩ = some (ptr L) ∧ w3.drew.cell? ⟨H, 1, none⟩ = some (ptr X) ∧ w3.drew.cell? ⟨H + 1, 3, none⟩ = some (.int .i64 lv) ∧ w3.drew.cell? ⟨H + 1, 4, none⟩ = some (.int .u64 tm)) := SB.out
    have HT1 : Hid (TW w3.drew (fun j => Kp j ∨ (j = H ∨ j = H + 1)) L X n n s s) := HT.out.below ((Below.refl _ _).drew)
    have HC1 : Hid (CT Kp w w3.drew) := HC.out.drew
    have hless : ∀ j, Kp j → (Kp j ∨ (j = H ∨ j = H + 1)) := fun j h => .inl h
    go_wp2_with fail
    refine wp_region_pl (fun Y => Y.cell? ⟨H, 0, none⟩ = some (ptr L) ∧ Y.cell? ⟨H, 1, none⟩ = some (ptr X) ∧ Y.cell? ⟨H + 1, 3, none⟩ = some (.int .i64 lv) ∧ Y.cell? ⟨H + 1, 4, none⟩ = some (.int .u64 tm)) ((0, 0) :: (1, 0) :: (2, 0) :: (4, 0) :: (5, 0) :: (6, 0) :: (3, 1) :: (7, 1) :: (8, 0) :: (9, 0) :: []) (by kernel_rfl) (by kernel_rfl) ?_
    iterate 6 (apply wpP_go; (focus rfl); (focus rfl); (focus exact SX.out); (focus (rintro Q ⟨s0, s1, s2, s3⟩; go_simp; exact rfl)); intro K hK; go_simp; refine hK _ ?_; clear hK K)
    have HC1c : Hid (CT (fun j => Kp j ∨ (j = H ∨ j = H + 1)) w3.drew w3.drew) := Ch.refl _ _
    apply wpP_one
    focus rfl
    intro K hK
    go_simp
    refine (HB.out.2.1 _ HT1.out).mono ?_
    rintro e V1 ⟨rfl, h1, c1⟩
    have HT2 := Lib.hid h1
    have HC2c := Lib.hid (HC1c.out.trans c1)
    have SX1 : Hid (V1.cell? ⟨H, 0, none⟩ = some (ptr L) ∧ V1.cell? ⟨H, 1, none⟩ = some (ptr X) ∧ V1.cell? ⟨H + 1, 3, none⟩ = some (.int .i64 lv) ∧ V1.cell? ⟨H + 1, 4, none⟩ = some (.int .u64 tm)) := ⟨(c1.cell ⟨H, 0, none⟩ (HT1.out.kp (.inr (.inl rfl))) (.inr (.inl rfl))).trans SX.out.1, (c1.cell ⟨H, 1, none⟩ (HT1.out.kp (.inr (.inl rfl))) (.inr (.inl rfl))).trans SX.out.2.1, (c1.cell ⟨H + 1, 3, none⟩ (HT1.out.kp (.inr (.inr rfl))) (.inr (.inr rfl))).trans SX.out.2.2.1, (c1.cell ⟨H + 1, 4, none⟩ (HT1.out.kp (.inr (.inr rfl))) (.inr (.inr rfl))).trans SX.out.2.2.2⟩
    refine hK _ _ SX1.out ?_
    clear hK K h1 c1
    apply wpP_one
    focus rfl
    intro K hK
    go_simp
    refine (HB.out.2.2 _ HT2.out).mono ?_
    rintro e V2 ⟨rfl, h1, c1⟩
    have HT3 := Lib.hid h1
    have HC3c := Lib.hid (HC2c.out.trans c1)
    have SX2 : Hid (V2.cell? ⟨H, 0, none⟩ = some (ptr L) ∧ V2.cell? ⟨H, 1, none⟩ = some (ptr X) ∧ V2.cell? ⟨H + 1, 3, none⟩ = some (.int .i64 lv) ∧ V2.cell? ⟨H + 1, 4, none⟩ = some (.int .u64 tm)) := ⟨(c1.cell ⟨H, 0, none⟩ (HT2.out.kp (.inr (.inl rfl))) (.inr (.inl rfl))).trans SX1.out.1, (c1.cell ⟨H, 1, none⟩ (HT2.out.kp (.inr (.inl rfl))) (.inr (.inl rfl))).trans SX1.out.2.1, (c1.cell ⟨H + 1, 3, none⟩ (HT2.out.kp (.inr (.inr rfl))) (.inr (.inr rfl))).trans SX1.out.2.2.1, (c1.cell ⟨H + 1, 4, none⟩ (HT2.out.kp (.inr (.inr rfl))) (.inr (.inr rfl))).trans SX1.out.2.2.2⟩
    refine hK _ _ SX2.out ?_
    clear hK K h1 c1
    have HC3 : Hid (CT Kp w V2) := HC1.out.trans (CT.less HC3c.out hless)
    iterate 2 (apply wpP_go; (focus rfl); (focus rfl); (focus exact SX2.out); (focus (rintro Q ⟨s0, s1, s2, s3⟩; go_simp; exact rfl)); intro K hK; go_simp; refine hK _ ?_; clear hK K)
    refine wpP_done ?_
    go_wp2_with fail
    go_ret
    exact ⟨rfl, _, HB.out.1, HT3.out.less hless, HC3.out⟩
  · have HB := Lib.hid (two_acq (Kp := fun j => Kp j ∨ (j = H ∨ j = H + 1)) (L := L) (X := X) (n := n) hI.out hid ht hn hnow (tmo_in htm))
    obtain ⟨s9, hs9⟩ : ∃ z, (acqS s t i now (tmo tm)).2.2 = z := ⟨_, rfl⟩
    obtain ⟨v1, hv1⟩ : ∃ z, (acqS s t i now (tmo tm)).1 = z := ⟨_, rfl⟩
    obtain ⟨v2, hv2⟩ : ∃ z, (acqS s t i now (tmo tm)).2.1 = z := ⟨_, rfl⟩
    rw [hs9, hv1, hv2] at HB
    clear hs9 hv1 hv2
    have SX : Hid (w3.drew.cell? ⟨H, 0, none⟩ = some (ptr L) ∧ w3.drew.cell? ⟨H, 1, none⟩ = some (ptr X) ∧ w3.drew.cell? ⟨H + 1, 3, none⟩ = some (.int .i64 lv) ∧ w3.drew.cell? ⟨H + 1, 4, none⟩ = some (.int .u64 tm)) := SB.out
    have HT1 : Hid (TW w3.drew (fun j => Kp j ∨ (j = H ∨ j = H + 1)) L X n n s s) := HT.out.below ((Below.refl _ _).drew)
    have HC1 : Hid (CT Kp w w3.drew) := HC.out.drew
    have hless : ∀ j, Kp j → (Kp j ∨ (j = H ∨ j = H + 1)) := fun j h => .inl h
    go_wp2_with fail
    refine wp_region_pl (fun Y => Y.cell? ⟨H, 0, none⟩ = some (ptr L) ∧ Y.cell? ⟨H, 1, none⟩ = some (ptr X) ∧ Y.cell? ⟨H + 1, 3, none⟩ = some (.int .i64 lv) ∧ Y.cell? ⟨H + 1, 4, none⟩ = some (.int .u64 tm)) ((0, 0) :: (1, 0) :: (2, 0) :: (3, 0) :: (4, 0) :: (5, 0) :: (6, 0) :: (7, 0) :: (8, 1) :: (9, 0) :: (10, 0) :: (11, 0) :: (12, 0) :: (13, 0) :: []) (by kernel_rfl) (by kernel_rfl) ?_
    iterate 7 (apply wpP_go; (focus rfl); (focus rfl); (focus exact SX.out); (focus (rintro Q ⟨s0, s1, s2, s3⟩; go_simp; exact rfl)); intro K hK; go_simp; refine hK _ ?_; clear hK K)
    apply wpP_call
    focus rfl
    focus rfl
    focus exact SX.out
    focus (rintro Q ⟨s0, s1, s2, s3⟩; go_simp; exact ⟨rfl, rfl⟩)
    focus (rintro Q _; exact tmo_any tm _ htm)
    intro K hK
    go_simp
    refine hK _ ?_
    clear hK K
    have HC1c : Hid (CT (fun j => Kp j ∨ (j = H ∨ j = H + 1)) w3.drew w3.drew) := Ch.refl _ _
    apply wpP_one
    focus rfl
    intro K hK
    go_simp
    refine (HB.out.2.1 _ HT1.out).mono ?_
    rintro e V1 ⟨rfl, h1, c1⟩
    have HT2 := Lib.hid h1
    have HC2c := Lib.hid (HC1c.out.trans c1)
    have SX1 : Hid (V1.cell? ⟨H, 0, none⟩ = some (ptr L) ∧ V1.cell? ⟨H, 1, none⟩ = some (ptr X) ∧ V1.cell? ⟨H + 1, 3, none⟩ = some (.int .i64 lv) ∧ V1.cell? ⟨H + 1, 4, none⟩ = some (.int .u64 tm)) := ⟨(c1.cell ⟨H, 0, none⟩ (HT1.out.kp (.inr (.inl rfl))) (.inr (.inl rfl))).trans SX.out.1, (c1.cell ⟨H, 1, none⟩ (HT1.out.kp (.inr (.inl rfl))) (.inr (.inl rfl))).trans SX.out.2.1, (c1.cell ⟨H + 1, 3, none⟩ (HT1.out.kp (.inr (.inr rfl))) (.inr (.inr rfl))).trans SX.out.2.2.1, (c1.cell ⟨H + 1, 4, none⟩ (HT1.out.kp (.inr (.inr rfl))) (.inr (.inr rfl))).trans SX.out.2.2.2⟩
    refine hK _ _ SX1.out ?_
    clear hK K h1 c1
    iterate 5 (apply wpP_go; (focus rfl); (focus rfl); (focus exact SX1.out); (focus (rintro Q ⟨s0, s1, s2, s3⟩; go_simp; exact rfl)); intro K hK; go_simp; refine hK _ ?_; clear hK K)
    refine wpP_done ?_
    have SY : Hid (V1.drew.cell? ⟨H, 0, none⟩ = some (ptr L) ∧ V1.drew.cell? ⟨H, 1, none⟩ = some (ptr X) ∧ V1.drew.cell? ⟨H + 1, 3, none⟩ = some (.int .i64 lv) ∧ V1.drew.cell? ⟨H + 1, 4, none⟩ = some (.int .u64 tm)) := SX1.out
    have HT2 : Hid (TW V1.drew (fun j => Kp j ∨ (j = H ∨ j = H + 1)) L X (n + 8) n s9 s) := HT2.out.below ((Below.refl _ _).drew)
    have HC2c : Hid (CT (fun j => Kp j ∨ (j = H ∨ j = H + 1)) w3.drew V1.drew) := HC2c.out.drew
    clear SX SX1
    go_wp2_with fail
    refine wp_region_pl (fun Y => Y.cell? ⟨H, 0, none⟩ = some (ptr L) ∧ Y.cell? ⟨H, 1, none⟩ = some (ptr X) ∧ Y.cell? ⟨H + 1, 3, none⟩ = some (.int .i64 lv) ∧ Y.cell? ⟨H + 1, 4, none⟩ = some (.int .u64 tm)) ((0, 0) :: (1, 0) :: (2, 0) :: (3, 0) :: (4, 0) :: (5, 0) :: (6, 0) :: (7, 0) :: (8, 1) :: (9, 0) :: (10, 0) :: (11, 0) :: (12, 0) :: (13, 0) :: []) (by kernel_rfl) (by kernel_rfl) ?_
    iterate 7 (apply wpP_go; (focus rfl); (focus rfl); (focus exact SY.out); (focus (rintro Q ⟨s0, s1, s2, s3⟩; go_simp; exact rfl)); intro K hK; go_simp; refine hK _ ?_; clear hK K)
    apply wpP_call
    focus rfl
    focus rfl
    focus exact SY.out
    focus (rintro Q ⟨s0, s1, s2, s3⟩; go_simp; exact ⟨rfl, rfl⟩)
    focus (rintro Q _; exact tmo_any tm _ htm)
    intro K hK
    go_simp
    refine hK _ ?_
    clear hK K
    apply wpP_one
    focus rfl
    intro K hK
    go_simp
    refine (HB.out.2.2 _ HT2.out).mono ?_
    rintro e V2 ⟨rfl, h1, c1⟩
    have HT3 := Lib.hid h1
    have HC3c := Lib.hid (HC2c.out.trans c1)
    have SX2 : Hid (V2.cell? ⟨H, 0, none⟩ = some (ptr L) ∧ V2.cell? ⟨H, 1, none⟩ = some (ptr X) ∧ V2.cell? ⟨H + 1, 3, none⟩ = some (.int .i64 lv) ∧ V2.cell? ⟨H + 1, 4, none⟩ = some (.int .u64 tm)) := ⟨(c1.cell ⟨H, 0, none⟩ (HT2.out.kp (.inr (.inl rfl))) (.inr (.inl rfl))).trans SY.out.1, (c1.cell ⟨H, 1, none⟩ (HT2.out.kp (.inr (.inl rfl))) (.inr (.inl rfl))).trans SY.out.2.1, (c1.cell ⟨H + 1, 3, none⟩ (HT2.out.kp (.inr (.inr rfl))) (.inr (.inr rfl))).trans SY.out.2.2.1, (c1.cell ⟨H + 1, 4, none⟩ (HT2.out.kp (.inr (.inr rfl))) (.inr (.inr rfl))).trans SY.out.2.2.2⟩
    refine hK _ _ SX2.out ?_
    clear hK K h1 c1
    iterate 5 (apply wpP_go; (focus rfl); (focus rfl); (focus exact SX2.out); (focus (rintro Q ⟨s0, s1, s2, s3⟩; go_simp; exact rfl)); intro K hK; go_simp; refine hK _ ?_; clear hK K)
    have HC3 : Hid (CT Kp w V2) := HC1.out.trans (CT.less HC3c.out hless)
    refine wpP_done ?_
    go_wp2_with fail
    go_ret
    exact ⟨rfl, _, HB.out.1, HT3.out.less hless, HC3.out⟩
  · have HB := Lib.hid (two_acq (Kp := fun j => Kp j ∨ (j = H ∨ j = H + 1)) (L := L) (X := X) (n := n) hI.out hid ht hn hnow (tmo_in htm))
    obtain ⟨s9, hs9⟩ : ∃ z, (acqS s t i now (tmo tm)).2.2 = z := ⟨_, rfl⟩
    obtain ⟨v1, hv1⟩ : ∃ z, (acqS s t i now (tmo tm)).1 = z := ⟨_, rfl⟩
    obtain ⟨v2, hv2⟩ : ∃ z, (acqS s t i now (tmo tm)).2.1 = z := ⟨_, rfl⟩
    rw [hs9, hv1, hv2] at HB
    clear hs9 hv1 hv2
    have SX : Hid (w3.drew.cell? ⟨H, 0, none⟩ = some (ptr L) ∧ w3.drew.cell? ⟨H, 1, none⟩ = some (ptr X) ∧ w3.drew.cell? ⟨H + 1, 3, none⟩ = some (.int .i64 lv) ∧ w3.drew.cell? ⟨H + 1, 4, none⟩ = some (.int .u64 tm)) := SB.out
    have HT1 : Hid (TW w3.drew (fun j => Kp j ∨ (j = H ∨ j = H + 1)) L X n n s s) := HT.out.below ((Below.refl _ _).drew)
    have HC1 : Hid (CT Kp w w3.drew) := HC.out.drew
    have hless : ∀ j, Kp j → (Kp j ∨ (j = H ∨ j = H + 1)) := fun j h => .inl h
    go_wp2_with fail
    refine wp_region_pl (fun Y => Y.cell? ⟨H, 0, none⟩ = some (ptr L) ∧ Y.cell? ⟨H, 1, none⟩ = some (ptr X) ∧ Y.cell? ⟨H + 1, 3, none⟩ = some (.int .i64 lv) ∧ Y.cell? ⟨H + 1, 4, none⟩ = some (.int .u64 tm)) ((0, 0) :: (1, 0) :: (2, 0) :: (3, 0) :: (4, 0) :: (5, 0) :: (6, 0) :: (7, 0) :: (8, 1) :: (9, 0) :: (10, 0) :: (11, 0) :: (12, 0) :: (13, 0) :: []) (by kernel_rfl) (by kernel_rfl) ?_
    iterate 7 (apply wpP_go; (focus rfl); (focus rfl); (focus exact SX.out); (focus (rintro Q ⟨s0, s1, s2, s3⟩; go_simp; exact rfl)); intro K hK; go_simp; refine hK _ ?_; clear hK K)
    apply wpP_call
    focus rfl
    focus rfl
    focus exact SX.out
    focus (rintro Q ⟨s0, s1, s2, s3⟩; go_simp; exact ⟨rfl, rfl⟩)
    focus (rintro Q _; exact tmo_any tm _ htm)
    intro K hK
    go_simp
    refine hK _ ?_
    clear hK K
    have HC1c : Hid (CT (fun j => Kp j ∨ (j = H ∨ j = H + 1)) w3.drew w3.drew) := Ch.refl _ _
    apply wpP_one
    focus rfl
    intro K hK
    go_simp
    refine (HB.out.2.1 _ HT1.out).mono ?_
    rintro e V1 ⟨rfl, h1, c1⟩
    have HT2 := Lib.hid h1
    have HC2c := Lib.hid (HC1c.out.trans c1)
    have SX1 : Hid (V1.cell? ⟨H, 0, none⟩ = some (ptr L) ∧ V1.cell? ⟨H, 1, none⟩ = some (ptr X) ∧ V1.cell? ⟨H + 1, 3, none⟩ = some (.int .i64 lv) ∧ V1.cell? ⟨H + 1, 4, none⟩ = some (.int .u64 tm)) := ⟨(c1.cell ⟨H, 0, none⟩ (HT1.out.kp (.inr (.inl rfl))) (.inr (.inl rfl))).trans SX.out.1, (c1.cell ⟨H, 1, none⟩ (HT1.out.kp (.inr (.inl rfl))) (.inr (.inl rfl))).trans SX.out.2.1, (c1.cell ⟨H + 1, 3, none⟩ (HT1.out.kp (.inr (.inr rfl))) (.inr (.inr rfl))).trans SX.out.2.2.1, (c1.cell ⟨H + 1, 4, none⟩ (HT1.out.kp (.inr (.inr rfl))) (.inr (.inr rfl))).trans SX.out.2.2.2⟩
    refine hK _ _ SX1.out ?_
    clear hK K h1 c1
    iterate 5 (apply wpP_go; (focus rfl); (focus rfl); (focus exact SX1.out); (focus (rintro Q ⟨s0, s1, s2, s3⟩; go_simp; exact rfl)); intro K hK; go_simp; refine hK _ ?_; clear hK K)
    refine wpP_done ?_
    have SY : Hid (V1.drew.cell? ⟨H, 0, none⟩ = some (ptr L) ∧ V1.drew.cell? ⟨H, 1, none⟩ = some (ptr X) ∧ V1.drew.cell? ⟨H + 1, 3, none⟩ = some (.int .i64 lv) ∧ V1.drew.cell? ⟨H + 1, 4, none⟩ = some (.int .u64 tm)) := SX1.out
    have HT2 : Hid (TW V1.drew (fun j => Kp j ∨ (j = H ∨ j = H + 1)) L X (n + 8) n s9 s) := HT2.out.below ((Below.refl _ _).drew)
    have HC2c : Hid (CT (fun j => Kp j ∨ (j = H ∨ j = H + 1)) w3.drew V1.drew) := HC2c.out.drew
    clear SX SX1
    go_wp2_with fail
    refine wp_region_pl (fun Y => Y.cell? ⟨H, 0, none⟩ = some (ptr L) ∧ Y.cell? ⟨H, 1, none⟩ = some (ptr X) ∧ Y.cell? ⟨H + 1, 3, none⟩ = some (.int .i64 lv) ∧ Y.cell? ⟨H + 1, 4, none⟩ = some (.int .u64 tm)) ((0, 0) :: (1, 0) :: (2, 0) :: (3, 0) :: (4, 0) :: (5, 0) :: (6, 0) :: (7, 0) :: (8, 1) :: (9, 0) :: (10, 0) :: (11, 0) :: (12, 0) :: (13, 0) :: []) (by kernel_rfl) (by kernel_rfl) ?_
    iterate 7 (apply wpP_go; (focus rfl); (focus rfl); (focus exact SY.out); (focus (rintro Q ⟨s0, s1, s2, s3⟩; go_simp; exact rfl)); intro K hK; go_simp; refine hK _ ?_; clear hK K)
    apply wpP_call
    focus rfl
    focus rfl
    focus exact SY.out
    focus (rintro Q ⟨s0, s1, s2, s3⟩; go_simp; exact ⟨rfl, rfl⟩)
    focus (rintro Q _; exact tmo_any tm _ htm)
    intro K hK
    go_simp
    refine hK _ ?_
    clear hK K
    apply wpP_one
    focus rfl
    intro K hK
    go_simp
    refine (HB.out.2.2 _ HT2.out).mono ?_
    rintro e V2 ⟨rfl, h1, c1⟩
    have HT3 := Lib.hid h1
    have HC3c := Lib.hid (HC2c.out.trans c1)
    have SX2 : Hid (V2.cell? ⟨H, 0, none⟩ = some (ptr L) ∧ V2.cell? ⟨H, 1, none⟩ = some (ptr X) ∧ V2.cell? ⟨H + 1, 3, none⟩ = some (.int .i64 lv) ∧ V2.cell? ⟨H + 1, 4, none⟩ = some (.int .u64 tm)) := ⟨(c1.cell ⟨H, 0, none⟩ (HT2.out.kp (.inr (.inl rfl))) (.inr (.inl rfl))).trans SY.out.1, (c1.cell ⟨H, 1, none⟩ (HT2.out.kp (.inr (.inl rfl))) (.inr (.inl rfl))).trans SY.out.2.1, (c1.cell ⟨H + 1, 3, none⟩ (HT2.out.kp (.inr (.inr rfl))) (.inr (.inr rfl))).trans SY.out.2.2.1, (c1.cell ⟨H + 1, 4, none⟩ (HT2.out.kp (.inr (.inr rfl))) (.inr (.inr rfl))).trans SY.out.2.2.2⟩
    refine hK _ _ SX2.out ?_
    clear hK K h1 c1
    iterate 5 (apply wpP_go; (focus rfl); (focus rfl); (focus exact SX2.out); (focus (rintro Q ⟨s0, s1, s2, s3⟩; go_simp; exact rfl)); intro K hK; go_simp; refine hK _ ?_; clear hK K)
    have HC3 : Hid (CT Kp w V2) := HC1.out.trans (CT.less HC3c.out hless)
    refine wpP_done ?_
    go_wp2_with fail
    go_ret
    exact ⟨rfl, _, HB.out.1, HT3.out.less hless, HC3.out⟩
  · have HB := Lib.hid (two_acq (Kp := fun j => Kp j ∨ (j = H ∨ j = H + 1)) (L := L) (X := X) (n := n) hI.out hid ht hn hnow (tmo_in htm))
    obtain ⟨s9, hs9⟩ : ∃ z, (acqS s t i now (tmo tm)).2.2 = z := ⟨_, rfl⟩
    obtain ⟨v1, hv1⟩ : ∃ z, (acqS s t i now (tmo tm)).1 = z := ⟨_, rfl⟩
    obtain ⟨v2, hv2⟩ : ∃ z, (acqS s t i now (tmo tm)).2.1 = z := ⟨_, rfl⟩
    rw [hs9, hv1, hv2] at HB
    clear hs9 hv1 hv2
    have SX : Hid (w3.drew.cell? ⟨H, 0, none⟩ = some (ptr L) ∧ w3.drew.cell? ⟨H, 1, none⟩ = some (ptr X) ∧ w3.drew.cell? ⟨H + 1, 3, none⟩ = some (.int .i64 lv) ∧ w3.drew.cell? ⟨H + 1, 4, none⟩ = some (.int .u64 tm)) := SB.out
    have HT1 : Hid (TW w3.drew (fun j => Kp j ∨ (j = H ∨ j = H + 1)) L X n n s s) := HT.out.below ((Below.refl _ _).drew)
    have HC1 : Hid (CT Kp w w3.drew) := HC.out.drew
    have hless : ∀ j, Kp j → (Kp j ∨ (j = H ∨ j = H + 1)) := fun j h => .inl h
    go_wp2_with fail
    refine wp_region_pl (fun Y => Y.cell? ⟨H, 0, none⟩ = some (ptr L) ∧ Y.cell? ⟨H, 1, none⟩ = some (ptr X) ∧ Y.cell? ⟨H + 1, 3, none⟩ = some (.int .i64 lv) ∧ Y.cell? ⟨H + 1, 4, none⟩ = some (.int .u64 tm)) ((0, 0) :: (1, 0) :: (2, 0) :: (3, 0) :: (4, 0) :: (5, 0) :: (6, 0) :: (7, 0) :: (8, 1) :: (9, 0) :: (10, 0) :: (11, 0) :: (12, 0) :: (13, 0) :: []) (by kernel_rfl) (by kernel_rfl) ?_
    iterate 7 (apply wpP_go; (focus rfl); (focus rfl); (focus exact SX.out); (focus (rintro Q ⟨s0, s1, s2, s3⟩; go_simp; exact rfl)); intro K hK; go_simp; refine hK _ ?_; clear hK K)
    apply wpP_call
    focus rfl
    focus rfl
    focus exact SX.out
    focus (rintro Q ⟨s0, s1, s2, s3⟩; go_simp; exact ⟨rfl, rfl⟩)
    focus (rintro Q _; exact tmo_any tm _ htm)
    intro K hK
    go_simp
    refine hK _ ?_
    clear hK K
    have HC1c : Hid (CT (fun j => Kp j ∨ (j = H ∨ j = H + 1)) w3.drew w3.drew) := Ch.refl _ _
    apply wpP_one
    focus rfl
    intro K hK
    go_simp
    refine (HB.out.2.1 _ HT1.out).mono ?_
    rintro e V1 ⟨rfl, h1, c1⟩
    have HT2 := Lib.hid h1
    have HC2c := Lib.hid (HC1c.out.trans c1)
    have SX1 : Hid (V1.cell? ⟨H, 0, none⟩ = some (ptr L) ∧ V1.cell? ⟨H, 1, none⟩ = some (ptr X) ∧ V1.cell? ⟨H + 1, 3, none⟩ = some (.int .i64 lv) ∧ V1.cell? ⟨H + 1, 4, none⟩ = some (.int .u64 tm)) := ⟨(c1.cell ⟨H, 0, none⟩ (HT1.out.kp (.inr (.inl rfl))) (.inr (.inl rfl))).trans SX.out.1, (c1.cell ⟨H, 1, none⟩ (HT1.out.kp (.inr (.inl rfl))) (.inr (.inl rfl))).trans SX.out.2.1, (c1.cell ⟨H + 1, 3, none⟩ (HT1.out.kp (.inr (.inr rfl))) (.inr (.inr rfl))).trans SX.out.2.2.1, (c1.cell ⟨H + 1, 4, none⟩ (HT1.out.kp (.inr (.inr rfl))) (.inr (.inr rfl))).trans SX.out.2.2.2⟩
    refine hK _ _ SX1.out ?_
    clear hK K h1 c1
    iterate 5 (apply wpP_go; (focus rfl); (focus rfl); (focus exact SX1.out); (focus (rintro Q ⟨s0, s1, s2, s3⟩; go_simp; exact rfl)); intro K hK; go_simp; refine hK _ ?_; clear hK K)
    refine wpP_done ?_
    have SY : Hid (V1.drew.cell? ⟨H, 0, none⟩ = some (ptr L) ∧ V1.drew.cell? ⟨H, 1, none⟩ = some (ptr X) ∧ V1.drew.cell? ⟨H + 1, 3, none⟩ = some (.int .i64 lv) ∧ V1.drew.cell? ⟨H + 1, 4, none⟩ = some (.int .u64 tm)) := SX1.out
    have HT2 : Hid (TW V1.drew (fun j => Kp j ∨ (j = H ∨ j = H + 1)) L X (n + 8) n s9 s) := HT2.out.below ((Below.refl _ _).drew)
    have HC2c : Hid (CT (fun j => Kp j ∨ (j = H ∨ j = H + 1)) w3.drew V1.drew) := HC2c.out.drew
    clear SX SX1
    go_wp2_with fail
    refine wp_region_pl (fun Y => Y.cell? ⟨H, 0, none⟩ = some (ptr L) ∧ Y.cell? ⟨H, 1, none⟩ = some (ptr X) ∧ Y.cell? ⟨H + 1, 3, none⟩ = some (.int .i64 lv) ∧ Y.cell? ⟨H + 1, 4, none⟩ = some (.int .u64 tm)) ((0, 0) :: (1, 0) :: (2, 0) :: (3, 0) :: (4, 0) :: (5, 0) :: (6, 0) :: (7, 0) :: (8, 1) :: (9, 0) :: (10, 0) :: (11, 0) :: (12, 0) :: (13, 0) :: []) (by kernel_rfl) (by kernel_rfl) ?_
    iterate 7 (apply wpP_go; (focus rfl); (focus rfl); (focus exact SY.out); (focus (rintro Q ⟨s0, s1, s2, s3⟩; go_simp; exact rfl)); intro K hK; go_simp; refine hK _ ?_; clear hK K)
    apply wpP_call
    focus rfl
    focus rfl
    focus exact SY.out
    focus (rintro Q ⟨s0, s1, s2, s3⟩; go_simp; exact ⟨rfl, rfl⟩)
    focus (rintro Q _; exact tmo_any tm _ htm)
    intro K hK
    go_simp
    refine hK _ ?_
    clear hK K
    apply wpP_one
    focus rfl
    intro K hK
    go_simp
    refine (HB.out.2.2 _ HT2.out).mono ?_
    rintro e V2 ⟨rfl, h1, c1⟩
    have HT3 := Lib.hid h1
    have HC3c := Lib.hid (HC2c.out.trans c1)
    have SX2 : Hid (V2.cell? ⟨H, 0, none⟩ = some (ptr L) ∧ V2.cell? ⟨H, 1, none⟩ = some (ptr X) ∧ V2.cell? ⟨H + 1, 3, none⟩ = some (.int .i64 lv) ∧ V2.cell? ⟨H + 1, 4, none⟩ = some (.int .u64 tm)) := ⟨(c1.cell ⟨H, 0, none⟩ (HT2.out.kp (.inr (.inl rfl))) (.inr (.inl rfl))).trans SY.out.1, (c1.cell ⟨H, 1, none⟩ (HT2.out.kp (.inr (.inl rfl))) (.inr (.inl rfl))).trans SY.out.2.1, (c1.cell ⟨H + 1, 3, none⟩ (HT2.out.kp (.inr (.inr rfl))) (.inr (.inr rfl))).trans SY.out.2.2.1, (c1.cell ⟨H + 1, 4, none⟩ (HT2.out.kp (.inr (.inr rfl))) (.inr (.inr rfl))).trans SY.out.2.2.2⟩
    refine hK _ _ SX2.out ?_
    clear hK K h1 c1
    iterate 5 (apply wpP_go; (focus rfl); (focus rfl); (focus exact SX2.out); (focus (rintro Q ⟨s0, s1, s2, s3⟩; go_simp; exact rfl)); intro K hK; go_simp; refine hK _ ?_; clear hK K)
    have HC3 : Hid (CT Kp w V2) := HC1.out.trans (CT.less HC3c.out hless)
    refine wpP_done ?_
    go_wp2_with fail
    go_ret
    exact ⟨rfl, _, HB.out.1, HT3.out.less hless, HC3.out⟩
  · have HB := Lib.hid (two_acq (Kp := fun j => Kp j ∨ (j = H ∨ j = H + 1)) (L := L) (X := X) (n := n) hI.out hid ht hn hnow (tmo_in htm))
    obtain ⟨s9, hs9⟩ : ∃ z, (acqS s t i now (tmo tm)).2.2 = z := ⟨_, rfl⟩
    obtain ⟨v1, hv1⟩ : ∃ z, (acqS s t i now (tmo tm)).1 = z := ⟨_, rfl⟩
    obtain ⟨v2, hv2⟩ : ∃ z, (acqS s t i now (tmo tm)).2.1 = z := ⟨_, rfl⟩
    rw [hs9, hv1, hv2] at HB
    clear hs9 hv1 hv2
    have SX : Hid (w3.drew.cell? ⟨H, 0, none⟩ = some (ptr L) ∧ w3.drew.cell? ⟨H, 1, none⟩ = some (ptr X) ∧ w3.drew.cell? ⟨H + 1, 3, none⟩ = some (.int .i64 lv) ∧ w3.drew.cell? ⟨H + 1, 4, none⟩ = some (.int .u64 tm)) := SB.out
    have HT1 : Hid (TW w3.drew (fun j => Kp j ∨ (j = H ∨ j = H + 1)) L X n n s s) := HT.out.below ((Below.refl _ _).drew)
    have HC1 : Hid (CT Kp w w3.drew) := HC.out.drew
    have hless : ∀ j, Kp j → (Kp j ∨ (j = H ∨ j = H + 1)) := fun j h => .inl h
    go_wp2_with fail
    refine wp_region_pl (fun Y => Y.cell? ⟨H, 0, none⟩ = some (ptr L) ∧ Y.cell? ⟨H, 1, none⟩ = some (ptr X) ∧ Y.cell? ⟨H + 1, 3, none⟩ = some (.int .i64 lv) ∧ Y.cell? ⟨H + 1, 4, none⟩ = some (.int .u64 tm)) ((0, 0) :: (1, 0) :: (2, 0) :: (3, 0) :: (4, 0) :: (5, 0) :: (6, 0) :: (7, 0) :: (8, 1) :: (9, 0) :: (10, 0) :: (11, 0) :: (12, 0) :: (13, 0) :: []) (by kernel_rfl) (by kernel_rfl) ?_
    iterate 7 (apply wpP_go; (focus rfl); (focus rfl); (focus exact SX.out); (focus (rintro Q ⟨s0, s1, s2, s3⟩; go_simp; exact rfl)); intro K hK; go_simp; refine hK _ ?_; clear hK K)
    apply wpP_call
    focus rfl
    focus rfl
    focus exact SX.out
    focus (rintro Q ⟨s0, s1, s2, s3⟩; go_simp; exact ⟨rfl, rfl⟩)
    focus (rintro Q _; exact tmo_any tm _ htm)
    intro K hK
    go_simp
    refine hK _ ?_
    clear hK K
    have HC1c : Hid (CT (fun j => Kp j ∨ (j = H ∨ j = H + 1)) w3.drew w3.drew) := Ch.refl _ _
    apply wpP_one
    focus rfl
    intro K hK
    go_simp
    refine (HB.out.2.1 _ HT1.out).mono ?_
    rintro e V1 ⟨rfl, h1, c1⟩
    have HT2 := Lib.hid h1
    have HC2c := Lib.hid (HC1c.out.trans c1)
    have SX1 : Hid (V1.cell? ⟨H, 0, none⟩ = some (ptr L) ∧ V1.cell? ⟨H, 1, none⟩ = some (ptr X) ∧ V1.cell? ⟨H + 1, 3, none⟩ = some (.int .i64 lv) ∧ V1.cell? ⟨H + 1, 4, none⟩ = some (.int .u64 tm)) := ⟨(c1.cell ⟨H, 0, none⟩ (HT1.out.kp (.inr (.inl rfl))) (.inr (.inl rfl))).trans SX.out.1, (c1.cell ⟨H, 1, none⟩ (HT1.out.kp (.inr (.inl rfl))) (.inr (.inl rfl))).trans SX.out.2.1, (c1.cell ⟨H + 1, 3, none⟩ (HT1.out.kp (.inr (.inr rfl))) (.inr (.inr rfl))).trans SX.out.2.2.1, (c1.cell ⟨H + 1, 4, none⟩ (HT1.out.kp (.inr (.inr rfl))) (.inr (.inr rfl))).trans SX.out.2.2.2⟩
    refine hK _ _ SX1.out ?_
    clear hK K h1 c1
    iterate 5 (apply wpP_go; (focus rfl); (focus rfl); (focus exact SX1.out); (focus (rintro Q ⟨s0, s1, s2, s3⟩; go_simp; exact rfl)); intro K hK; go_simp; refine hK _ ?_; clear hK K)
    refine wpP_done ?_
    have SY : Hid (V1.drew.cell? ⟨H, 0, none⟩ = some (ptr L) ∧ V1.drew.cell? ⟨H, 1, none⟩ = some (ptr X) ∧ V1.drew.cell? ⟨H + 1, 3, none⟩ = some (.int .i64 lv) ∧ V1.drew.cell? ⟨H + 1, 4, none⟩ = some (.int .u64 tm)) := SX1.out
    have HT2 : Hid (TW V1.drew (fun j => Kp j ∨ (j = H ∨ j = H + 1)) L X (n + 8) n s9 s) := HT2.out.below ((Below.refl _ _).drew)
    have HC2c : Hid (CT (fun j => Kp j ∨ (j = H ∨ j = H + 1)) w3.drew V1.drew) := HC2c.out.drew
    clear SX SX1
    go_wp2_with fail
    refine wp_region_pl (fun Y => Y.cell? ⟨H, 0, none⟩ = some (ptr L) ∧ Y.cell? ⟨H, 1, none⟩ = some (ptr X) ∧ Y.cell? ⟨H + 1, 3, none⟩ = some (.int .i64 lv) ∧ Y.cell? ⟨H + 1, 4, none⟩ = some (.int .u64 tm)) ((0, 0) :: (1, 0) :: (2, 0) :: (3, 0) :: (4, 0) :: (5, 0) :: (6, 0) :: (7, 0) :: (8, 1) :: (9, 0) :: (10, 0) :: (11, 0) :: (12, 0) :: (13, 0) :: []) (by kernel_rfl) (by kernel_rfl) ?_
    iterate 7 (apply wpP_go; (focus rfl); (focus rfl); (focus exact SY.out); (focus (rintro Q ⟨s0, s1, s2, s3⟩; go_simp; exact rfl)); intro K hK; go_simp; refine hK _ ?_; clear hK K)
    apply wpP_call
    focus rfl
    focus rfl
    focus exact SY.out
    focus (rintro Q ⟨s0, s1, s2, s3⟩; go_simp; exact ⟨rfl, rfl⟩)
    focus (rintro Q _; exact tmo_any tm _ htm)
    intro K hK
    go_simp
    refine hK _ ?_
    clear hK K
    apply wpP_one
    focus rfl
    intro K hK
    go_simp
    refine (HB.out.2.2 _ HT2.out).mono ?_
    rintro e V2 ⟨rfl, h1, c1⟩
    have HT3 := Lib.hid h1
    have HC3c := Lib.hid (HC2c.out.trans c1)
    have SX2 : Hid (V2.cell? ⟨H, 0, none⟩ = some (ptr L) ∧ V2.cell? ⟨H, 1, none⟩ = some (ptr X) ∧ V2.cell? ⟨H + 1, 3, none⟩ = some (.int .i64 lv) ∧ V2.cell? ⟨H + 1, 4, none⟩ = some (.int .u64 tm)) := ⟨(c1.cell ⟨H, 0, none⟩ (HT2.out.kp (.inr (.inl rfl))) (.inr (.inl rfl))).trans SY.out.1, (c1.cell ⟨H, 1, none⟩ (HT2.out.kp (.inr (.inl rfl))) (.inr (.inl rfl))).trans SY.out.2.1, (c1.cell ⟨H + 1, 3, none⟩ (HT2.out.kp (.inr (.inr rfl))) (.inr (.inr rfl))).trans SY.out.2.2.1, (c1.cell ⟨H + 1, 4, none⟩ (HT2.out.kp (.inr (.inr rfl))) (.inr (.inr rfl))).trans SY.out.2.2.2⟩
    refine hK _ _ SX2.out ?_
    clear hK K h1 c1
    iterate 5 (apply wpP_go; (focus rfl); (focus rfl); (focus exact SX2.out); (focus (rintro Q ⟨s0, s1, s2, s3⟩; go_simp; exact rfl)); intro K hK; go_simp; refine hK _ ?_; clear hK K)
    have HC3 : Hid (CT Kp w V2) := HC1.out.trans (CT.less HC3c.out hless)
    refine wpP_done ?_
    go_wp2_with fail
    go_ret
    exact ⟨rfl, _, HB.out.1, HT3.out.less hless, HC3.out⟩
  · have HB := Lib.hid (two_rel (Kp := fun j => Kp j ∨ (j = H ∨ j = H + 1)) (L := L) (X := X) (n := n) hI.out hid ht hn)
    obtain ⟨s9, hs9⟩ : ∃ z, (relS s t i).2 = z := ⟨_, rfl⟩
    obtain ⟨v9, hv9⟩ : ∃ z, (relS s t i).1 = z := ⟨_, rfl⟩
    rw [hs9, hv9] at HB
    clear hs9 hv9
    have SX : Hid (w3.drew.cell? ⟨H, 0, none⟩ = some (ptr L) ∧ w3.drew.cell? ⟨H, 1, none⟩ = some (ptr X) ∧ w3.drew.cell? ⟨H + 1, 3, none⟩ = some (.int .i64 lv) ∧ w3.drew.cell? ⟨H + 1, 4, none⟩ = some (.int .u64 tm)) := SB.out
    have HT1 : Hid (TW w3.drew (fun j => Kp j ∨ (j = H ∨ j = H + 1)) L X n n s s) := HT.out.below ((Below.refl _ _).drew)
    have HC1 : Hid (CT Kp w w3.drew) := HC.out.drew
    have hless : ∀ j, Kp j → (Kp j ∨ (j = H ∨ j = H + 1)) := fun j h => .inl h
    go_wp2_with fail
    refine wp_region_pl (fun Y => Y.cell? ⟨H, 0, none⟩ = some (ptr L) ∧ Y.cell? ⟨H, 1, none⟩ = some (ptr X) ∧ Y.cell? ⟨H + 1, 3, none⟩ = some (.int .i64 lv) ∧ Y.cell? ⟨H + 1, 4, none⟩ = some (.int .u64 tm)) ((0, 0) :: (1, 0) :: (2, 0) :: (3, 0) :: (5, 0) :: (6, 0) :: (7, 0) :: (8, 0) :: (4, 1) :: (9, 1) :: (10, 0) :: (11, 0) :: []) (by kernel_rfl) (by kernel_rfl) ?_
    iterate 8 (apply wpP_go; (focus rfl); (focus rfl); (focus exact SX.out); (focus (rintro Q ⟨s0, s1, s2, s3⟩; go_simp; exact rfl)); intro K hK; go_simp; refine hK _ ?_; clear hK K)
    have HC1c : Hid (CT (fun j => Kp j ∨ (j = H ∨ j = H + 1)) w3.drew w3.drew) := Ch.refl _ _
    apply wpP_one
    focus rfl
    intro K hK
    go_simp
    refine (HB.out.2.1 _ HT1.out).mono ?_
    rintro e V1 ⟨rfl, h1, c1⟩
    have HT2 := Lib.hid h1
    have HC2c := Lib.hid (HC1c.out.trans c1)
    have SX1 : Hid (V1.cell? ⟨H, 0, none⟩ = some (ptr L) ∧ V1.cell? ⟨H, 1, none⟩ = some (ptr X) ∧ V1.cell? ⟨H + 1, 3, none⟩ = some (.int .i64 lv) ∧ V1.cell? ⟨H + 1, 4, none⟩ = some (.int .u64 tm)) := ⟨(c1.cell ⟨H, 0, none⟩ (HT1.out.kp (.inr (.inl rfl))) (.inr (.inl rfl))).trans SX.out.1, (c1.cell ⟨H, 1, none⟩ (HT1.out.kp (.inr (.inl rfl))) (.inr (.inl rfl))).trans SX.out.2.1, (c1.cell ⟨H + 1, 3, none⟩ (HT1.out.kp (.inr (.inr rfl))) (.inr (.inr rfl))).trans SX.out.2.2.1, (c1.cell ⟨H + 1, 4, none⟩ (HT1.out.kp (.inr (.inr rfl))) (.inr (.inr rfl))).trans SX.out.2.2.2⟩
    refine hK _ _ SX1.out ?_
    clear hK K h1 c1
    apply wpP_one
    focus rfl
    intro K hK
    go_simp
    refine (HB.out.2.2 _ HT2.out).mono ?_
    rintro e V2 ⟨rfl, h1, c1⟩
    have HT3 := Lib.hid h1
    have HC3c := Lib.hid (HC2c.out.trans c1)
    have SX2 : Hid (V2.cell? ⟨H, 0, none⟩ = some (ptr L) ∧ V2.cell? ⟨H, 1, none⟩ = some (ptr X) ∧ V2.cell? ⟨H + 1, 3, none⟩ = some (.int .i64 lv) ∧ V2.cell? ⟨H + 1, 4, none⟩ = some (.int .u64 tm)) := ⟨(c1.cell ⟨H, 0, none⟩ (HT2.out.kp (.inr (.inl rfl))) (.inr (.inl rfl))).trans SX1.out.1, (c1.cell ⟨H, 1, none⟩ (HT2.out.kp (.inr (.inl rfl))) (.inr (.inl rfl))).trans SX1.out.2.1, (c1.cell ⟨H + 1, 3, none⟩ (HT2.out.kp (.inr (.inr rfl))) (.inr (.inr rfl))).trans SX1.out.2.2.1, (c1.cell ⟨H + 1, 4, none⟩ (HT2.out.kp (.inr (.inr rfl))) (.inr (.inr rfl))).trans SX1.out.2.2.2⟩
    refine hK _ _ SX2.out ?_
    clear hK K h1 c1
    have HC3 : Hid (CT Kp w V2) := HC1.out.trans (CT.less HC3c.out hless)
    iterate 2 (apply wpP_go; (focus rfl); (focus rfl); (focus exact SX2.out); (focus (rintro Q ⟨s0, s1, s2, s3⟩; go_simp; exact rfl)); intro K hK; go_simp; refine hK _ ?_; clear hK K)
    refine wpP_done ?_
    go_wp2_with fail
    go_ret
    exact ⟨rfl, _, HB.out.1, HT3.out.less hless, HC3.out⟩
  · have HB := Lib.hid (two_rel (Kp := fun j => Kp j ∨ (j = H ∨ j = H + 1)) (L := L) (X := X) (n := n) hI.out hid ht hn)
    obtain ⟨s9, hs9⟩ : ∃ z, (relS s t i).2 = z := ⟨_, rfl⟩
    obtain ⟨v9, hv9⟩ : ∃ z, (relS s t i).1 = z := ⟨_, rfl⟩
    rw [hs9, hv9] at HB
    clear hs9 hv9
    have SX : Hid (w3.drew.cell? ⟨H, 0, none⟩ = some (ptr L) ∧ w3.drew.cell? ⟨H, 1, none⟩ = some (ptr X) ∧ w3.drew.cell? ⟨H + 1, 3, none⟩ = some (.int .i64 lv) ∧ w3.drew.cell? ⟨H + 1, 4, none⟩ = some (.int .u64 tm)) := SB.out
    have HT1 : Hid (TW w3.drew (fun j => Kp j ∨ (j = H ∨ j = H + 1)) L X n n s s) := HT.out.below ((Below.refl _ _).drew)
    have HC1 : Hid (CT Kp w w3.drew) := HC.out.drew
    have hless : ∀ j, Kp j → (Kp j ∨ (j = H ∨ j = H + 1)) := fun j h => .inl h
    go_wp2_with fail
    refine wp_region_pl (fun Y => Y.cell? ⟨H, 0, none⟩ = some (ptr L) ∧ Y.cell? ⟨H, 1, none⟩ = some (ptr X) ∧ Y.cell? ⟨H + 1, 3, none⟩ = some (.int .i64 lv) ∧ Y.cell? ⟨H + 1, 4, none⟩ = some (.int .u64 tm)) ((0, 0) :: (1, 0) :: (2, 0) :: (3, 0) :: (5, 0) :: (6, 0) :: (7, 0) :: (8, 0) :: (4, 1) :: (9, 1) :: (10, 0) :: (11, 0) :: []) (by kernel_rfl) (by kernel_rfl) ?_
    iterate 8 (apply wpP_go; (focus rfl); (focus rfl); (focus exact SX.out); (focus (rintro Q ⟨s0, s1, s2, s3⟩; go_simp; exact rfl)); intro K hK; go_simp; refine hK _ ?_; clear hK K)
    have HC1c : Hid (CT (fun j => Kp j ∨ (j = H ∨ j = H + 1)) w3.drew w3.drew) := Ch.refl _ _
    apply wpP_one
    focus rfl
    intro K hK
    go_simp
    refine (HB.out.2.1 _ HT1.out).mono ?_
    rintro e V1 ⟨rfl, h1, c1⟩
    have HT2 := Lib.hid h1
    have HC2c := Lib.hid (HC1c.out.trans c1)
    have SX1 : Hid (V1.cell? ⟨H, 0, none⟩ = some (ptr L) ∧ V1.cell? ⟨H, 1, none⟩ = some (ptr X) ∧ V1.cell? ⟨H + 1, 3, none⟩ = some (.int .i64 lv) ∧ V1.cell? ⟨H + 1, 4, none⟩ = some (.int .u64 tm)) := ⟨(c1.cell ⟨H, 0, none⟩ (HT1.out.kp (.inr (.inl rfl))) (.inr (.inl rfl))).trans SX.out.1, (c1.cell ⟨H, 1, none⟩ (HT1.out.kp (.inr (.inl rfl))) (.inr (.inl rfl))).trans SX.out.2.1, (c1.cell ⟨H + 1, 3, none⟩ (HT1.out.kp (.inr (.inr rfl))) (.inr (.inr rfl))).trans SX.out.2.2.1, (c1.cell ⟨H + 1, 4, none⟩ (HT1.out.kp (.inr (.inr rfl))) (.inr (.inr rfl))).trans SX.out.2.2.2⟩
    refine hK _ _ SX1.out ?_
    clear hK K h1 c1
    apply wpP_one
    focus rfl
    intro K hK
    go_simp
    refine (HB.out.2.2 _ HT2.out).mono ?_
    rintro e V2 ⟨rfl, h1, c1⟩
    have HT3 := Lib.hid h1
    have HC3c := Lib.hid (HC2c.out.trans c1)
    have SX2 : Hid (V2.cell? ⟨H, 0, none⟩ = some (ptr L) ∧ V2.cell? ⟨H, 1, none⟩ = some (ptr X) ∧ V2.cell? ⟨H + 1, 3, none⟩ = some (.int .i64 lv) ∧ V2.cell? ⟨H + 1, 4, none⟩ = some (.int .u64 tm)) := ⟨(c1.cell ⟨H, 0, none⟩ (HT2.out.kp (.inr (.inl rfl))) (.inr (.inl rfl))).trans SX1.out.1, (c1.cell ⟨H, 1, none⟩ (HT2.out.kp (.inr (.inl rfl))) (.inr (.inl rfl))).trans SX1.out.2.1, (c1.cell ⟨H + 1, 3, none⟩ (HT2.out.kp (.inr (.inr rfl))) (.inr (.inr rfl))).trans SX1.out.2.2.1, (c1.cell ⟨H + 1, 4, none⟩ (HT2.out.kp (.inr (.inr rfl))) (.inr (.inr rfl))).trans SX1.out.2.2.2⟩
    refine hK _ _ SX2.out ?_
    clear hK K h1 c1
    have HC3 : Hid (CT Kp w V2) := HC1.out.trans (CT.less HC3c.out hless)
    iterate 2 (apply wpP_go; (focus rfl); (focus rfl); (focus exact SX2.out); (focus (rintro Q ⟨s0, s1, s2, s3⟩; go_simp; exact rfl)); intro K hK; go_simp; refine hK _ ?_; clear hK K)
    refine wpP_done ?_
    go_wp2_with fail
    go_ret
    exact ⟨rfl, _, HB.out.1, HT3.out.less hless, HC3.out⟩
  · have HB := Lib.hid (two_wait (Kp := fun j => Kp j ∨ (j = H ∨ j = H + 1)) (L := L) (X := X) (n := n) hI.out hid ht hn hnow (tmo_in htm))
    obtain ⟨s9, hs9⟩ : ∃ z, (wtS s t i now (tmo tm)).2.2 = z := ⟨_, rfl⟩
    obtain ⟨v1, hv1⟩ : ∃ z, (wtS s t i now (tmo tm)).1 = z := ⟨_, rfl⟩
    obtain ⟨v2, hv2⟩ : ∃ z, (wtS s t i now (tmo tm)).2.1 = z := ⟨_, rfl⟩
    rw [hs9, hv1, hv2] at HB
    clear hs9 hv1 hv2
    have SX : Hid (w3.drew.cell? ⟨H, 0, none⟩ = some (ptr L) ∧ w3.drew.cell? ⟨H, 1, none⟩ = some (ptr X) ∧ w3.drew.cell? ⟨H + 1, 3, none⟩ = some (.int .i64 lv) ∧ w3.drew.cell? ⟨H + 1, 4, none⟩ = some (.int .u64 tm)) := SB.out
    have HT1 : Hid (TW w3.drew (fun j => Kp j ∨ (j = H ∨ j = H + 1)) L X n n s s) := HT.out.below ((Below.refl _ _).drew)
    have HC1 : Hid (CT Kp w w3.drew) := HC.out.drew
    have hless : ∀ j, Kp j → (Kp j ∨ (j = H ∨ j = H + 1)) := fun j h => .inl h
    go_wp2_with fail
    refine wp_region_pl (fun Y => Y.cell? ⟨H, 0, none⟩ = some (ptr L) ∧ Y.cell? ⟨H, 1, none⟩ = some (ptr X) ∧ Y.cell? ⟨H + 1, 3, none⟩ = some (.int .i64 lv) ∧ Y.cell? ⟨H + 1, 4, none⟩ = some (.int .u64 tm)) ((0, 0) :: (1, 0) :: (2, 0) :: (3, 0) :: (4, 0) :: (5, 0) :: (6, 0) :: (7, 0) :: (8, 1) :: (9, 0) :: (10, 0) :: (11, 0) :: (12, 0) :: (13, 0) :: []) (by kernel_rfl) (by kernel_rfl) ?_
    iterate 7 (apply wpP_go; (focus rfl); (focus rfl); (focus exact SX.out); (focus (rintro Q ⟨s0, s1, s2, s3⟩; go_simp; exact rfl)); intro K hK; go_simp; refine hK _ ?_; clear hK K)
    apply wpP_call
    focus rfl
    focus rfl
    focus exact SX.out
    focus (rintro Q ⟨s0, s1, s2, s3⟩; go_simp; exact ⟨rfl, rfl⟩)
    focus (rintro Q _; exact tmo_any tm _ htm)
    intro K hK
    go_simp
    refine hK _ ?_
    clear hK K
    have HC1c : Hid (CT (fun j => Kp j ∨ (j = H ∨ j = H + 1)) w3.drew w3.drew) := Ch.refl _ _
    apply wpP_one
    focus rfl
    intro K hK
    go_simp
    refine (HB.out.2.1 _ HT1.out).mono ?_
    rintro e V1 ⟨rfl, h1, c1⟩
    have HT2 := Lib.hid h1
    have HC2c := Lib.hid (HC1c.out.trans c1)
    have SX1 : Hid (V1.cell? ⟨H, 0, none⟩ = some (ptr L) ∧ V1.cell? ⟨H, 1, none⟩ = some (ptr X) ∧ V1.cell? ⟨H + 1, 3, none⟩ = some (.int .i64 lv) ∧ V1.cell? ⟨H + 1, 4, none⟩ = some (.int .u64 tm)) := ⟨(c1.cell ⟨H, 0, none⟩ (HT1.out.kp (.inr (.inl rfl))) (.inr (.inl rfl))).trans SX.out.1, (c1.cell ⟨H, 1, none⟩ (HT1.out.kp (.inr (.inl rfl))) (.inr (.inl rfl))).trans SX.out.2.1, (c1.cell ⟨H + 1, 3, none⟩ (HT1.out.kp (.inr (.inr rfl))) (.inr (.inr rfl))).trans SX.out.2.2.1, (c1.cell ⟨H + 1, 4, none⟩ (HT1.out.kp (.inr (.inr rfl))) (.inr (.inr rfl))).trans SX.out.2.2.2⟩
    refine hK _ _ SX1.out ?_
    clear hK K h1 c1
    iterate 5 (apply wpP_go; (focus rfl); (focus rfl); (focus exact SX1.out); (focus (rintro Q ⟨s0, s1, s2, s3⟩; go_simp; exact rfl)); intro K hK; go_simp; refine hK _ ?_; clear hK K)
    refine wpP_done ?_
    have SY : Hid (V1.drew.cell? ⟨H, 0, none⟩ = some (ptr L) ∧ V1.drew.cell? ⟨H, 1, none⟩ = some (ptr X) ∧ V1.drew.cell? ⟨H + 1, 3, none⟩ = some (.int .i64 lv) ∧ V1.drew.cell? ⟨H + 1, 4, none⟩ = some (.int .u64 tm)) := SX1.out
    have HT2 : Hid (TW V1.drew (fun j => Kp j ∨ (j = H ∨ j = H + 1)) L X (n + 8) n s9 s) := HT2.out.below ((Below.refl _ _).drew)
    have HC2c : Hid (CT (fun j => Kp j ∨ (j = H ∨ j = H + 1)) w3.drew V1.drew) := HC2c.out.drew
    clear SX SX1
    go_wp2_with fail
    refine wp_region_pl (fun Y => Y.cell? ⟨H, 0, none⟩ = some (ptr L) ∧ Y.cell? ⟨H, 1, none⟩ = some (ptr X) ∧ Y.cell? ⟨H + 1, 3, none⟩ = some (.int .i64 lv) ∧ Y.cell? ⟨H + 1, 4, none⟩ = some (.int .u64 tm)) ((0, 0) :: (1, 0) :: (2, 0) :: (3, 0) :: (4, 0) :: (5, 0) :: (6, 0) :: (7, 0) :: (8, 1) :: (9, 0) :: (10, 0) :: (11, 0) :: (12, 0) :: (13, 0) :: []) (by kernel_rfl) (by kernel_rfl) ?_
    iterate 7 (apply wpP_go; (focus rfl); (focus rfl); (focus exact SY.out); (focus (rintro Q ⟨s0, s1, s2, s3⟩; go_simp; exact rfl)); intro K hK; go_simp; refine hK _ ?_; clear hK K)
    apply wpP_call
    focus rfl
    focus rfl
    focus exact SY.out
    focus (rintro Q ⟨s0, s1, s2, s3⟩; go_simp; exact ⟨rfl, rfl⟩)
    focus (rintro Q _; exact tmo_any tm _ htm)
    intro K hK
    go_simp
    refine hK _ ?_
    clear hK K
    apply wpP_one
    focus rfl
    intro K hK
    go_simp
    refine (HB.out.2.2 _ HT2.out).mono ?_
    rintro e V2 ⟨rfl, h1, c1⟩
    have HT3 := Lib.hid h1
    have HC3c := Lib.hid (HC2c.out.trans c1)
    have SX2 : Hid (V2.cell? ⟨H, 0, none⟩ = some (ptr L) ∧ V2.cell? ⟨H, 1, none⟩ = some (ptr X) ∧ V2.cell? ⟨H + 1, 3, none⟩ = some (.int .i64 lv) ∧ V2.cell? ⟨H + 1, 4, none⟩ = some (.int .u64 tm)) := ⟨(c1.cell ⟨H, 0, none⟩ (HT2.out.kp (.inr (.inl rfl))) (.inr (.inl rfl))).trans SY.out.1, (c1.cell ⟨H, 1, none⟩ (HT2.out.kp (.inr (.inl rfl))) (.inr (.inl rfl))).trans SY.out.2.1, (c1.cell ⟨H + 1, 3, none⟩ (HT2.out.kp (.inr (.inr rfl))) (.inr (.inr rfl))).trans SY.out.2.2.1, (c1.cell ⟨H + 1, 4, none⟩ (HT2.out.kp (.inr (.inr rfl))) (.inr (.inr rfl))).trans SY.out.2.2.2⟩
    refine hK _ _ SX2.out ?_
    clear hK K h1 c1
    iterate 5 (apply wpP_go; (focus rfl); (focus rfl); (focus exact SX2.out); (focus (rintro Q ⟨s0, s1, s2, s3⟩; go_simp; exact rfl)); intro K hK; go_simp; refine hK _ ?_; clear hK K)
    have HC3 : Hid (CT Kp w V2) := HC1.out.trans (CT.less HC3c.out hless)
    refine wpP_done ?_
    go_wp2_with fail
    go_ret
    exact ⟨rfl, _, HB.out.1, HT3.out.less hless, HC3.out⟩
  · have HB := Lib.hid (two_wait (Kp := fun j => Kp j ∨ (j = H ∨ j = H + 1)) (L := L) (X := X) (n := n) hI.out hid ht hn hnow (tmo_in htm))
    obtain ⟨s9, hs9⟩ : ∃ z, (wtS s t i now (tmo tm)).2.2 = z := ⟨_, rfl⟩
    obtain ⟨v1, hv1⟩ : ∃ z, (wtS s t i now (tmo tm)).1 = z := ⟨_, rfl⟩
    obtain ⟨v2, hv2⟩ : ∃ z, (wtS s t i now (tmo tm)).2.1 = z := ⟨_, rfl⟩
    rw [hs9, hv1, hv2] at HB
    clear hs9 hv1 hv2
    have SX : Hid (w3.drew.cell? ⟨H, 0, none⟩ = some (ptr L) ∧ w3.drew.cell? ⟨H, 1, none⟩ = some (ptr X) ∧ w3.drew.cell? ⟨H + 1, 3, none⟩ = some (.int .i64 lv) ∧ w3.drew.cell? ⟨H + 1, 4, none⟩ = some (.int .u64 tm)) := SB.out
    have HT1 : Hid (TW w3.drew (fun j => Kp j ∨ (j = H ∨ j = H + 1)) L X n n s s) := HT.out.below ((Below.refl _ _).drew)
    have HC1 : Hid (CT Kp w w3.drew) := HC.out.drew
    have hless : ∀ j, Kp j → (Kp j ∨ (j = H ∨ j = H + 1)) := fun j h => .inl h
    go_wp2_with fail
    refine wp_region_pl (fun Y => Y.cell? ⟨H, 0, none⟩ = some (ptr L) ∧ Y.cell? ⟨H, 1, none⟩ = some (ptr X) ∧ Y.cell? ⟨H + 1, 3, none⟩ = some (.int .i64 lv) ∧ Y.cell? ⟨H + 1, 4, none⟩ = some (.int .u64 tm)) ((0, 0) :: (1, 0) :: (2, 0) :: (3, 0) :: (4, 0) :: (5, 0) :: (6, 0) :: (7, 0) :: (8, 1) :: (9, 0) :: (10, 0) :: (11, 0) :: (12, 0) :: (13, 0) :: []) (by kernel_rfl) (by kernel_rfl) ?_
    iterate 7 (apply wpP_go; (focus rfl); (focus rfl); (focus exact SX.out); (focus (rintro Q ⟨s0, s1, s2, s3⟩; go_simp; exact rfl)); intro K hK; go_simp; refine hK _ ?_; clear hK K)
    apply wpP_call
    focus rfl
    focus rfl
    focus exact SX.out
    focus (rintro Q ⟨s0, s1, s2, s3⟩; go_simp; exact ⟨rfl, rfl⟩)
    focus (rintro Q _; exact tmo_any tm _ htm)
    intro K hK
    go_simp
    refine hK _ ?_
    clear hK K
    have HC1c : Hid (CT (fun j => Kp j ∨ (j = H ∨ j = H + 1)) w3.drew w3.drew) := Ch.refl _ _
    apply wpP_one
    focus rfl
    intro K hK
    go_simp
    refine (HB.out.2.1 _ HT1.out).mono ?_
    rintro e V1 ⟨rfl, h1, c1⟩
    have HT2 := Lib.hid h1
    have HC2c := Lib.hid (HC1c.out.trans c1)
    have SX1 : Hid (V1.cell? ⟨H, 0, none⟩ = some (ptr L) ∧ V1.cell? ⟨H, 1, none⟩ = some (ptr X) ∧ V1.cell? ⟨H + 1, 3, none⟩ = some (.int .i64 lv) ∧ V1.cell? ⟨H + 1, 4, none⟩ = some (.int .u64 tm)) := ⟨(c1.cell ⟨H, 0, none⟩ (HT1.out.kp (.inr (.inl rfl))) (.inr (.inl rfl))).trans SX.out.1, (c1.cell ⟨H, 1, none⟩ (HT1.out.kp (.inr (.inl rfl))) (.inr (.inl rfl))).trans SX.out.2.1, (c1.cell ⟨H + 1, 3, none⟩ (HT1.out.kp (.inr (.inr rfl))) (.inr (.inr rfl))).trans SX.out.2.2.1, (c1.cell ⟨H + 1, 4, none⟩ (HT1.out.kp (.inr (.inr rfl))) (.inr (.inr rfl))).trans SX.out.2.2.2⟩
    refine hK _ _ SX1.out ?_
    clear hK K h1 c1
    iterate 5 (apply wpP_go; (focus rfl); (focus rfl); (focus exact SX1.out); (focus (rintro Q ⟨s0, s1, s2, s3⟩; go_simp; exact rfl)); intro K hK; go_simp; refine hK _ ?_; clear hK K)
    refine wpP_done ?_
    have SY : Hid (V1.drew.cell? ⟨H, 0, none⟩ = some (ptr L) ∧ V1.drew.cell? ⟨H, 1, none⟩ = some (ptr X) ∧ V1.drew.cell? ⟨H + 1, 3, none⟩ = some (.int .i64 lv) ∧ V1.drew.cell? ⟨H + 1, 4, none⟩ = some (.int .u64 tm)) := SX1.out
    have HT2 : Hid (TW V1.drew (fun j => Kp j ∨ (j = H ∨ j = H + 1)) L X (n + 8) n s9 s) := HT2.out.below ((Below.refl _ _).drew)
    have HC2c : Hid (CT (fun j => Kp j ∨ (j = H ∨ j = H + 1)) w3.drew V1.drew) := HC2c.out.drew
    clear SX SX1
    go_wp2_with fail
    refine wp_region_pl (fun Y => Y.cell? ⟨H, 0, none⟩ = some (ptr L) ∧ Y.cell? ⟨H, 1, none⟩ = some (ptr X) ∧ Y.cell? ⟨H + 1, 3, none⟩ = some (.int .i64 lv) ∧ Y.cell? ⟨H + 1, 4, none⟩ = some (.int .u64 tm)) ((0, 0) :: (1, 0) :: (2, 0) :: (3, 0) :: (4, 0) :: (5, 0) :: (6, 0) :: (7, 0) :: (8, 1) :: (9, 0) :: (10, 0) :: (11, 0) :: (12, 0) :: (13, 0) :: []) (by kernel_rfl) (by kernel_rfl) ?_
    iterate 7 (apply wpP_go; (focus rfl); (focus rfl); (focus exact SY.out); (focus (rintro Q ⟨s0, s1, s2, s3⟩; go_simp; exact rfl)); intro K hK; go_simp; refine hK _ ?_; clear hK K)
    apply wpP_call
    focus rfl
    focus rfl
    focus exact SY.out
    focus (rintro Q ⟨s0, s1, s2, s3⟩; go_simp; exact ⟨rfl, rfl⟩)
    focus (rintro Q _; exact tmo_any tm _ htm)
    intro K hK
    go_simp
    refine hK _ ?_
    clear hK K
    apply wpP_one
    focus rfl
    intro K hK
    go_simp
    refine (HB.out.2.2 _ HT2.out).mono ?_
    rintro e V2 ⟨rfl, h1, c1⟩
    have HT3 := Lib.hid h1
    have HC3c := Lib.hid (HC2c.out.trans c1)
    have SX2 : Hid (V2.cell? ⟨H, 0, none⟩ = some (ptr L) ∧ V2.cell? ⟨H, 1, none⟩ = some (ptr X) ∧ V2.cell? ⟨H + 1, 3, none⟩ = some (.int .i64 lv) ∧ V2.cell? ⟨H + 1, 4, none⟩ = some (.int .u64 tm)) := ⟨(c1.cell ⟨H, 0, none⟩ (HT2.out.kp (.inr (.inl rfl))) (.inr (.inl rfl))).trans SY.out.1, (c1.cell ⟨H, 1, none⟩ (HT2.out.kp (.inr (.inl rfl))) (.inr (.inl rfl))).trans SY.out.2.1, (c1.cell ⟨H + 1, 3, none⟩ (HT2.out.kp (.inr (.inr rfl))) (.inr (.inr rfl))).trans SY.out.2.2.1, (c1.cell ⟨H + 1, 4, none⟩ (HT2.out.kp (.inr (.inr rfl))) (.inr (.inr rfl))).trans SY.out.2.2.2⟩
    refine hK _ _ SX2.out ?_
    clear hK K h1 c1
    iterate 5 (apply wpP_go; (focus rfl); (focus rfl); (focus exact SX2.out); (focus (rintro Q ⟨s0, s1, s2, s3⟩; go_simp; exact rfl)); intro K hK; go_simp; refine hK _ ?_; clear hK K)
    have HC3 : Hid (CT Kp w V2) := HC1.out.trans (CT.less HC3c.out hless)
    refine wpP_done ?_
    go_wp2_with fail
    go_ret
    exact ⟨rfl, _, HB.out.1, HT3.out.less hless, HC3.out⟩
  · have HB := Lib.hid (two_sig (Kp := fun j => Kp j ∨ (j = H ∨ j = H + 1)) (L := L) (X := X) (n := n) hI.out hid hn)
    obtain ⟨s9, hs9⟩ : ∃ z, (sigS s i).2 = z := ⟨_, rfl⟩
    obtain ⟨v9, hv9⟩ : ∃ z, (sigS s i).1 = z := ⟨_, rfl⟩
    rw [hs9, hv9] at HB
    clear hs9 hv9
    have SX : Hid (w3.drew.cell? ⟨H, 0, none⟩ = some (ptr L) ∧ w3.drew.cell? ⟨H, 1, none⟩ = some (ptr X) ∧ w3.drew.cell? ⟨H + 1, 3, none⟩ = some (.int .i64 lv) ∧ w3.drew.cell? ⟨H + 1, 4, none⟩ = some (.int .u64 tm)) := SB.out
    have HT1 : Hid (TW w3.drew (fun j => Kp j ∨ (j = H ∨ j = H + 1)) L X n n s s) := HT.out.below ((Below.refl _ _).drew)
    have HC1 : Hid (CT Kp w w3.drew) := HC.out.drew
    have hless : ∀ j, Kp j → (Kp j ∨ (j = H ∨ j = H + 1)) := fun j h => .inl h
    go_wp2_with fail
    refine wp_region_pl (fun Y => Y.cell? ⟨H, 0, none⟩ = some (ptr L) ∧ Y.cell? ⟨H, 1, none⟩ = some (ptr X) ∧ Y.cell? ⟨H + 1, 3, none⟩ = some (.int .i64 lv) ∧ Y.cell? ⟨H + 1, 4, none⟩ = some (.int .u64 tm)) ((0, 0) :: (1, 0) :: (2, 0) :: (4, 0) :: (5, 0) :: (6, 0) :: (3, 1) :: (7, 1) :: (8, 0) :: (9, 0) :: []) (by kernel_rfl) (by kernel_rfl) ?_
    iterate 6 (apply wpP_go; (focus rfl); (focus rfl); (focus exact SX.out); (focus (rintro Q ⟨s0, s1, s2, s3⟩; go_simp; exact rfl)); intro K hK; go_simp; refine hK _ ?_; clear hK K)
    have HC1c : Hid (CT (fun j => Kp j ∨ (j = H ∨ j = H + 1)) w3.drew w3.drew) := Ch.refl _ _
    apply wpP_one
    focus rfl
    intro K hK
    go_simp
    refine (HB.out.2.1 _ HT1.out).mono ?_
    rintro e V1 ⟨rfl, h1, c1⟩
    have HT2 := Lib.hid h1
    have HC2c := Lib.hid (HC1c.out.trans c1)
    have SX1 : Hid (V1.cell? ⟨H, 0, none⟩ = some (ptr L) ∧ V1.cell? ⟨H, 1, none⟩ = some (ptr X) ∧ V1.cell? ⟨H + 1, 3, none⟩ = some (.int .i64 lv) ∧ V1.cell? ⟨H + 1, 4, none⟩ = some (.int .u64 tm)) := ⟨(c1.cell ⟨H, 0, none⟩ (HT1.out.kp (.inr (.inl rfl))) (.inr (.inl rfl))).trans SX.out.1, (c1.cell ⟨H, 1, none⟩ (HT1.out.kp (.inr (.inl rfl))) (.inr (.inl rfl))).trans SX.out.2.1, (c1.cell ⟨H + 1, 3, none⟩ (HT1.out.kp (.inr (.inr rfl))) (.inr (.inr rfl))).trans SX.out.2.2.1, (c1.cell ⟨H + 1, 4, none⟩ (HT1.out.kp (.inr (.inr rfl))) (.inr (.inr rfl))).trans SX.out.2.2.2⟩
    refine hK _ _ SX1.out ?_
    clear hK K h1 c1
    apply wpP_one
    focus rfl
    intro K hK
    go_simp
    refine (HB.out.2.2 _ HT2.out).mono ?_
    rintro e V2 ⟨rfl, h1, c1⟩
    have HT3 := Lib.hid h1
    have HC3c := Lib.hid (HC2c.out.trans c1)
    have SX2 : Hid (V2.cell? ⟨H, 0, none⟩ = some (ptr L) ∧ V2.cell? ⟨H, 1, none⟩ = some (ptr X) ∧ V2.cell? ⟨H + 1, 3, none⟩ = some (.int .i64 lv) ∧ V2.cell? ⟨H + 1, 4, none⟩ = some (.int .u64 tm)) := ⟨(c1.cell ⟨H, 0, none⟩ (HT2.out.kp (.inr (.inl rfl))) (.inr (.inl rfl))).trans SX1.out.1, (c1.cell ⟨H, 1, none⟩ (HT2.out.kp (.inr (.inl rfl))) (.inr (.inl rfl))).trans SX1.out.2.1, (c1.cell ⟨H + 1, 3, none⟩ (HT2.out.kp (.inr (.inr rfl))) (.inr (.inr rfl))).trans SX1.out.2.2.1, (c1.cell ⟨H + 1, 4, none⟩ (HT2.out.kp (.inr (.inr rfl))) (.inr (.inr rfl))).trans SX1.out.2.2.2⟩
    refine hK _ _ SX2.out ?_
    clear hK K h1 c1
    have HC3 : Hid (CT Kp w V2) := HC1.out.trans (CT.less HC3c.out hless)
    iterate 2 (apply wpP_go; (focus rfl); (focus rfl); (focus exact SX2.out); (focus (rintro Q ⟨s0, s1, s2, s3⟩; go_simp; exact rfl)); intro K hK; go_simp; refine hK _ ?_; clear hK K)
    refine wpP_done ?_
    go_wp2_with fail
    go_ret
    exact ⟨rfl, _, HB.out.1, HT3.out.less hless, HC3.out⟩
  · have HB := Lib.hid (two_sig (Kp := fun j => Kp j ∨ (j = H ∨ j = H + 1)) (L := L) (X := X) (n := n) hI.out hid hn)
    obtain ⟨s9, hs9⟩ : ∃ z, (sigS s i).2 = z := ⟨_, rfl⟩
    obtain ⟨v9, hv9⟩ : ∃ z, (sigS s i).1 = z := ⟨_, rfl⟩
    rw [hs9, hv9] at HB
    clear hs9 hv9
    have SX : Hid (w3.drew.cell? ⟨H, 0, none⟩ = some (ptr L) ∧ w3.drew.cell? ⟨H, 1, none⟩ = some (ptr X) ∧ w3.drew.cell? ⟨H + 1, 3, none⟩ = some (.int .i64 lv) ∧ w3.drew.cell? ⟨H + 1, 4, none⟩ = some (.int .u64 tm)) := SB.out
    have HT1 : Hid (TW w3.drew (fun j => Kp j ∨ (j = H ∨ j = H + 1)) L X n n s s) := HT.out.below ((Below.refl _ _).drew)
    have HC1 : Hid (CT Kp w w3.drew) := HC.out.drew
    have hless : ∀ j, Kp j → (Kp j ∨ (j = H ∨ j = H + 1)) := fun j h => .inl h
    go_wp2_with fail
    refine wp_region_pl (fun Y => Y.cell? ⟨H, 0, none⟩ = some (ptr L) ∧ Y.cell? ⟨H, 1, none⟩ = some (ptr X) ∧ Y.cell? ⟨H + 1, 3, none⟩ = some (.int .i64 lv) ∧ Y.cell? ⟨H + 1, 4, none⟩ = some (.int .u64 tm)) ((0, 0) :: (1, 0) :: (2, 0) :: (4, 0) :: (5, 0) :: (6, 0) :: (3, 1) :: (7, 1) :: (8, 0) :: (9, 0) :: []) (by kernel_rfl) (by kernel_rfl) ?_
    iterate 6 (apply wpP_go; (focus rfl); (focus rfl); (focus exact SX.out); (focus (rintro Q ⟨s0, s1, s2, s3⟩; go_simp; exact rfl)); intro K hK; go_simp; refine hK _ ?_; clear hK K)
    have HC1c : Hid (CT (fun j => Kp j ∨ (j = H ∨ j = H + 1)) w3.drew w3.drew) := Ch.refl _ _
    apply wpP_one
    focus rfl
    intro K hK
    go_simp
    refine (HB.out.2.1 _ HT1.out).mono ?_
    rintro e V1 ⟨rfl, h1, c1⟩
    have HT2 := Lib.hid h1
    have HC2c := Lib.hid (HC1c.out.trans c1)
    have SX1 : Hid (V1.cell? ⟨H, 0, none⟩ = some (ptr L) ∧ V1.cell? ⟨H, 1, none⟩ = some (ptr X) ∧ V1.cell? ⟨H + 1, 3, none⟩ = some (.int .i64 lv) ∧ V1.cell? ⟨H + 1, 4, none⟩ = some (.int .u64 tm)) := ⟨(c1.cell ⟨H, 0, none⟩ (HT1.out.kp (.inr (.inl rfl))) (.inr (.inl rfl))).trans SX.out.1, (c1.cell ⟨H, 1, none⟩ (HT1.out.kp (.inr (.inl rfl))) (.inr (.inl rfl))).trans SX.out.2.1, (c1.cell ⟨H + 1, 3, none⟩ (HT1.out.kp (.inr (.inr rfl))) (.inr (.inr rfl))).trans SX.out.2.2.1, (c1.cell ⟨H + 1, 4, none⟩ (HT1.out.kp (.inr (.inr rfl))) (.inr (.inr rfl))).trans SX.out.2.2.2⟩
    refine hK _ _ SX1.out ?_
    clear hK K h1 c1
    apply wpP_one
    focus rfl
    intro K hK
    go_simp
    refine (HB.out.2.2 _ HT2.out).mono ?_
    rintro e V2 ⟨rfl, h1, c1⟩
    have HT3 := Lib.hid h1
    have HC3c := Lib.hid (HC2c.out.trans c1)
    have SX2 : Hid (V2.cell? ⟨H, 0, none⟩ = some (ptr L) ∧ V2.cell? ⟨H, 1, none⟩ = some (ptr X) ∧ V2.cell? ⟨H + 1, 3, none⟩ = some (.int .i64 lv) ∧ V2.cell? ⟨H + 1, 4, none⟩ = some (.int .u64 tm)) := ⟨(c1.cell ⟨H, 0, none⟩ (HT2.out.kp (.inr (.inl rfl))) (.inr (.inl rfl))).trans SX1.out.1, (c1.cell ⟨H, 1, none⟩ (HT2.out.kp (.inr (.inl rfl))) (.inr (.inl rfl))).trans SX1.out.2.1, (c1.cell ⟨H + 1, 3, none⟩ (HT2.out.kp (.inr (.inr rfl))) (.inr (.inr rfl))).trans SX1.out.2.2.1, (c1.cell ⟨H + 1, 4, none⟩ (HT2.out.kp (.inr (.inr rfl))) (.inr (.inr rfl))).trans SX1.out.2.2.2⟩
    refine hK _ _ SX2.out ?_
    clear hK K h1 c1
    have HC3 : Hid (CT Kp w V2) := HC1.out.trans (CT.less HC3c.out hless)
    iterate 2 (apply wpP_go; (focus rfl); (focus rfl); (focus exact SX2.out); (focus (rintro Q ⟨s0, s1, s2, s3⟩; go_simp; exact rfl)); intro K hK; go_simp; refine hK _ ?_; clear hK K)
    refine wpP_done ?_
    go_wp2_with fail
    go_ret
    exact ⟨rfl, _, HB.out.1, HT3.out.less hless, HC3.out⟩
  · have HB := Lib.hid (two_rst (Kp := fun j => Kp j ∨ (j = H ∨ j = H + 1)) (L := L) (X := X) (n := n) hI.out hid hn)
    obtain ⟨s9, hs9⟩ : ∃ z, (rstS s i).2 = z := ⟨_, rfl⟩
    obtain ⟨v9, hv9⟩ : ∃ z, (rstS s i).1 = z := ⟨_, rfl⟩
    rw [hs9, hv9] at HB
    clear hs9 hv9
    have SX : Hid (w3.drew.cell? ⟨H, 0, none⟩ = some (ptr L) ∧ w3.drew.cell? ⟨H, 1, none⟩ = some (ptr X) ∧ w3.drew.cell? ⟨H + 1, 3, none⟩ = some (.int .i64 lv) ∧ w3.drew.cell? ⟨H + 1, 4, none⟩ = some (.int .u64 tm)) := SB.out
    have HT1 : Hid (TW w3.drew (fun j => Kp j ∨ (j = H ∨ j = H + 1)) L X n n s s) := HT.out.below ((Below.refl _ _).drew)
    have HC1 : Hid (CT Kp w w3.drew) := HC.out.drew
    have hless : ∀ j, Kp j → (Kp j ∨ (j = H ∨ j = H + 1)) := fun j h => .inl h
    go_wp2_with fail
    refine wp_region_pl (fun Y => Y.cell? ⟨H, 0, none⟩ = some (ptr L) ∧ Y.cell? ⟨H, 1, none⟩ = some (ptr X) ∧ Y.cell? ⟨H + 1, 3, none⟩ = some (.int .i64 lv) ∧ Y.cell? ⟨H + 1, 4, none⟩ = some (.int .u64 tm)) ((0, 0) :: (1, 0) :: (2, 0) :: (4, 0) :: (5, 0) :: (6, 0) :: (3, 1) :: (7, 1) :: (8, 0) :: (9, 0) :: []) (by kernel_rfl) (by kernel_rfl) ?_
    iterate 6 (apply wpP_go; (focus rfl); (focus rfl); (focus exact SX.out); (focus (rintro Q ⟨s0, s1, s2, s3⟩; go_simp; exact rfl)); intro K hK; go_simp; refine hK _ ?_; clear hK K)
    have HC1c : Hid (CT (fun j => Kp j ∨ (j = H ∨ j = H + 1)) w3.drew w3.drew) := Ch.refl _ _
    apply wpP_one
    focus rfl
    intro K hK
    go_simp
    refine (HB.out.2.1 _ HT1.out).mono ?_
    rintro e V1 ⟨rfl, h1, c1⟩
    have HT2 := Lib.hid h1
    have HC2c := Lib.hid (HC1c.out.trans c1)
    have SX1 : Hid (V1.cell? ⟨H, 0, none⟩ = some (ptr L) ∧ V1.cell? ⟨H, 1, none⟩ = some (ptr X) ∧ V1.cell? ⟨H + 1, 3, none⟩ = some (.int .i64 lv) ∧ V1.cell? ⟨H + 1, 4, none⟩ = some (.int .u64 tm)) := ⟨(c1.cell ⟨H, 0, none⟩ (HT1.out.kp (.inr (.inl rfl))) (.inr (.inl rfl))).trans SX.out.1, (c1.cell ⟨H, 1, none⟩ (HT1.out.kp (.inr (.inl rfl))) (.inr (.inl rfl))).trans SX.out.2.1, (c1.cell ⟨H + 1, 3, none⟩ (HT1.out.kp (.inr (.inr rfl))) (.inr (.inr rfl))).trans SX.out.2.2.1, (c1.cell ⟨H + 1, 4, none⟩ (HT1.out.kp (.inr (.inr rfl))) (.inr (.inr rfl))).trans SX.out.2.2.2⟩
    refine hK _ _ SX1.out ?_
    clear hK K h1 c1
    apply wpP_one
    focus rfl
    intro K hK
    go_simp
    refine (HB.out.2.2 _ HT2.out).mono ?_
    rintro e V2 ⟨rfl, h1, c1⟩
    have HT3 := Lib.hid h1
    have HC3c := Lib.hid (HC2c.out.trans c1)
    have SX2 : Hid (V2.cell? ⟨H, 0, none⟩ = some (ptr L) ∧ V2.cell? ⟨H, 1, none⟩ = some (ptr X) ∧ V2.cell? ⟨H + 1, 3, none⟩ = some (.int .i64 lv) ∧ V2.cell? ⟨H + 1, 4, none⟩ = some (.int .u64 tm)) := ⟨(c1.cell ⟨H, 0, none⟩ (HT2.out.kp (.inr (.inl rfl))) (.inr (.inl rfl))).trans SX1.out.1, (c1.cell ⟨H, 1, none⟩ (HT2.out.kp (.inr (.inl rfl))) (.inr (.inl rfl))).trans SX1.out.2.1, (c1.cell ⟨H + 1, 3, none⟩ (HT2.out.kp (.inr (.inr rfl))) (.inr (.inr rfl))).trans SX1.out.2.2.1, (c1.cell ⟨H + 1, 4, none⟩ (HT2.out.kp (.inr (.inr rfl))) (.inr (.inr rfl))).trans SX1.out.2.2.2⟩
    refine hK _ _ SX2.out ?_
    clear hK K h1 c1
    have HC3 : Hid (CT Kp w V2) := HC1.out.trans (CT.less HC3c.out hless)
    iterate 2 (apply wpP_go; (focus rfl); (focus rfl); (focus exact SX2.out); (focus (rintro Q ⟨s0, s1, s2, s3⟩; go_simp; exact rfl)); intro K hK; go_simp; refine hK _ ?_; clear hK K)
    refine wpP_done ?_
    go_wp2_with fail
    go_ret
    exact ⟨rfl, _, HB.out.1, HT3.out.less hless, HC3.out⟩
  · have SX : Hid (w3.drew.cell? ⟨H, 0, none⟩ = some (ptr L) ∧ w3.drew.cell? ⟨H, 1, none⟩ = some (ptr X) ∧ w3.drew.cell? ⟨H + 1, 3, none⟩ = some (.int .i64 lv) ∧ w3.drew.cell? ⟨H + 1, 4, none⟩ = some (.int .u64 tm)) := SB.out
    have HT1 : Hid (TW w3.drew (fun j => Kp j ∨ (j = H ∨ j = H + 1)) L X n n s s) := HT.out.below ((Below.refl _ _).drew)
    have HC1 : Hid (CT Kp w w3.drew) := HC.out.drew
    have hless : ∀ j, Kp j → (Kp j ∨ (j = H ∨ j = H + 1)) := fun j h => .inl h
    go_wp2_with fail
    refine wp_region_pl (fun Y => Y.cell? ⟨H, 0, none⟩ = some (ptr L) ∧ Y.cell? ⟨H, 1, none⟩ = some (ptr X) ∧ Y.cell? ⟨H + 1, 3, none⟩ = some (.int .i64 lv) ∧ Y.cell? ⟨H + 1, 4, none⟩ = some (.int .u64 tm)) ((0, 0) :: (1, 0) :: (2, 0) :: (4, 0) :: (5, 0) :: (6, 0) :: (3, 1) :: (7, 1) :: (8, 1) :: (9, 0) :: []) (by kernel_rfl) (by kernel_rfl) ?_
    iterate 6 (apply wpP_go; (focus rfl); (focus rfl); (focus exact SX.out); (focus (rintro Q ⟨s0, s1, s2, s3⟩; go_simp; exact rfl)); intro K hK; go_simp; refine hK _ ?_; clear hK K)
    apply wpP_one
    focus rfl
    intro K hK
    go_simp
    refine (two_exp1 (now := now) HT1.out hI.out hn).mono ?_
    rintro e V1 ⟨v, E, rfl, hp, hm, h1, c1⟩
    have HT2 := Lib.hid h1
    have HP : Hid (E.Pairwise (· < ·) ∧ ∀ i, i ∈ E ↔ exB s now i = true) := ⟨hp, hm⟩
    have HC2 := Lib.hid c1
    have SX1 : Hid (V1.cell? ⟨H, 0, none⟩ = some (ptr L) ∧ V1.cell? ⟨H, 1, none⟩ = some (ptr X) ∧ V1.cell? ⟨H + 1, 3, none⟩ = some (.int .i64 lv) ∧ V1.cell? ⟨H + 1, 4, none⟩ = some (.int .u64 tm)) := ⟨(c1.cell ⟨H, 0, none⟩ (HT1.out.kp (.inr (.inl rfl))) (.inr (.inl rfl))).trans SX.out.1, (c1.cell ⟨H, 1, none⟩ (HT1.out.kp (.inr (.inl rfl))) (.inr (.inl rfl))).trans SX.out.2.1, (c1.cell ⟨H + 1, 3, none⟩ (HT1.out.kp (.inr (.inr rfl))) (.inr (.inr rfl))).trans SX.out.2.2.1, (c1.cell ⟨H + 1, 4, none⟩ (HT1.out.kp (.inr (.inr rfl))) (.inr (.inr rfl))).trans SX.out.2.2.2⟩
    refine hK _ _ SX1.out ?_
    clear hK K h1 c1 hp hm
    apply wpP_one
    focus rfl
    intro K hK
    go_simp
    refine (two_exp2 HT2.out hI.out hn HP.out.1 HP.out.2).mono ?_
    rintro e V2 ⟨v', rfl, ho1, ho2, h2, c2⟩
    have HT3 := Lib.hid h2
    have HO : Hid (OI V2 v E ∧ OI V2 v' E) := ⟨ho1, ho2⟩
    have HC3 : Hid (CT Kp w V2) := (HC1.out.trans (CT.less HC2.out hless)).trans (CT.less c2 hless)
    have htw2 : TW V1 (fun j => Kp j ∨ (j = H ∨ j = H + 1)) L X (n + 8) n (expS s E) s := by obtain ⟨F, D, y, a, b, c, d, _⟩ := HT2.out; exact ⟨F, D, y, a, b, c, d⟩
    have SX2 : Hid (V2.cell? ⟨H, 0, none⟩ = some (ptr L) ∧ V2.cell? ⟨H, 1, none⟩ = some (ptr X) ∧ V2.cell? ⟨H + 1, 3, none⟩ = some (.int .i64 lv) ∧ V2.cell? ⟨H + 1, 4, none⟩ = some (.int .u64 tm)) := ⟨(c2.cell ⟨H, 0, none⟩ (htw2.kp (.inr (.inl rfl))) (.inr (.inl rfl))).trans SX1.out.1, (c2.cell ⟨H, 1, none⟩ (htw2.kp (.inr (.inl rfl))) (.inr (.inl rfl))).trans SX1.out.2.1, (c2.cell ⟨H + 1, 3, none⟩ (htw2.kp (.inr (.inr rfl))) (.inr (.inr rfl))).trans SX1.out.2.2.1, (c2.cell ⟨H + 1, 4, none⟩ (htw2.kp (.inr (.inr rfl))) (.inr (.inr rfl))).trans SX1.out.2.2.2⟩
    refine hK _ _ SX2.out ?_
    clear hK K h2 c2 ho1 ho2 htw2
    have hEl : E.length ≤ 1000000 := by
      have := pigeonT 4 E (HP.out.1.imp (fun h e => by omega)) (fun a ha => by
        have h9 := (HP.out.2 a).1 ha
        rw [exB_T, Bool.and_eq_true] at h9
        exact hI.out.it (of_decide_eq_true h9.1))
      omega
    apply wpP_one
    focus rfl
    intro K hK
    go_simp
    refine (equal_any (E := E) (E' := E) ⟨HO.out.1, fun _ _ h => h⟩ ⟨HO.out.2, fun _ _ h => h⟩ hEl hEl).mono ?_
    rintro e V3 ⟨rfl, b3⟩
    have HT4 := Lib.hid (HT3.out.below b3)
    have HC4 : Hid (CT Kp w V3) := HC3.out.trans (Ch.of_below b3 _)
    have SX3 : Hid (V3.cell? ⟨H, 0, none⟩ = some (ptr L) ∧ V3.cell? ⟨H, 1, none⟩ = some (ptr X) ∧ V3.cell? ⟨H + 1, 3, none⟩ = some (.int .i64 lv) ∧ V3.cell? ⟨H + 1, 4, none⟩ = some (.int .u64 tm)) := ⟨cell_later b3 SX2.out.1, cell_later b3 SX2.out.2.1, cell_later b3 SX2.out.2.2.1, cell_later b3 SX2.out.2.2.2⟩
    refine hK _ _ SX3.out ?_
    clear hK K b3
    iterate 1 (apply wpP_go; (focus rfl); (focus rfl); (focus exact SX3.out); (focus (rintro Q ⟨s0, s1, s2, s3⟩; go_simp; exact rfl)); intro K hK; go_simp; refine hK _ ?_; clear hK K)
    refine wpP_done ?_
    go_wp2_with fail
    go_ret
    refine ⟨by simp, _, exp_SI hI.out HP.out.1 HP.out.2, HT4.out.less hless, HC4.out⟩
  · have HT1 := HT
    have HC1 := HC
    have hless : ∀ j, Kp j → (Kp j ∨ (j = H ∨ j = H + 1)) := fun j h => .inl h
    have b0 := SB.out.1
    go_wp2_with fail
    refine (two_abort1 HT1.out hI.out ht hn).mono ?_
    rintro e V1 ⟨rfl, l, hp, hm, h1, c1⟩
    have HT2 := Lib.hid h1
    have HP : Hid (l.Pairwise (gtO s) ∧ ∀ a, a ∈ l ↔ a ∈ (stT s t).hd) := ⟨hp, hm⟩
    have HC2 : Hid (CT Kp w V1) := HC1.out.trans (CT.less c1 hless)
    have SX1 : Hid (V1.cell? ⟨H, 0, none⟩ = some (ptr L) ∧ V1.cell? ⟨H, 1, none⟩ = some (ptr X) ∧ V1.cell? ⟨H + 1, 3, none⟩ = some (.int .i64 lv) ∧ V1.cell? ⟨H + 1, 4, none⟩ = some (.int .u64 tm)) := ⟨(c1.cell ⟨H, 0, none⟩ (HT1.out.kp (.inr (.inl rfl))) (.inr (.inl rfl))).trans SB.out.1, (c1.cell ⟨H, 1, none⟩ (HT1.out.kp (.inr (.inl rfl))) (.inr (.inl rfl))).trans SB.out.2.1, (c1.cell ⟨H + 1, 3, none⟩ (HT1.out.kp (.inr (.inr rfl))) (.inr (.inr rfl))).trans SB.out.2.2.1, (c1.cell ⟨H + 1, 4, none⟩ (HT1.out.kp (.inr (.inr rfl))) (.inr (.inr rfl))).trans SB.out.2.2.2⟩
    have b1 := SX1.out.2.1
    clear hp hm h1 c1 b0
    go_wp2_with fail
    refine (two_abort2 HT2.out hI.out ht hn HP.out.1 HP.out.2).mono ?_
    rintro e V2 ⟨rfl, h2, c2⟩
    have HT3 := Lib.hid h2
    have HC3 : Hid (CT Kp w V2) := HC2.out.trans (CT.less c2 hless)
    clear h2 c2 b1
    go_wp2_with fail
    go_ret
    exact ⟨rfl, _, (ab_rel hI.out ht HP.out.1 HP.out.2).1, HT3.out.less hless, HC3.out⟩
end
end Go.Proofs.Ytefgfmnnaglfmaa
