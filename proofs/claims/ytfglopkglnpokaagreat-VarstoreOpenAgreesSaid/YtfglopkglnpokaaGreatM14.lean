/- The reference's Open, Format; want; both stores in memory. Conditions: those that each theorem names. -/
import Derived.Test.YtfglopkglnpokaaGreatM13
import Derived.Test.YtfglopkglnpokaaGreatM8
namespace Go.Proofs.YtfglopkglnpokaaGreat
open Go.RowKit
/-- The store under way. -/
def rso (o : Option (Nat × Nat)) (X j : Nat) : Value := if j = 0 then fptr X else if j = 1 then .slice none 0 0 else if j = 2 then (match o with | none => .int .i64 (-1) | some p => .int .i64 p.1) else if j = 3 then (match o with | none => .int .u64 0 | some p => .int .u64 p.2) else if j = 4 then .int .i64 0 else .bool false
section
variable {w w' : World} {D DS : Nat → Prop} {S X : Nat} {st : ST} {y : RLay} {fl : FL}
theorem RW.p64' (h : RW w D X y fl) {b : Nat} (hb : b < fl.B) : P64 (pgsF fl b) := h.p64 hb
set_option maxRecDepth 100000 in
set_option maxHeartbeats 8000000 in
theorem ropen_any (h : RW w D X y fl) : Calls Tryz.prog 19 #[fptr X] w fun e w' => Below w.heap.size w w' ∧
    ((∃ c, opnF fl = (c, none) ∧ e = .returned (.tuple #[.pointer none, .int .i64 c])) ∨
     (∃ st S DS, opnF fl = (0, some st) ∧ e = .returned (.tuple #[fptr S, .int .i64 0]) ∧ (∀ k, DS k → w.heap.size ≤ k) ∧ RS w' DS S X st ∧ st.blk < fl.B)) := by
  have HSM := Lib.hid (rsmall_any h)
  have H := Lib.hid h
  have hB := h.hB
  have hP := h.hP
  have c5 := h.c5
  obtain ⟨sm, hsm⟩ : ∃ sm, (decide (fl.B < 2) || decide (fl.P < 2)) = sm := ⟨_, rfl⟩
  rw [hsm] at HSM
  clear h
  cases sm
  · have hB2 : 2 ≤ fl.B ∧ 2 ≤ fl.P := by simp at hsm; omega
    have hus : (decide (2 ≤ fl.B) && decide (2 ≤ fl.P)) = true := by simp; exact hB2
    have HU := Lib.hid hus
    clear hsm hus
    cases ho : fl.off
    · have HO1 := Lib.hid ho
      rw [ho] at c5
      clear ho
      have R1 : Rg (w.alloc (.cells #[fptr X, .slice none 0 0, .int .i64 (-1), .int .u64 0, .int .i64 0, .bool false] 107)) w.heap.size 107 6 (rso none X) :=
        ⟨_, heap_alloc_new w _, fun i hi => by rcases (by omega : i = 0 ∨ i = 1 ∨ i = 2 ∨ i = 3 ∨ i = 4 ∨ i = 5) with e | e | e | e | e | e <;> subst e <;> rfl⟩
      have B1 : Below w.heap.size w (w.alloc (.cells #[fptr X, .slice none 0 0, .int .i64 (-1), .int .u64 0, .int .i64 0, .bool false] 107)) := (Below.refl _ _).alloc (Nat.le_refl _) _
      have HS0 := Lib.hid R1
      have HB0 := Lib.hid B1
      have HO0 : Hid (opnK fl 0 = none ∧ ∀ b g, (none : Option (Nat × Nat)) = some (b, g) → g ≤ 18446744073709551615) := ⟨rfl, fun b g e => by cases e⟩
      obtain ⟨S, hS⟩ : ∃ S, w.heap.size = S := ⟨_, rfl⟩
      have HSS := Lib.hid hS
      clear R1 B1
      go_enter Tryz.func19, Tryz.ntmps19
      go_wp2_with fail
      refine HSM.out.mono ?_
      rintro e w1 ⟨rfl, rfl⟩
      clear HSM
      go_wp2_with fail
      rw [hS] at HS0
      clear c5 hS
      generalize w.alloc (.cells #[fptr X, .slice none 0 0, .int .i64 (-1), .int .u64 0, .int .i64 0, .bool false] 107) = wa at *
      go_loopw [5] (fun z wr => ∃ (k : Nat) (o : Option (Nat × Nat)), k ≤ fl.B ∧ z = .int .i64 (k : Int) ∧ Hid (opnK fl k = o ∧ ∀ b g, o = some (b, g) → g ≤ 18446744073709551615) ∧ Hid (Rg wr S 107 6 (rso o X)) ∧ Hid (Below w.heap.size w wr)) (fun z _ => fl.B - (intOf z).toNat)
      case atStart => exact ⟨0, none, by omega, rfl, HO0, HS0, HB0⟩
      case round =>
        clear HO0 HS0 HB0
        obtain ⟨k, o, hk, rfl, HO, HS, HB⟩ := hrel
        by_cases hlt : k < fl.B
        · have hkB : (k : Int) < (fl.B : Int) := by omega
          have hrw := H.out.below HB.out
          have h64 := H.out.p64 hlt
          obtain ⟨sb, hsb⟩ : ∃ sb : ByteArray, str ((pgsF fl k).drop 0).flatten = .string sb := ⟨_, rfl⟩
          have hsbl : sb.data.toList = (pgsF fl k).flatten := by injection hsb with hsb; rw [← hsb]; rfl
          have hsz : sb.size = fl.P * 64 := by rw [bsz, hsbl, flat_len _ h64, pgsF_len]
          have hdf : dec (pgsF fl k) = decF sb.data.toList := by rw [hsbl]; exact dec_flat h64
          have HBK := Lib.hid (rblock_any hrw hlt (Nat.zero_le fl.P))
          rw [hsb] at HBK
          have HRD := Lib.hid (rread_any sb wr (by omega) (by omega))
          rw [← hdf] at HRD
          have k1 := hrw.c0
          have hok3 : ∀ a n v c, dec (pgsF fl k) = some (a, n, v, c) → okLens a n.length v.length = true := fun a n v c e => (dec_some h64 e).1
          have HOK := Lib.hid hok3
          have hsuc : opnK fl (k + 1) = pickG (opnK fl k) k (hdrG (pgsF fl k)) := rfl
          rw [HO.out.1] at hsuc
          have HSUC := Lib.hid hsuc
          clear hsb hsbl hsz hdf hok3 hsuc h64 hrw
          go_wp2_with fail
          refine HBK.out.mono ?_
          rintro e w4 ⟨rfl, rfl⟩
          go_wp2_with fail
          refine HRD.out.mono ?_
          rintro e w5 ⟨k0, n0, v0, c0, okb, rfl, hro, b5⟩
          have HRO := Lib.hid hro
          have HB5 : Hid (Below w.heap.size w w5) := HB.out.trans (b5.mono HB.out.size)
          have HS5 := Lib.hid (HS.out.ch (Ch.of_below b5 (fun _ => False)) id)
          have hT0 : Row (w5.alloc (.cells #[.int .u8 0, .string ⟨#[]⟩, .string ⟨#[]⟩, .int .i64 0] 109)) w5.heap.size 109 4 (fun j => if j = 0 then .int .u8 0 else if j = 1 then .string ⟨#[]⟩ else if j = 2 then .string ⟨#[]⟩ else .int .i64 0) := Row.ofList w5 109 _ _ 4 rfl
          have b4 : Below w5.heap.size w5 (w5.alloc (.cells #[.int .u8 0, .string ⟨#[]⟩, .string ⟨#[]⟩, .int .i64 0] 109)) := (Below.refl _ _).alloc (Nat.le_refl _) _
          obtain ⟨T, hT⟩ : ∃ T, w5.heap.size = T := ⟨_, rfl⟩
          obtain ⟨V2, hV2⟩ : ∃ V2, w5.alloc (.cells #[.int .u8 0, .string ⟨#[]⟩, .string ⟨#[]⟩, .int .i64 0] 109) = V2 := ⟨_, rfl⟩
          have hTS : T ≠ S := by have := HS5.out.lt; omega
          have hTw : w.heap.size ≤ T := by rw [← hT]; exact HB5.out.size
          rw [hT, hV2] at hT0
          rw [hV2] at b4
          have hS2 := HS5.out.ch (Ch.of_below b4 (fun _ => False)) id
          have hB2' := HB5.out.trans (b4.mono HB5.out.size)
          have r0 := hT0.cell (i := 0) (by omega)
          have r1 := hT0.cell (i := 1) (by omega)
          have r2 := hT0.cell (i := 2) (by omega)
          have r3 := hT0.cell (i := 3) (by omega)
          have f0 := hT0.frozen 0
          have f1 := hT0.frozen 1
          have f2 := hT0.frozen 2
          have f3 := hT0.frozen 3
          have HT6 : Hid (Row ((((V2.setCell ⟨T, 0, none⟩ (.int .u8 k0)).setCell ⟨T, 1, none⟩ (.string n0)).setCell ⟨T, 2, none⟩ (.string v0)).setCell ⟨T, 3, none⟩ (.int .i64 c0)) T 109 4 (fun j => if j = 0 then .int .u8 k0 else if j = 1 then .string n0 else if j = 2 then .string v0 else .int .i64 c0)) := (hT0.set4 (.int .u8 k0) (.string n0) (.string v0) (.int .i64 c0)).congr fun j hj => by
            rcases (by omega : j = 0 ∨ j = 1 ∨ j = 2 ∨ j = 3) with e | e | e | e <;> subst e <;> simp
          have HS6 : Hid (Rg ((((V2.setCell ⟨T, 0, none⟩ (.int .u8 k0)).setCell ⟨T, 1, none⟩ (.string n0)).setCell ⟨T, 2, none⟩ (.string v0)).setCell ⟨T, 3, none⟩ (.int .i64 c0)) S 107 6 (rso o X)) := (((hS2.far (p := ⟨T, 0, none⟩) hTS (.int .u8 k0)).far (p := ⟨T, 1, none⟩) hTS (.string n0)).far (p := ⟨T, 2, none⟩) hTS (.string v0)).far (p := ⟨T, 3, none⟩) hTS (.int .i64 c0)
          have HB6 : Hid (Below w.heap.size w ((((V2.setCell ⟨T, 0, none⟩ (.int .u8 k0)).setCell ⟨T, 1, none⟩ (.string n0)).setCell ⟨T, 2, none⟩ (.string v0)).setCell ⟨T, 3, none⟩ (.int .i64 c0))) := (((hB2'.setCell (p := ⟨T, 0, none⟩) hTw _).setCell (p := ⟨T, 1, none⟩) hTw _).setCell (p := ⟨T, 2, none⟩) hTw _).setCell (p := ⟨T, 3, none⟩) hTw _
          clear hro b5 HBK HRD HB HS k1 b4 hT0 hS2 hB2' HS5 HB5
          go_wp2_with fail
          clear hT hV2 r0 r1 r2 r3 f0 f1 f2 f3
          generalize ((((V2.setCell ⟨T, 0, none⟩ (.int .u8 k0)).setCell ⟨T, 1, none⟩ (.string n0)).setCell ⟨T, 2, none⟩ (.string v0)).setCell ⟨T, 3, none⟩ (.int .i64 c0)) = w6 at *
          rcases hdec : dec (pgsF fl k) with _ | ⟨kd, n, v, c⟩
          · have hokb := HRO.out.2 hdec
            subst hokb
            have HNX : Hid (opnK fl (k + 1) = o ∧ ∀ b g, o = some (b, g) → g ≤ 18446744073709551615) := ⟨by rw [HSUC.out, hdrG_no hdec]; rfl, HO.out.2⟩
            clear hdec HRO HOK HSUC HO
            refine wp_region_pl (fun Y => Y = w6.drew) ((0, 0) :: (1, 0) :: (2, 0) :: (3, 0) :: (4, 0) :: (5, 0) :: (6, 0) :: (7, 0) :: (8, 0) :: (9, 0) :: (10, 0) :: (11, 0) :: (12, 0) :: (13, 0) :: (14, 0) :: (15, 0) :: (16, 0) :: (17, 0) :: (18, 0) :: (19, 0) :: (20, 0) :: (21, 0) :: (22, 0) :: []) (by kernel_rfl) (by kernel_rfl) ?_
            iterate 2 (apply wpP_go; (focus rfl); (focus rfl); (focus exact rfl); (focus (rintro Z rfl; go_simp; exact rfl)); intro K hK; go_simp; refine hK _ ?_; clear hK K)
            iterate 3 (apply wpP_not; (focus rfl); (focus rfl); (focus exact rfl); intro K hK; go_simp; refine hK _ ?_; clear hK K)
            iterate 2 (apply wpP_go; (focus rfl); (focus rfl); (focus exact rfl); (focus (rintro Z rfl; go_simp; exact rfl)); intro K hK; go_simp; refine hK _ ?_; clear hK K)
            iterate 15 (apply wpP_not; (focus rfl); (focus rfl); (focus exact rfl); intro K hK; go_simp; refine hK _ ?_; clear hK K)
            iterate 1 (apply wpP_go; (focus rfl); (focus rfl); (focus exact rfl); (focus (rintro Z rfl; go_simp; exact rfl)); intro K hK; go_simp; refine hK _ ?_; clear hK K)
            refine wpP_done ?_
            have HS7 : Hid (Rg w6.drew S 107 6 (rso o X)) := HS6.out.ch ((Ch.refl (fun _ => False) w6).drew) id
            have HB7 : Hid (Below w.heap.size w w6.drew) := HB6.out.drew
            clear HS6 HB6 HT6
            skip
            generalize w6.drew = W7 at *
            go_wp2_with fail
            go_roundw
            case rel => exact ⟨k + 1, o, by omega, by go_num, HNX, HS7, HB7⟩
            case measure => simp [intOf]; omega
          · obtain ⟨hokb, q0, q1, q2, q3⟩ := HRO.out.1 _ _ _ _ hdec
            subst hokb
            injection q0 with _ q0
            injection q3 with _ q3
            have q2' : v0.data.toList = v := by injection q2 with q2; rw [q2]
            subst q0 q3
            have hol := HOK.out _ _ _ _ hdec
            have hk8 := okLens_k hol
            by_cases hk3 : kd = 3
            · subst hk3
              have hv8 : v0.size = 8 := by
                rw [bsz, q2']
                unfold okLens at hol
                simp at hol
                exact hol.2
              have hh3 := hdrG_3 hdec
              rw [hh3, ← q2'] at HSUC
              have hgb : numB v0.data.toList ≤ 18446744073709551615 := by have h1 := numB_lt v0.data.toList; rw [show v0.data.toList.length = 8 from hv8] at h1; omega
              have HNUM : Hid (∀ W, Calls Tryz.prog 61 #[.string v0] W fun e w' => e = .returned (.int .u64 ((numB v0.data.toList : Nat) : Int)) ∧ W = w') := fun W => rnumber_any v0 W hv8
              obtain ⟨gn, hgn⟩ : ∃ gn, numB v0.data.toList = gn := ⟨_, rfl⟩
              rw [hgn] at HSUC hgb HNUM
              clear hdec HRO HOK q1 q2 q2' hol hk8 hh3 hgn
              rcases o with _ | ⟨ob, og⟩
              · have HNX : Hid (opnK fl (k + 1) = some (k, gn) ∧ ∀ b g, some (k, gn) = some (b, g) → g ≤ 18446744073709551615) := ⟨by rw [HSUC.out]; rfl, fun b g e => by injection e with e; injection e with e1 e2; rw [← e2]; exact hgb⟩
                clear HSUC HO
                have m2 : w6.drew.cell? ⟨S, 2, none⟩ = some (.int .i64 (-1)) := HS6.out.cell (i := 2) (by omega)
                have t0 : w6.drew.cell? ⟨T, 0, none⟩ = some (.int .u8 3) := HT6.out.cell (i := 0) (by omega)
                refine wp_region_pl (fun Y => Y = w6.drew) ((0, 0) :: (1, 0) :: (2, 0) :: (3, 0) :: (4, 0) :: (5, 0) :: (6, 0) :: (7, 0) :: (8, 0) :: (9, 0) :: (10, 0) :: (11, 0) :: (12, 0) :: (13, 0) :: (14, 0) :: (15, 0) :: (16, 0) :: (17, 0) :: (18, 0) :: (19, 0) :: (20, 0) :: (21, 0) :: (22, 0) :: []) (by kernel_rfl) (by kernel_rfl) ?_
                iterate 13 (apply wpP_go; (focus rfl); (focus rfl); (focus exact rfl); (focus (rintro Z rfl; go_simp; exact rfl)); intro K hK; go_simp; refine hK _ ?_; clear hK K)
                iterate 8 (apply wpP_not; (focus rfl); (focus rfl); (focus exact rfl); intro K hK; go_simp; refine hK _ ?_; clear hK K)
                iterate 2 (apply wpP_go; (focus rfl); (focus rfl); (focus exact rfl); (focus (rintro Z rfl; go_simp; exact rfl)); intro K hK; go_simp; refine hK _ ?_; clear hK K)
                refine wpP_done ?_
                have HS7 : Hid (Rg w6.drew S 107 6 (rso none X)) := HS6.out.ch ((Ch.refl (fun _ => False) w6).drew) id
                have HB7 : Hid (Below w.heap.size w w6.drew) := HB6.out.drew
                have HT7 : Hid (Row w6.drew T 109 4 (fun j => if j = 0 then .int .u8 3 else if j = 1 then .string n0 else if j = 2 then .string v0 else .int .i64 c)) := HT6.out.drew
                clear HS6 HB6 HT6
                clear m2 t0
                generalize w6.drew = W7 at *
                have e2 := HT7.out.cell (i := 2) (by omega)
                have p0 := HS7.out.cell (i := 2) (by omega)
                have g0 := HS7.out.frozen 2
                have r1' := HS7.out.set (i := 2) (by omega) (.int .i64 (k : Int))
                have p1 := r1'.cell (i := 3) (by omega)
                have g1 := r1'.frozen 3
                have r2' := r1'.set (i := 3) (by omega) (.int .u64 ((gn : Nat) : Int))
                have HS8 : Hid (Rg ((W7.setCell ⟨S, 2, none⟩ (.int .i64 (k : Int))).setCell ⟨S, 3, none⟩ (.int .u64 ((gn : Nat) : Int))) S 107 6 (rso (some (k, gn)) X)) := r2'.congr fun j hj => by
                  rcases (by omega : j = 0 ∨ j = 1 ∨ j = 2 ∨ j = 3 ∨ j = 4 ∨ j = 5) with e | e | e | e | e | e <;> subst e <;> simp [upd, rso]
                have HB8 : Hid (Below w.heap.size w ((W7.setCell ⟨S, 2, none⟩ (.int .i64 (k : Int))).setCell ⟨S, 3, none⟩ (.int .u64 ((gn : Nat) : Int)))) := (HB7.out.setCell (p := ⟨S, 2, none⟩) (by rw [← HSS.out]; exact Nat.le_refl _) _).setCell (p := ⟨S, 3, none⟩) (by rw [← HSS.out]; exact Nat.le_refl _) _
                clear r1' r2' HS7 HB7 HT7
                go_wp2_with fail
                refine (HNUM.out _).mono ?_
                rintro e w8 ⟨rfl, rfl⟩
                go_wp2_with fail
                clear p0 p1 g0 g1 e2
                go_roundw
                case rel => exact ⟨k + 1, some (k, gn), by omega, by go_num, HNX, HS8, HB8⟩
                case measure => simp [intOf]; omega
              · have hog := HO.out.2 _ _ rfl
                by_cases hgt : og < gn
                · have HNX : Hid (opnK fl (k + 1) = some (k, gn) ∧ ∀ b g, some (k, gn) = some (b, g) → g ≤ 18446744073709551615) := ⟨by rw [HSUC.out]; show (if og < gn then _ else _) = _; rw [if_pos hgt], fun b g e => by injection e with e; injection e with e1 e2; rw [← e2]; exact hgb⟩
                  clear HSUC HO
                  have m2 : w6.drew.cell? ⟨S, 2, none⟩ = some (.int .i64 ob) := HS6.out.cell (i := 2) (by omega)
                  have m3 : w6.drew.cell? ⟨S, 3, none⟩ = some (.int .u64 og) := HS6.out.cell (i := 3) (by omega)
                  have t0 : w6.drew.cell? ⟨T, 0, none⟩ = some (.int .u8 3) := HT6.out.cell (i := 0) (by omega)
                  have t2 : w6.drew.cell? ⟨T, 2, none⟩ = some (.string v0) := HT6.out.cell (i := 2) (by omega)
                  have hnb : decide ((ob : Int) < 0) = false := by simp
                  have hnbI : ¬ (ob : Int) < 0 := by omega
                  have hgtd : decide ((gn : Int) > (og : Int)) = true := by simp; omega
                  have hgtI : (gn : Int) > (og : Int) := by omega
                  refine wp_region_pl (fun Y => Y = w6.drew) ((0, 0) :: (1, 0) :: (2, 0) :: (3, 0) :: (4, 0) :: (5, 0) :: (6, 0) :: (7, 0) :: (8, 0) :: (9, 0) :: (10, 0) :: (11, 0) :: (12, 0) :: (13, 0) :: (14, 0) :: (15, 0) :: (16, 0) :: (17, 0) :: (18, 0) :: (19, 0) :: (20, 0) :: (21, 0) :: (22, 0) :: []) (by kernel_rfl) (by kernel_rfl) ?_
                  iterate 15 (apply wpP_go; (focus rfl); (focus rfl); (focus exact rfl); (focus (rintro Z rfl; go_simp; exact rfl)); intro K hK; go_simp; refine hK _ ?_; clear hK K)
                  apply wpP_call
                  focus rfl
                  focus rfl
                  focus exact rfl
                  focus (rintro Z rfl; go_simp; exact ⟨rfl, rfl⟩)
                  focus (rintro Z rfl; exact HNUM.out _)
                  intro K hK
                  go_simp
                  refine hK _ ?_
                  clear hK K
                  iterate 7 (apply wpP_go; (focus rfl); (focus rfl); (focus exact rfl); (focus (rintro Z rfl; go_simp; exact rfl)); intro K hK; go_simp; refine hK _ ?_; clear hK K)
                  refine wpP_done ?_
                  have HS7 : Hid (Rg w6.drew S 107 6 (rso (some (ob, og)) X)) := HS6.out.ch ((Ch.refl (fun _ => False) w6).drew) id
                  have HB7 : Hid (Below w.heap.size w w6.drew) := HB6.out.drew
                  have HT7 : Hid (Row w6.drew T 109 4 (fun j => if j = 0 then .int .u8 3 else if j = 1 then .string n0 else if j = 2 then .string v0 else .int .i64 c)) := HT6.out.drew
                  clear HS6 HB6 HT6
                  clear m2 m3 t0 t2
                  generalize w6.drew = W7 at *
                  have e2 := HT7.out.cell (i := 2) (by omega)
                  have p0 := HS7.out.cell (i := 2) (by omega)
                  have g0 := HS7.out.frozen 2
                  have r1' := HS7.out.set (i := 2) (by omega) (.int .i64 (k : Int))
                  have p1 := r1'.cell (i := 3) (by omega)
                  have g1 := r1'.frozen 3
                  have r2' := r1'.set (i := 3) (by omega) (.int .u64 ((gn : Nat) : Int))
                  have HS8 : Hid (Rg ((W7.setCell ⟨S, 2, none⟩ (.int .i64 (k : Int))).setCell ⟨S, 3, none⟩ (.int .u64 ((gn : Nat) : Int))) S 107 6 (rso (some (k, gn)) X)) := r2'.congr fun j hj => by
                    rcases (by omega : j = 0 ∨ j = 1 ∨ j = 2 ∨ j = 3 ∨ j = 4 ∨ j = 5) with e | e | e | e | e | e <;> subst e <;> simp [upd, rso]
                  have HB8 : Hid (Below w.heap.size w ((W7.setCell ⟨S, 2, none⟩ (.int .i64 (k : Int))).setCell ⟨S, 3, none⟩ (.int .u64 ((gn : Nat) : Int)))) := (HB7.out.setCell (p := ⟨S, 2, none⟩) (by rw [← HSS.out]; exact Nat.le_refl _) _).setCell (p := ⟨S, 3, none⟩) (by rw [← HSS.out]; exact Nat.le_refl _) _
                  clear r1' r2' HS7 HB7 HT7
                  go_wp2_with fail
                  refine (HNUM.out _).mono ?_
                  rintro e w8 ⟨rfl, rfl⟩
                  go_wp2_with fail
                  clear p0 p1 g0 g1 e2
                  go_roundw
                  case rel => exact ⟨k + 1, some (k, gn), by omega, by go_num, HNX, HS8, HB8⟩
                  case measure => simp [intOf]; omega
                · have HNX : Hid (opnK fl (k + 1) = some (ob, og) ∧ ∀ b g, some (ob, og) = some (b, g) → g ≤ 18446744073709551615) := ⟨by rw [HSUC.out]; show (if og < gn then _ else _) = _; rw [if_neg hgt], HO.out.2⟩
                  clear HSUC HO
                  have m2 : w6.drew.cell? ⟨S, 2, none⟩ = some (.int .i64 ob) := HS6.out.cell (i := 2) (by omega)
                  have m3 : w6.drew.cell? ⟨S, 3, none⟩ = some (.int .u64 og) := HS6.out.cell (i := 3) (by omega)
                  have t0 : w6.drew.cell? ⟨T, 0, none⟩ = some (.int .u8 3) := HT6.out.cell (i := 0) (by omega)
                  have t2 : w6.drew.cell? ⟨T, 2, none⟩ = some (.string v0) := HT6.out.cell (i := 2) (by omega)
                  have hnb : decide ((ob : Int) < 0) = false := by simp
                  have hnbI : ¬ (ob : Int) < 0 := by omega
                  have hgtd : decide ((gn : Int) > (og : Int)) = false := by simp; omega
                  have hgtI : ¬ (gn : Int) > (og : Int) := by omega
                  refine wp_region_pl (fun Y => Y = w6.drew) ((0, 0) :: (1, 0) :: (2, 0) :: (3, 0) :: (4, 0) :: (5, 0) :: (6, 0) :: (7, 0) :: (8, 0) :: (9, 0) :: (10, 0) :: (11, 0) :: (12, 0) :: (13, 0) :: (14, 0) :: (15, 0) :: (16, 0) :: (17, 0) :: (18, 0) :: (19, 0) :: (20, 0) :: (21, 0) :: (22, 0) :: []) (by kernel_rfl) (by kernel_rfl) ?_
                  iterate 15 (apply wpP_go; (focus rfl); (focus rfl); (focus exact rfl); (focus (rintro Z rfl; go_simp; exact rfl)); intro K hK; go_simp; refine hK _ ?_; clear hK K)
                  apply wpP_call
                  focus rfl
                  focus rfl
                  focus exact rfl
                  focus (rintro Z rfl; go_simp; exact ⟨rfl, rfl⟩)
                  focus (rintro Z rfl; exact HNUM.out _)
                  intro K hK
                  go_simp
                  refine hK _ ?_
                  clear hK K
                  iterate 7 (apply wpP_go; (focus rfl); (focus rfl); (focus exact rfl); (focus (rintro Z rfl; go_simp; exact rfl)); intro K hK; go_simp; refine hK _ ?_; clear hK K)
                  refine wpP_done ?_
                  have HS7 : Hid (Rg w6.drew S 107 6 (rso (some (ob, og)) X)) := HS6.out.ch ((Ch.refl (fun _ => False) w6).drew) id
                  have HB7 : Hid (Below w.heap.size w w6.drew) := HB6.out.drew
                  clear HS6 HB6 HT6
                  clear m2 m3 t0 t2
                  generalize w6.drew = W7 at *
                  go_wp2_with fail
                  go_roundw
                  case rel => exact ⟨k + 1, (some (ob, og)), by omega, by go_num, HNX, HS7, HB7⟩
                  case measure => simp [intOf]; omega
            · have HNX : Hid (opnK fl (k + 1) = o ∧ ∀ b g, o = some (b, g) → g ≤ 18446744073709551615) := ⟨by rw [HSUC.out, hdrG_k hdec hk3]; rfl, HO.out.2⟩
              have hkb : ((kd : Int) == 3) = false := by rw [beq_eq_false_iff_ne]; omega
              clear hdec HRO HOK HSUC HO q1 q2 q2' hol
              have t0 : w6.drew.cell? ⟨T, 0, none⟩ = some (.int .u8 kd) := HT6.out.cell (i := 0) (by omega)
              refine wp_region_pl (fun Y => Y = w6.drew) ((0, 0) :: (1, 0) :: (2, 0) :: (3, 0) :: (4, 0) :: (5, 0) :: (6, 0) :: (7, 0) :: (8, 0) :: (9, 0) :: (10, 0) :: (11, 0) :: (12, 0) :: (13, 0) :: (14, 0) :: (15, 0) :: (16, 0) :: (17, 0) :: (18, 0) :: (19, 0) :: (20, 0) :: (21, 0) :: (22, 0) :: []) (by kernel_rfl) (by kernel_rfl) ?_
              iterate 7 (apply wpP_go; (focus rfl); (focus rfl); (focus exact rfl); (focus (rintro Z rfl; go_simp; exact rfl)); intro K hK; go_simp; refine hK _ ?_; clear hK K)
              iterate 15 (apply wpP_not; (focus rfl); (focus rfl); (focus exact rfl); intro K hK; go_simp; refine hK _ ?_; clear hK K)
              iterate 1 (apply wpP_go; (focus rfl); (focus rfl); (focus exact rfl); (focus (rintro Z rfl; go_simp; exact rfl)); intro K hK; go_simp; refine hK _ ?_; clear hK K)
              refine wpP_done ?_
              have HS7 : Hid (Rg w6.drew S 107 6 (rso o X)) := HS6.out.ch ((Ch.refl (fun _ => False) w6).drew) id
              have HB7 : Hid (Below w.heap.size w w6.drew) := HB6.out.drew
              clear HS6 HB6 HT6
              clear t0
              generalize w6.drew = W7 at *
              go_wp2_with fail
              go_roundw
              case rel => exact ⟨k + 1, o, by omega, by go_num, HNX, HS7, HB7⟩
              case measure => simp [intOf]; omega
        · have y0 : ¬ (k : Int) < (fl.B : Int) := by omega
          have hkB : k = fl.B := by omega
          subst hkB
          have k1 := (H.out.below HB.out).c0
          have m2 := HS.out.cell (i := 2) (by omega)
          rcases o with _ | ⟨ob, og⟩
          · have HE : Hid (opnF fl = (6, none)) := by
              show _ = _; unfold opnF; rw [if_neg (by rw [HU.out]; exact Bool.noConfusion), if_neg (by rw [HO1.out]; exact Bool.noConfusion), HO.out.1]
            have m2' : wr.cell? ⟨S, 2, none⟩ = some (.int .i64 (-1)) := m2
            clear m2
            go_wp2_with fail
            go_ret2
            exact ⟨HB.out, .inl ⟨6, HE.out, rfl⟩⟩
          · have hob := opnK_lt fl _ _ _ HO.out.1
            have m2' : wr.cell? ⟨S, 2, none⟩ = some (.int .i64 ob) := m2
            have hnb : decide ((ob : Int) < 0) = false := by simp
            have hnbI : ¬ (ob : Int) < 0 := by omega
            have hog := HO.out.2 _ _ rfl
            have HE : Hid (opnF fl = (0, some ⟨(rpl fl.P (pgsF fl ob) [] 1).1, ob, og, (rpl fl.P (pgsF fl ob) [] 1).2.1, (rpl fl.P (pgsF fl ob) [] 1).2.2⟩)) := by
              show _ = _; unfold opnF; rw [if_neg (by rw [HU.out]; exact Bool.noConfusion), if_neg (by rw [HO1.out]; exact Bool.noConfusion), HO.out.1]
            have hSlt := HS.out.lt
            have HRS : Hid (RS wr (fun k => k = S) S X ⟨[], ob, og, 0, false⟩) := ⟨⟨none, 0, HS.out.congr fun j hj => by
                rcases (by omega : j = 0 ∨ j = 1 ∨ j = 2 ∨ j = 3 ∨ j = 4 ∨ j = 5) with e | e | e | e | e | e <;> subst e <;> rfl, ⟨Nat.le_refl _, by unfold maxLen; omega, fun k => absurd rfl k⟩, fun g e => by cases e⟩, rfl, fun k hk => by rw [hk]; exact hSlt, List.Pairwise.nil, fun p hp => (by cases hp), hog, by show 0 ≤ 900; omega, by show ob ≤ 1000; omega, by show 0 ≤ 0 + 1; omega⟩
            have HSC := Lib.hid (rscan_any HRS.out (H.out.below HB.out) (fun k hk e => by have := H.out.fin k hk; have := HSS.out; omega) hob)
            clear m2 HO HS
            go_wp2_with fail
            refine HSC.out.mono ?_
            rintro e w9 ⟨rfl, ⟨D', hD', hr9⟩, c9⟩
            have HR9 := Lib.hid hr9
            have HD9 := Lib.hid hD'
            have HB9 : Hid (Below w.heap.size w w9) := HB.out.trans (c9.below HB.out.size (fun x hx => by rw [hx, ← HSS.out]; exact Nat.le_refl _) |>.mono (Nat.le_refl _))
            clear hr9 hD' c9 HSC
            go_wp2_with fail
            go_ret2
            refine ⟨HB9.out, .inr ⟨_, S, D', HE.out, rfl, fun i hi => ?_, HR9.out, hob⟩⟩
            rcases HD9.out i hi with e | e
            · rw [e, ← HSS.out]; exact Nat.le_refl _
            · exact Nat.le_trans HB.out.size e
    · have HE : Hid (opnF fl = (16, none)) := by show _ = _; unfold opnF; rw [if_neg (by rw [HU.out]; exact Bool.noConfusion), if_pos ho]
      rw [ho] at c5
      clear ho
      go_enter Tryz.func19, Tryz.ntmps19
      go_wp2_with fail
      refine HSM.out.mono ?_
      rintro e w1 ⟨rfl, rfl⟩
      go_wp2_with fail
      go_ret2
      exact ⟨Below.refl _ _, .inl ⟨16, HE.out, rfl⟩⟩
  · have HE : Hid (opnF fl = (1, none)) := by
      show _ = _; unfold opnF; rw [if_pos (by simp at hsm; simp; omega)]
    clear hsm c5
    go_enter Tryz.func19, Tryz.ntmps19
    go_wp2_with fail
    refine HSM.out.mono ?_
    rintro e w1 ⟨rfl, rfl⟩
    go_wp2_with fail
    go_ret2
    exact ⟨Below.refl _ _, .inl ⟨1, HE.out, rfl⟩⟩
end
end Go.Proofs.YtfglopkglnpokaaGreat
namespace Go.Proofs.YtfglopkglnpokaaGreat
open Go.RowKit
theorem least_le (fl : FL) : ∀ k, least fl k ≤ k - 1
  | 0 => Nat.le_refl _
  | k + 1 => by
    rw [least_succ]
    have := least_le fl k
    split <;> omega
section
variable {w w' : World} {D D' DS : Nat → Prop} {S X X' : Nat} {st : ST} {y : RLay} {yf : FLay} {fl : FL}
set_option maxRecDepth 100000 in
set_option maxHeartbeats 4000000 in
theorem rformat_any (h : RW w D X y fl) (ho : fl.off = false) (hbl : ∀ b, blankP (pgsF fl b) = true) (hB2 : 2 ≤ fl.B) (hP2 : 2 ≤ fl.P) : Calls Tryz.prog 27 #[fptr X] w fun e w' => e = .returned (.int .i64 (fmtF fl).1) ∧ RW w' D X y (fmtF fl).2 ∧ Ch D w w' := by
  have HSM := Lib.hid (rsmall_any h)
  rw [show (decide (fl.B < 2) || decide (fl.P < 2)) = false by simp; omega] at HSM
  have H := Lib.hid h
  have hB := h.hB
  have hP := h.hP
  have c5 := h.c5
  rw [ho] at c5
  have HF : Hid (fmtF fl = wrL fl (least fl fl.B) 0 (pagesR (hdr 1))) := by
    show _ = _
    unfold fmtF
    rw [if_neg (by simp; omega), fmt1_blank ho hbl, if_neg (by simp)]
  have HBL := Lib.hid hbl
  have HB0 : Hid (Below w.heap.size w w) := Below.refl _ _
  clear h ho hbl
  go_enter Tryz.func27, Tryz.ntmps27
  go_wp2_with fail
  refine HSM.out.mono ?_
  rintro e w1 ⟨rfl, rfl⟩
  clear HSM
  go_wp2_with fail
  clear c5
  go_loopw [3] (fun z wr => ∃ k : Nat, k ≤ fl.B ∧ z = .int .i64 (k : Int) ∧ Hid (Below w.heap.size w wr)) (fun z _ => fl.B - (intOf z).toNat)
  case atStart => exact ⟨0, by omega, rfl, HB0⟩
  case round =>
    clear HB0
    obtain ⟨k, hk, rfl, HB⟩ := hrel
    have hrw := H.out.below HB.out
    have c1 := hrw.c0
    by_cases hlt : k < fl.B
    · have y0 : (k : Int) < (fl.B : Int) := by omega
      have HBK := Lib.hid (rblank_any hrw hlt)
      rw [HBL.out k] at HBK
      clear hrw
      go_wp2_with fail
      refine HBK.out.mono ?_
      rintro e w2 ⟨rfl, rfl⟩
      clear HBK
      go_wp2_with fail
      go_roundw
      case rel => exact ⟨k + 1, by omega, by go_num, HB⟩
      case measure => simp [intOf]; omega
    · have y0 : ¬ (k : Int) < (fl.B : Int) := by omega
      clear hrw
      go_wp2_with fail
      clear c1
      go_loopw [5, 6] (fun x z wr => ∃ (k l : Nat), k ≤ fl.B ∧ x = .int .i64 (l : Int) ∧ z = .int .i64 (k : Int) ∧ Hid (l = least fl k) ∧ Hid (Below w.heap.size w wr)) (fun _ z _ => fl.B - (intOf z).toNat)
      case atStart => exact ⟨0, 0, by omega, rfl, rfl, rfl, HB⟩
      case round =>
        clear HB
        obtain ⟨k, l, hk, rfl, rfl, HL, HB⟩ := hrel
        have hrw := H.out.below HB.out
        have c1 := hrw.c0
        have hll := least_le fl k
        have hlB : l < fl.B := by have := HL.out; omega
        clear hll
        by_cases hlt : k < fl.B
        · have y0 : (k : Int) < (fl.B : Int) := by omega
          have ylI : (l : Int) < (fl.B : Int) := by omega
          have hnc := hrw.nc
          have SR : Hid (wr.drew.cell? ⟨X, 4, none⟩ = some (.slice (some ⟨y.nb, 0, none⟩) fl.B y.nc) ∧ wr.drew.cell? ⟨y.nb, k, none⟩ = some (.int .i64 (fl.er k)) ∧ wr.drew.cell? ⟨y.nb, l, none⟩ = some (.int .i64 (fl.er l))) := ⟨hrw.c4, hrw.ce hlt, hrw.ce hlB⟩
          have HB2 : Hid (Below w.heap.size w wr.drew) := HB.out.drew
          have hls := least_succ fl k
          rw [← HL.out] at hls
          have HLS := Lib.hid hls
          obtain ⟨ek, hek⟩ : ∃ e, fl.er k = e := ⟨_, rfl⟩
          obtain ⟨el, hel⟩ : ∃ e, fl.er l = e := ⟨_, rfl⟩
          rw [hek, hel] at SR HLS
          clear hrw hls hek hel HB
          by_cases hlt2 : ek < el
          · have hdl : decide ((ek : Int) < (el : Int)) = true := by simpa using hlt2
            have hdI : (ek : Int) < (el : Int) := by omega
            have HL2 : Hid (k = least fl (k + 1)) := by show _ = _; rw [HLS.out, if_pos hlt2]
            go_wp2_with fail
            refine wp_region_pl (fun Y => Y.cell? ⟨X, 4, none⟩ = some (.slice (some ⟨y.nb, 0, none⟩) fl.B y.nc) ∧ Y.cell? ⟨y.nb, k, none⟩ = some (.int .i64 ek) ∧ Y.cell? ⟨y.nb, l, none⟩ = some (.int .i64 el)) ((0, 0) :: (1, 0) :: (2, 0) :: (3, 0) :: (4, 0) :: (5, 0) :: (6, 0) :: (7, 0) :: (8, 0) :: (9, 0) :: (10, 0) :: (11, 0) :: (12, 0) :: (13, 0) :: (14, 0) :: []) (by kernel_rfl) (by kernel_rfl) ?_
            iterate 15 (apply wpP_go; (focus rfl); (focus rfl); (focus exact SR.out); (focus (rintro Z ⟨s0, s1, s2⟩; go_simp; exact rfl)); intro K hK; go_simp; refine hK _ ?_; clear hK K)
            refine wpP_done ?_
            clear SR c1
            go_wp2_with fail
            go_roundw
            case rel => exact ⟨k + 1, k, by omega, rfl, by go_num, HL2, HB2⟩
            case measure => simp [intOf]; omega
          · have hdl : decide ((ek : Int) < (el : Int)) = false := by simpa using hlt2
            have hdI : ¬ (ek : Int) < (el : Int) := by omega
            have HL2 : Hid (l = least fl (k + 1)) := by show _ = _; rw [HLS.out, if_neg hlt2]
            go_wp2_with fail
            refine wp_region_pl (fun Y => Y.cell? ⟨X, 4, none⟩ = some (.slice (some ⟨y.nb, 0, none⟩) fl.B y.nc) ∧ Y.cell? ⟨y.nb, k, none⟩ = some (.int .i64 ek) ∧ Y.cell? ⟨y.nb, l, none⟩ = some (.int .i64 el)) ((0, 0) :: (1, 0) :: (2, 0) :: (3, 0) :: (4, 0) :: (5, 0) :: (6, 0) :: (7, 0) :: (8, 0) :: (9, 0) :: (10, 0) :: (11, 0) :: (12, 0) :: (13, 0) :: (14, 0) :: []) (by kernel_rfl) (by kernel_rfl) ?_
            iterate 15 (apply wpP_go; (focus rfl); (focus rfl); (focus exact SR.out); (focus (rintro Z ⟨s0, s1, s2⟩; go_simp; exact rfl)); intro K hK; go_simp; refine hK _ ?_; clear hK K)
            refine wpP_done ?_
            clear SR c1
            go_wp2_with fail
            go_roundw
            case rel => exact ⟨k + 1, l, by omega, rfl, by go_num, HL2, HB2⟩
            case measure => simp [intOf]; omega
        · have y0 : ¬ (k : Int) < (fl.B : Int) := by omega
          have hkB : k = fl.B := by omega
          have hl9 := HL.out
          rw [hkB] at hl9
          have HR2 := Lib.hid hrw
          have HC2 : Hid (Ch D w wr) := Ch.of_below HB.out D
          obtain ⟨bg, hbg⟩ : ∃ s : ByteArray, s = ⟨(be8 1).toArray⟩ := ⟨_, rfl⟩
          have hbgl : bg.data.toList = be8 1 := by rw [hbg]
          have hbgz : bg.size = 8 := by rw [bsz, hbgl, be8_len]
          have HBG := Lib.hid (rbig_any 1 wr)
          rw [show str (be8 1) = .string bg by rw [hbg]] at HBG
          obtain ⟨hd, hhd⟩ : ∃ s : ByteArray, s = ⟨(hdr 1).toArray⟩ := ⟨_, rfl⟩
          have hdl : hd.data.toList = hdr 1 := by rw [hhd]
          have hdz : hd.size = 13 := by rw [bsz, hdl, hdr_len]
          have HREC : Hid (∀ W, Calls Tryz.prog 15 #[.int .u8 3, .string ⟨#[]⟩, .string bg] W fun e w' => e = .returned (.string hd) ∧ Below W.heap.size W w') := fun W => by
            have := rrecord_any 3 ⟨#[]⟩ bg W (by omega) (by decide) (by omega)
            rw [hbgl] at this
            rw [hhd]
            exact this
          have HPG : Hid (∀ W, Calls Tryz.prog 14 #[.string hd] W fun e w' => ∃ g cap, e = .returned (.slice (some ⟨g, 0, none⟩) 1 cap) ∧ PS w' g 0 cap (pagesR (hdr 1)) ∧ W.heap.size ≤ g ∧ Below W.heap.size W w') := fun W => by
            have := rpages_any hd W (by omega) (by omega)
            rw [hdl, hdz] at this
            exact this
          have HL9 := Lib.hid hl9
          clear hbg hbgl hbgz hhd hdl hdz hl9 hrw HB HL
          go_wp2_with fail
          refine HBG.out.mono ?_
          rintro e w6 ⟨rfl, b6⟩
          have HR6 := Lib.hid (HR2.out.below b6)
          have HC6 : Hid (Ch D w w6) := HC2.out.trans (Ch.of_below b6 D)
          clear b6 HBG HR2 HC2 c1
          go_wp2_with fail
          refine (HREC.out w6).mono ?_
          rintro e w7 ⟨rfl, b7⟩
          have HR7 := Lib.hid (HR6.out.below b7)
          have HC7 : Hid (Ch D w w7) := HC6.out.trans (Ch.of_below b7 D)
          clear b7 HREC HR6 HC6
          go_wp2_with fail
          refine (HPG.out w7).mono ?_
          rintro e w8 ⟨gp, cp, rfl, hp8, hg8, b8⟩
          have HR8 := Lib.hid (HR7.out.below b8)
          have HC8 : Hid (Ch D w w8) := HC7.out.trans (Ch.of_below b8 D)
          obtain ⟨pe, hpe⟩ : ∃ pe : ByteArray, str (pad (hdr 1)) = .string pe := ⟨_, rfl⟩
          have hpel : pe.data.toList = pad (hdr 1) := by injection hpe with hpe; rw [← hpe]
          have hpez : pe.size = 64 := by rw [bsz, hpel, hdr_pad_len]
          have hcp := hp8.2.1
          have hc0 := hp8.2.2.2 0 (by rw [hdr_pages]; exact Nat.one_pos)
          rw [hdr_pages] at hcp hc0
          have hc1 : w8.cell? ⟨gp, 0, none⟩ = some (.string pe) := by rw [← hpe]; exact hc0
          have hcp1 : 1 ≤ cp := hcp
          have HPR := Lib.hid (rprogram_any HR8.out (b := l) (p := 0) hlB (by omega) (d := pe) hpez)
          rw [hpel] at HPR
          obtain ⟨e3, f3, h3⟩ : ∃ e f, progF fl l 0 (pad (hdr 1)) = (e, f) := ⟨_, _, rfl⟩
          rw [h3] at HPR
          have HE : Hid (fmtF fl = (e3, f3)) := by
            show _ = _
            rw [HF.out, ← HL9.out, hdr_pages]
            unfold wrL
            rw [h3]
            split
            · rename_i h0
              have h0' : e3 = 0 := h0
              subst h0'
              rfl
            · rfl
          clear hpe hpel hpez hcp hc0 h3 hp8 hg8 b8 HR7 HC7 HPG HR8
          go_wp2_with fail
          refine HPR.out.mono ?_
          rintro e w9 ⟨rfl, h9, c9⟩
          have HR9 := Lib.hid h9
          have HC9 : Hid (Ch D w w9) := HC8.out.trans c9
          clear h9 c9 HPR HC8 hc1
          go_wp2_with fail
          go_ret
          rw [HE.out]
          exact ⟨rfl, HR9.out, HC9.out⟩
set_option maxRecDepth 100000 in
set_option maxHeartbeats 4000000 in
theorem alike_any (h : FW w D X yf fl) (h2 : RW w D' X' y fl) (ho : fl.off = false) : Calls Tryz.prog 25 #[fptr X, fptr X'] w fun e w' => e = .returned (.bool true) ∧ Below w.heap.size w w' := by
  have H := Lib.hid h
  have H2 := Lib.hid h2
  have hB := h.hB
  have hP := h.hP
  have HO := Lib.hid ho
  have HB0 : Hid (Below w.heap.size w w) := Below.refl _ _
  clear h h2 ho
  go_enter Tryz.func25, Tryz.ntmps25
  go_wp2_with fail
  go_loopw [5] (fun z wr => ∃ k : Nat, k ≤ fl.B ∧ z = .int .i64 (k : Int) ∧ Hid (Below w.heap.size w wr)) (fun z _ => fl.B - (intOf z).toNat)
  case atStart => exact ⟨0, by omega, rfl, HB0⟩
  case round =>
    clear HB0
    obtain ⟨k, hk, rfl, HB⟩ := hrel
    have c1 := (H2.out.below HB.out).c0
    by_cases hlt : k < fl.B
    · have y0 : (k : Int) < (fl.B : Int) := by omega
      go_wp2_with fail
      clear c1
      go_loopw [6] (fun z wr => ∃ q : Nat, q ≤ fl.P ∧ z = .int .i64 (q : Int) ∧ Hid (Below w.heap.size w wr)) (fun z _ => fl.P - (intOf z).toNat)
      case atStart => exact ⟨0, by omega, rfl, HB⟩
      case round =>
        clear HB
        obtain ⟨q, hq, rfl, HB⟩ := hrel
        have hrw := H2.out.below HB.out
        have hfw := H.out.below HB.out
        have c2 := hrw.c1
        by_cases hlq : q < fl.P
        · have y1 : (q : Int) < (fl.P : Int) := by omega
          have HRD := Lib.hid (read_any hfw hlt hlq)
          have hrf : readF fl k q = (fl.pg k q, 0) := by unfold readF; rw [HO.out]; rfl
          rw [hrf] at HRD
          have c3 := hrw.c3
          have c4 := hrw.cs hlt
          have c5 := hrw.cg hlt hlq
          have hpc := hrw.pc
          have hcp := hrw.cp k hlt
          obtain ⟨pe, hpe⟩ : ∃ pe : ByteArray, str (fl.pg k q) = .string pe := ⟨_, rfl⟩
          rw [hpe] at HRD c5
          clear hrw hfw hrf hpe
          go_wp2_with fail
          refine HRD.out.mono ?_
          rintro e w2 ⟨rfl, rfl⟩
          clear HRD
          go_wp2_with fail
          go_roundw
          case rel => exact ⟨q + 1, by omega, by go_num, HB⟩
          case measure => simp [intOf]; omega
        · have y1 : ¬ (q : Int) < (fl.P : Int) := by omega
          have hnc := hrw.nc
          have HER := Lib.hid (erases_any hfw.drew hlt)
          have SR : Hid (wr.drew.cell? ⟨X', 4, none⟩ = some (.slice (some ⟨y.nb, 0, none⟩) fl.B y.nc) ∧ wr.drew.cell? ⟨y.nb, k, none⟩ = some (.int .i64 (fl.er k))) := ⟨hrw.c4, hrw.ce hlt⟩
          have HB2 : Hid (Below w.heap.size w wr.drew) := HB.out.drew
          obtain ⟨ek, hek⟩ : ∃ e, fl.er k = e := ⟨_, rfl⟩
          rw [hek] at SR HER
          have c41 := hrw.drew.c4
          have ce1 := hrw.drew.ce hlt
          rw [hek] at ce1
          clear hrw hfw hek HB
          go_wp2_with fail
          refine wp_region_pl (fun Y => Y = wr.drew) ((0, 0) :: (1, 0) :: (2, 0) :: (3, 0) :: (4, 0) :: (5, 0) :: (6, 0) :: (7, 0) :: (8, 0) :: (9, 0) :: (10, 0) :: []) (by kernel_rfl) (by kernel_rfl) ?_
          iterate 2 (apply wpP_go; (focus rfl); (focus rfl); (focus exact rfl); (focus (rintro Z rfl; go_simp; exact rfl)); intro K hK; go_simp; refine hK _ ?_; clear hK K)
          apply wpP_call
          focus rfl
          focus rfl
          focus exact rfl
          focus (rintro Z rfl; go_simp; exact ⟨rfl, rfl⟩)
          focus (rintro Z rfl; exact HER.out)
          intro K hK
          go_simp
          refine hK _ ?_
          clear hK K
          iterate 8 (apply wpP_go; (focus rfl); (focus rfl); (focus exact rfl); (focus (rintro Z rfl; go_simp; exact rfl)); intro K hK; go_simp; refine hK _ ?_; clear hK K)
          refine wpP_done ?_
          clear SR c41 ce1 c2 HER
          generalize wr.drew = W at *
          go_wp2_with fail
          go_roundw
          case rel => exact ⟨k + 1, by omega, by go_num, HB2⟩
          case measure => simp [intOf]; omega
    · have y0 : ¬ (k : Int) < (fl.B : Int) := by omega
      go_wp2_with fail
      go_ret
      exact ⟨rfl, HB.out⟩
end
end Go.Proofs.YtfglopkglnpokaaGreat
namespace Go.Proofs.YtfglopkglnpokaaGreat
open Go.RowKit
section
variable {w : World} {D DS : Nat → Prop} {S X : Nat} {st : ST} {y : RLay} {fl : FL}
theorem RLeft.after {w1 w' : World} {r : Int × FL × ST} (b : Below w.heap.size w w1) (h : RLeft w1 w' D DS (fun i => w1.heap.size ≤ i) S X y r) : RLeft w w' D DS (fun i => w.heap.size ≤ i) S X y r := by
  obtain ⟨h1, h2, D', h3, h4⟩ := h
  exact ⟨h1, (Ch.of_below b _).trans h2, D', fun i hi => (h3 i hi).elim .inl (fun e => .inr (Nat.le_trans b.size e)), h4⟩
set_option maxRecDepth 100000 in
set_option maxHeartbeats 2000000 in
theorem want_any (hs : RS w DS S X st) (h : RW w D X y fl) (hdis : ∀ k, D k → ¬ DS k) (hb : st.blk < fl.B) (kd nm ln : Int) (fill : UInt8) :
    Calls Tryz.prog 29 #[fptr S, .agg #[.int .i64 kd, .int .i64 nm, .int .i64 ln, .int .u8 (fill.toNat : Int)]] w fun e w' => e = .returned (.int .i64 (doF fl st kd nm ln fill).1) ∧ RLeft w w' D DS (fun i => w.heap.size ≤ i) S X y (doF fl st kd nm ln fill) := by
  have H := Lib.hid h
  have HS := Lib.hid hs
  clear h hs
  have HM8 : Hid (∀ w, Calls Tryz.prog 11 #[.int .i64 kd, .int .i64 8] w fun e w' => e = .returned (.int .i64 ((mo kd 8 : Nat) : Int)) ∧ w = w') := fun w => mod_any kd 8 w (by omega) (by omega)
  have hl8 := mo_lt kd 8 (by omega)
  obtain ⟨ne, hne⟩ : ∃ s : ByteArray, s = ⟨(nameOf nm).toArray⟩ := ⟨_, rfl⟩
  have hnl : ne.data.toList = nameOf nm := by rw [hne]
  have HNM : Hid (∀ w, Calls Tryz.prog 12 #[.int .i64 nm] w fun e w' => e = .returned (.string ne) ∧ w = w') := fun w => by rw [hne]; exact name_any nm w
  have hnz : ne.size ≤ 24 := by rw [bsz, hnl]; exact (nameOf_len nm).2
  have HNL := Lib.hid hnl
  clear hne hnl
  have R1 : Row (w.alloc (.cells #[.int .i64 kd, .int .i64 nm, .int .i64 ln, .int .u8 (fill.toNat : Int)] 37)) w.heap.size 37 4 (fun j => if j = 0 then .int .i64 kd else if j = 1 then .int .i64 nm else if j = 2 then .int .i64 ln else .int .u8 (fill.toNat : Int)) :=
    Row.ofList w _ _ _ 4 rfl
  have B1 : Below w.heap.size w (w.alloc (.cells #[.int .i64 kd, .int .i64 nm, .int .i64 ln, .int .u8 (fill.toNat : Int)] 37)) := (Below.refl _ _).alloc (Nat.le_refl _) _
  obtain ⟨k8, hk8⟩ : ∃ k8, mo kd 8 = k8 := ⟨_, rfl⟩
  rw [hk8] at HM8 hl8
  by_cases hd : k8 = 5 ∨ k8 = 6
  · have HE : Hid (doF fl st kd nm ln fill = delF fl st ne.data.toList) := by show _ = _; unfold doF; rw [hk8, if_pos hd, HNL.out]
    have hcase : ((k8 : Int) == 5) = true ∨ ((k8 : Int) == 5) = false ∧ ((k8 : Int) == 6) = true := by
      rcases hd with e | e <;> subst e <;> simp
    clear hk8
    go_enter Tryz.func29, Tryz.ntmps29
    go_wp2_with fail
    have HDL := Lib.hid (rdel_any (HS.out.below B1) (H.out.below B1) hdis hb (ke := ne) (by omega))
    have c1 := R1.cell (i := 1) (by omega)
    have HB1 := Lib.hid B1
    clear R1 B1
    refine (HM8.out _).mono ?_
    rintro e w' ⟨rfl, rfl⟩
    rcases hd with e | e <;> subst e
    all_goals
      go_wp2_with fail
      refine (HNM.out _).mono ?_
      rintro e w' ⟨rfl, rfl⟩
      go_wp2_with fail
      refine HDL.out.mono ?_
      rintro e w5 ⟨rfl, hl⟩
      have HL := Lib.hid (RLeft.after HB1.out hl)
      clear hl HDL
      go_wp2_with fail
      go_ret
      rw [HE.out]
      exact ⟨rfl, HL.out⟩
  · have h5 : ¬ k8 = 5 := fun e => hd (.inl e)
    have h6 : ¬ k8 = 6 := fun e => hd (.inr e)
    have d5 : ((k8 : Int) == 5) = false := by rw [beq_eq_false_iff_ne]; omega
    have d6 : ((k8 : Int) == 6) = false := by rw [beq_eq_false_iff_ne]; omega
    have i5 : ¬ (k8 : Int) = 5 := by omega
    have i6 : ¬ (k8 : Int) = 6 := by omega
    obtain ⟨ve, hve⟩ : ∃ s : ByteArray, s = ⟨(valOf ln fill).toArray⟩ := ⟨_, rfl⟩
    have hvl : ve.data.toList = valOf ln fill := by rw [hve]
    have hvz : ve.size ≤ 128 := by rw [bsz, hvl, valOf_len]; exact valLen_le ln
    have HVA : Hid (∀ w, Calls Tryz.prog 13 #[.agg #[.int .i64 kd, .int .i64 nm, .int .i64 ln, .int .u8 (fill.toNat : Int)]] w fun e w' => e = .returned (.string ve) ∧ Below w.heap.size w w') := fun w => by rw [hve]; exact value_any kd nm ln fill w
    have HE : Hid (doF fl st kd nm ln fill = setF fl st ne.data.toList ve.data.toList) := by show _ = _; unfold doF; rw [hk8, if_neg hd, HNL.out, hvl]
    clear hk8 hve hvl hd
    go_enter Tryz.func29, Tryz.ntmps29
    go_wp2_with fail
    have c1 := R1.cell (i := 1) (by omega)
    obtain ⟨Z, hZ⟩ : ∃ Z, w.heap.size = Z := ⟨_, rfl⟩
    have HB1 := Lib.hid B1
    clear B1
    generalize w.alloc (.cells #[.int .i64 kd, .int .i64 nm, .int .i64 ln, .int .u8 (fill.toNat : Int)] 37) = w1 at *
    rw [hZ] at R1 c1
    have HR1 : Hid (Row w1.drew Z 37 4 (fun j => if j = 0 then .int .i64 kd else if j = 1 then .int .i64 nm else if j = 2 then .int .i64 ln else .int .u8 (fill.toNat : Int))) := R1.ch ((Ch.refl (fun _ => False) w1).drew) id
    have HBD : Hid (Below w.heap.size w w1.drew) := HB1.out.drew
    clear R1
    refine (HM8.out _).mono ?_
    rintro e w' ⟨rfl, rfl⟩
    rw [hZ]
    go_wp2_with fail
    refine wp_region_pl (fun Y => Row Y Z 37 4 (fun j => if j = 0 then .int .i64 kd else if j = 1 then .int .i64 nm else if j = 2 then .int .i64 ln else .int .u8 (fill.toNat : Int))) ((0, 0) :: (1, 0) :: (2, 0) :: (3, 0) :: (4, 0) :: (5, 1) :: (6, 1) :: (7, 0) :: []) (by kernel_rfl) (by kernel_rfl) ?_
    iterate 3 (apply wpP_go; (focus rfl); (focus rfl); (focus exact HR1.out); (focus (intro Y s0; have c1 := s0.cell (i := 1) (by omega); go_simp; exact rfl)); intro K hK; go_simp; refine hK _ ?_; clear hK K)
    apply wpP_call
    focus rfl
    focus rfl
    focus exact HR1.out
    focus (intro Y s0; go_simp; exact ⟨rfl, rfl⟩)
    focus (intro Y s0; exact HNM.out Y)
    intro K hK
    go_simp
    refine hK _ ?_
    clear hK K
    iterate 1 (apply wpP_go; (focus rfl); (focus rfl); (focus exact HR1.out); (focus (intro Y s0; have q0 := s0.cell (i := 0) (by omega); have q1 := s0.cell (i := 1) (by omega); have q2 := s0.cell (i := 2) (by omega); have q3 := s0.cell (i := 3) (by omega); go_simp; exact rfl)); intro K hK; go_simp; refine hK _ ?_; clear hK K)
    apply wpP_one
    focus rfl
    intro K hK
    go_simp
    refine (HVA.out _).mono ?_
    rintro e V1 ⟨rfl, b1⟩
    have HR2 : Hid (Row V1 Z 37 4 (fun j => if j = 0 then .int .i64 kd else if j = 1 then .int .i64 nm else if j = 2 then .int .i64 ln else .int .u8 (fill.toNat : Int))) := HR1.out.ch (Ch.of_below b1 (fun _ => False)) id
    have HB2 : Hid (Below w.heap.size w V1) := HBD.out.trans (b1.mono HBD.out.size)
    have HST := Lib.hid (rset_any (HS.out.below HB2.out) (H.out.below HB2.out) hdis hb (ke := ne) (ve := ve) (by omega) (by omega))
    refine hK _ _ HR2.out ?_
    clear hK K b1 HR1 HBD
    apply wpP_one
    focus rfl
    intro K hK
    go_simp
    refine HST.out.mono ?_
    rintro e V2 ⟨rfl, hl⟩
    have hc : Ch (fun k => D k ∨ DS k) V1 V2 := by obtain ⟨_, l2, _⟩ := hl; exact l2
    have HL := Lib.hid (RLeft.after HB2.out hl)
    have HR3 : Hid (Row V2 Z 37 4 (fun j => if j = 0 then .int .i64 kd else if j = 1 then .int .i64 nm else if j = 2 then .int .i64 ln else .int .u8 (fill.toNat : Int))) := HR2.out.ch hc (fun hq => hq.elim (fun hq => by have := H.out.fin Z hq; omega) (fun hq => by have := HS.out.fin Z hq; omega))
    refine hK _ _ HR3.out ?_
    clear hK K hl hc
    iterate 1 (apply wpP_go; (focus rfl); (focus rfl); (focus exact HR3.out); (focus (intro Y s0; go_simp; exact rfl)); intro K hK; go_simp; refine hK _ ?_; clear hK K)
    refine wpP_done ?_
    clear HR3 HR2 HST
    go_wp2_with fail
    go_ret
    rw [HE.out]
    exact ⟨rfl, HL.out⟩
end
end Go.Proofs.YtfglopkglnpokaaGreat
namespace Go.Proofs.YtfglopkglnpokaaGreat
open Go.RowKit
/-- The two flashes. -/
structure AF (w : World) (N X : Nat) (y : FLay) (D : Nat → Prop) (fl : FL) (X' : Nat) (y' : RLay) (D' : Nat → Prop) (fl' : FL) : Prop where
  f : FW w D X y fl
  f' : RW w D' X' y' fl'
  dN : ∀ k, D k → N ≤ k ∧ ¬ D' k
  dN' : ∀ k, D' k → N ≤ k
/-- The two flashes and a store on each. -/
structure AG (w : World) (N S X n : Nat) (y : FLay) (D : Nat → Prop) (fl : FL) (st : ST) (S' X' : Nat) (y' : RLay) (D' : Nat → Prop) (fl' : FL) (st' : ST) : Prop where
  a : AF w N X y D fl X' y' D' fl'
  s : ∃ DS m DS', SW w DS S X m n st ∧ RS w DS' S' X' st' ∧ (∀ k, DS k → N ≤ k ∧ ¬ D k ∧ ¬ D' k ∧ ¬ DS' k) ∧ ∀ k, DS' k → N ≤ k ∧ ¬ D k ∧ ¬ D' k
section
variable {w w' : World} {N S X S' X' n : Nat} {y : FLay} {y' : RLay} {D D' : Nat → Prop} {fl fl' f1 : FL} {st st' : ST}
theorem AF.N_le (h : AF w N X y D fl X' y' D' fl') : N ≤ w.heap.size := Nat.le_trans (h.dN X h.f.dX).1 (Nat.le_of_lt (h.f.fin X h.f.dX))
theorem AF.below (h : AF w N X y D fl X' y' D' fl') (b : Below w.heap.size w w') : AF w' N X y D fl X' y' D' fl' := ⟨h.f.below b, h.f'.below b, h.dN, h.dN'⟩
theorem AF.ch1 (h : AF w N X y D fl X' y' D' fl') (hf : FW w' D X y f1) (c : Ch D w w') : AF w' N X y D f1 X' y' D' fl' ∧ Below N w w' :=
  ⟨⟨hf, h.f'.ch c (fun k hk e => (h.dN k e).2 hk), h.dN, h.dN'⟩, c.below h.N_le (fun i hi => (h.dN i hi).1)⟩
theorem AF.ch2 (h : AF w N X y D fl X' y' D' fl') (hf : RW w' D' X' y' f1) (c : Ch D' w w') : AF w' N X y D fl X' y' D' f1 ∧ Below N w w' :=
  ⟨⟨h.f.ch c (fun k hk e => (h.dN k hk).2 e), hf, h.dN, h.dN'⟩, c.below h.N_le (fun i hi => h.dN' i hi)⟩
theorem AG.N_le (h : AG w N S X n y D fl st S' X' y' D' fl' st') : N ≤ w.heap.size := h.a.N_le
theorem AG.below (h : AG w N S X n y D fl st S' X' y' D' fl' st') (b : Below w.heap.size w w') : AG w' N S X n y D fl st S' X' y' D' fl' st' := by
  obtain ⟨DS, m, DS', h1, h2, h3, h4⟩ := h.s
  exact ⟨h.a.below b, DS, m, DS', h1.below b, h2.below b, h3, h4⟩
theorem AG.drewA (h : AG w N S X n y D fl st S' X' y' D' fl' st') : AG w.drew N S X n y D fl st S' X' y' D' fl' st' := h.below ((Below.refl _ w).drew)
theorem AG.mono (h : AG w N S X n y D fl st S' X' y' D' fl' st') {n' : Nat} (hn : n ≤ n') : AG w N S X n' y D fl st S' X' y' D' fl' st' := by
  obtain ⟨DS, m, DS', h1, h2, h3, h4⟩ := h.s
  exact ⟨h.a, DS, m, DS', h1.mono hn, h2, h3, h4⟩
theorem AG.ch1 (h : AG w N S X n y D fl st S' X' y' D' fl' st') (hf : FW w' D X y f1) (c : Ch D w w') : AG w' N S X n y D f1 st S' X' y' D' fl' st' ∧ Below N w w' := by
  obtain ⟨DS, m, DS', h1, h2, h3, h4⟩ := h.s
  exact ⟨⟨(h.a.ch1 hf c).1, DS, m, DS', h1.ch c (fun k hk e => (h3 k hk).2.1 e), h2.ch c (fun k hk e => (h4 k hk).2.1 e), h3, h4⟩, (h.a.ch1 hf c).2⟩
theorem AG.ch2 (h : AG w N S X n y D fl st S' X' y' D' fl' st') (hf : RW w' D' X' y' f1) (c : Ch D' w w') : AG w' N S X n y D fl st S' X' y' D' f1 st' ∧ Below N w w' := by
  obtain ⟨DS, m, DS', h1, h2, h3, h4⟩ := h.s
  exact ⟨⟨(h.a.ch2 hf c).1, DS, m, DS', h1.ch c (fun k hk e => (h3 k hk).2.2.1 e), h2.ch c (fun k hk e => (h4 k hk).2.2 e), h3, h4⟩, (h.a.ch2 hf c).2⟩
/-- What a call on the program's store leaves. -/
theorem AG.left1 (h : AG w N S X n y D fl st S' X' y' D' fl' st') {DS DS' : Nat → Prop} (h2 : RS w DS' S' X' st') (h3 : ∀ k, DS k → N ≤ k ∧ ¬ D k ∧ ¬ D' k ∧ ¬ DS' k) (h4 : ∀ k, DS' k → N ≤ k ∧ ¬ D k ∧ ¬ D' k) {r : Int × FL × ST} (hl : Left w w' D DS S X n y r) :
    AG w' N S X (n + 1) y D r.2.1 r.2.2 S' X' y' D' fl' st' ∧ Below N w w' := by
  obtain ⟨k1, k2, D1, m1, k3, k4⟩ := hl
  have hN := h.N_le
  refine ⟨⟨⟨k1, h.a.f'.ch k2 fun k hk e => e.elim (fun e => (h.a.dN k e).2 hk) (fun e => (h3 k e).2.2.1 hk), h.a.dN, h.a.dN'⟩, D1, m1, DS', k4, h2.ch k2 (fun k hk e => e.elim (fun e => (h4 k hk).2.1 e) (fun e => (h3 k e).2.2.2 hk)), fun i hi => ?_, h4⟩, k2.below hN (fun i hi => hi.elim (fun e => (h.a.dN i e).1) (fun e => (h3 i e).1))⟩
  rcases k3 i hi with e | e
  · exact h3 i e
  · exact ⟨Nat.le_trans hN e, fun x => by have := h.a.f.fin i x; omega, fun x => by have := h.a.f'.fin i x; omega, fun x => by have := h2.fin i x; omega⟩
/-- What a call on the reference's store leaves. -/
theorem AG.left2 (h : AG w N S X n y D fl st S' X' y' D' fl' st') {DS : Nat → Prop} {m : Nat} {DS' : Nat → Prop} (h1 : SW w DS S X m n st) (h3 : ∀ k, DS k → N ≤ k ∧ ¬ D k ∧ ¬ D' k ∧ ¬ DS' k) (h4 : ∀ k, DS' k → N ≤ k ∧ ¬ D k ∧ ¬ D' k) {r : Int × FL × ST} (hl : RLeft w w' D' DS' (fun i => w.heap.size ≤ i) S' X' y' r) :
    AG w' N S X n y D fl st S' X' y' D' r.2.1 r.2.2 ∧ Below N w w' := by
  obtain ⟨k1, k2, D1, k3, k4⟩ := hl
  have hN := h.N_le
  refine ⟨⟨⟨h.a.f.ch k2 fun k hk e => e.elim (fun e => (h.a.dN k hk).2 e) (fun e => (h4 k e).2.1 hk), k1, h.a.dN, h.a.dN'⟩, DS, m, D1, h1.ch k2 (fun k hk e => e.elim (fun e => (h3 k hk).2.2.1 e) (fun e => (h3 k hk).2.2.2 e)), k4, fun i hi => ⟨(h3 i hi).1, (h3 i hi).2.1, (h3 i hi).2.2.1, fun e => ?_⟩, fun i hi => ?_⟩, k2.below hN (fun i hi => hi.elim (fun e => h.a.dN' i e) (fun e => (h4 i e).1))⟩
  · rcases k3 i e with e | e
    · exact (h3 i hi).2.2.2 e
    · have := h1.fin i hi; omega
  · rcases k3 i hi with e | e
    · exact h4 i e
    · exact ⟨Nat.le_trans hN e, fun x => by have := h.a.f.fin i x; omega, fun x => by have := h.a.f'.fin i x; omega⟩
theorem AG.do (h : AG w N S X n y D fl st S' X' y' D' fl' st') (hb : st.blk < fl.B) (hn : n < 1000) (c : CV) :
    Calls Tryz.prog 28 #[fptr S, cva c] w fun e w' => e = .returned (.int .i64 (doC fl st c).1) ∧ AG w' N S X (n + 1) y D (doC fl st c).2.1 (doC fl st c).2.2 S' X' y' D' fl' st' ∧ Below N w w' := by
  obtain ⟨DS, m, DS', h1, h2, h3, h4⟩ := h.s
  refine (do_any h1 h.a.f (fun k hk e => (h3 k e).2.1 hk) hb hn c.kd c.nm c.ln c.fi).mono ?_
  rintro e w' ⟨he, hl⟩
  exact ⟨he, h.left1 h2 h3 h4 hl⟩
theorem AG.want (h : AG w N S X n y D fl st S' X' y' D' fl' st') (hb : st'.blk < fl'.B) (c : CV) :
    Calls Tryz.prog 29 #[fptr S', cva c] w fun e w' => e = .returned (.int .i64 (doC fl' st' c).1) ∧ AG w' N S X n y D fl st S' X' y' D' (doC fl' st' c).2.1 (doC fl' st' c).2.2 ∧ Below N w w' := by
  obtain ⟨DS, m, DS', h1, h2, h3, h4⟩ := h.s
  refine (want_any h2 h.a.f' (fun k hk e => (h4 k e).2.2 hk) hb c.kd c.nm c.ln c.fi).mono ?_
  rintro e w' ⟨he, hl⟩
  exact ⟨he, h.left2 h1 h3 h4 hl⟩
theorem AG.set (h : AG w N S X n y D fl st S' X' y' D' fl' st') (hb : st.blk < fl.B) (hn : n < 1000) {ke ve : ByteArray} (hke : ke.size ≤ 1000000) (hve : ve.size ≤ 1000000) :
    Calls Tryz.prog 32 #[fptr S, .string ke, .string ve] w fun e w' => e = .returned (.int .i64 (setF fl st ke.data.toList ve.data.toList).1) ∧ AG w' N S X (n + 1) y D (setF fl st ke.data.toList ve.data.toList).2.1 (setF fl st ke.data.toList ve.data.toList).2.2 S' X' y' D' fl' st' ∧ Below N w w' := by
  obtain ⟨DS, m, DS', h1, h2, h3, h4⟩ := h.s
  refine (set_any h1 h.a.f (fun k hk e => (h3 k e).2.1 hk) hb hn hke hve).mono ?_
  rintro e w' ⟨he, hl⟩
  exact ⟨he, h.left1 h2 h3 h4 hl⟩
theorem AG.del (h : AG w N S X n y D fl st S' X' y' D' fl' st') (hb : st.blk < fl.B) (hn : n < 1000) {ke : ByteArray} (hke : ke.size ≤ 1000000) :
    Calls Tryz.prog 34 #[fptr S, .string ke] w fun e w' => e = .returned (.int .i64 (delF fl st ke.data.toList).1) ∧ AG w' N S X (n + 1) y D (delF fl st ke.data.toList).2.1 (delF fl st ke.data.toList).2.2 S' X' y' D' fl' st' ∧ Below N w w' := by
  obtain ⟨DS, m, DS', h1, h2, h3, h4⟩ := h.s
  refine (delete_any h1 h.a.f (fun k hk e => (h3 k e).2.1 hk) hb hn hke).mono ?_
  rintro e w' ⟨he, hl⟩
  exact ⟨he, h.left1 h2 h3 h4 hl⟩
theorem AG.rset (h : AG w N S X n y D fl st S' X' y' D' fl' st') (hb : st'.blk < fl'.B) {ke ve : ByteArray} (hke : ke.size ≤ 1000000) (hve : ve.size ≤ 1000000) :
    Calls Tryz.prog 33 #[fptr S', .string ke, .string ve] w fun e w' => e = .returned (.int .i64 (setF fl' st' ke.data.toList ve.data.toList).1) ∧ AG w' N S X n y D fl st S' X' y' D' (setF fl' st' ke.data.toList ve.data.toList).2.1 (setF fl' st' ke.data.toList ve.data.toList).2.2 ∧ Below N w w' := by
  obtain ⟨DS, m, DS', h1, h2, h3, h4⟩ := h.s
  refine (rset_any h2 h.a.f' (fun k hk e => (h4 k e).2.2 hk) hb hke hve).mono ?_
  rintro e w' ⟨he, hl⟩
  exact ⟨he, h.left2 h1 h3 h4 hl⟩
theorem AG.rdel (h : AG w N S X n y D fl st S' X' y' D' fl' st') (hb : st'.blk < fl'.B) {ke : ByteArray} (hke : ke.size ≤ 1000000) :
    Calls Tryz.prog 35 #[fptr S', .string ke] w fun e w' => e = .returned (.int .i64 (delF fl' st' ke.data.toList).1) ∧ AG w' N S X n y D fl st S' X' y' D' (delF fl' st' ke.data.toList).2.1 (delF fl' st' ke.data.toList).2.2 ∧ Below N w w' := by
  obtain ⟨DS, m, DS', h1, h2, h3, h4⟩ := h.s
  refine (rdel_any h2 h.a.f' (fun k hk e => (h4 k e).2.2 hk) hb hke).mono ?_
  rintro e w' ⟨he, hl⟩
  exact ⟨he, h.left2 h1 h3 h4 hl⟩
theorem AG.get (h : AG w N S X n y D fl st S' X' y' D' fl' st') {k : ByteArray} (hk : k.size ≤ 1000000) : Calls Tryz.prog 30 #[fptr S, .string k] w fun e w' => e = .returned (.tuple #[str (getS st.V k.data.toList).1, .int .i64 (getS st.V k.data.toList).2]) ∧ w = w' := by
  obtain ⟨DS, m, DS', h1, h2, h3, h4⟩ := h.s
  exact get_any h1 hk
theorem AG.rget (h : AG w N S X n y D fl st S' X' y' D' fl' st') (k : ByteArray) : Calls Tryz.prog 31 #[fptr S', .string k] w fun e w' => e = .returned (.tuple #[str (getS st'.V k.data.toList).1, .int .i64 (getS st'.V k.data.toList).2]) ∧ w = w' := by
  obtain ⟨DS, m, DS', h1, h2, h3, h4⟩ := h.s
  exact rget_any h2 k
theorem AG.gen (h : AG w N S X n y D fl st S' X' y' D' fl' st') : Calls Tryz.prog 20 #[fptr S] w fun e w' => e = .returned (.int .u64 st.gen) ∧ w = w' := by
  obtain ⟨DS, m, DS', h1, h2, h3, h4⟩ := h.s
  exact gen_any h1
theorem AG.rgen (h : AG w N S X n y D fl st S' X' y' D' fl' st') : Calls Tryz.prog 21 #[fptr S'] w fun e w' => e = .returned (.int .u64 st'.gen) ∧ w = w' := by
  obtain ⟨DS, m, DS', h1, h2, h3, h4⟩ := h.s
  exact rgen_any h2
theorem AG.list (h : AG w N S X n y D fl st S' X' y' D' fl' st') (hn : n ≤ 1000) : Calls Tryz.prog 23 #[fptr S] w fun e w' => ∃ g, e = .returned (.slice (some ⟨g, 0, none⟩) st.V.length st.V.length) ∧ w.heap.size ≤ g ∧ VS w' (some ⟨g, 0, none⟩) st.V.length st.V ∧ Below w.heap.size w w' := by
  obtain ⟨DS, m, DS', h1, h2, h3, h4⟩ := h.s
  exact list_any h1 hn
theorem AG.rlist (h : AG w N S X n y D fl st S' X' y' D' fl' st') : Calls Tryz.prog 24 #[fptr S'] w fun e w' => ∃ a cap, e = .returned (.slice a st'.V.length cap) ∧ VS w' a cap st'.V ∧ Below w.heap.size w w' := by
  obtain ⟨DS, m, DS', h1, h2, h3, h4⟩ := h.s
  exact rlist_any h2
/-- Two stores just opened. -/
theorem AG.opened {w1 w2 : World} {DS DS' : Nat → Prop} {m : Nat} (h : AF w N X y D fl X' y' D' fl') (b1 : Below w.heap.size w w1) (h1 : SW w1 DS S X m n st) (hD : ∀ k, DS k → w.heap.size ≤ k) (b2 : Below w1.heap.size w1 w2) (h2 : RS w2 DS' S' X' st') (hD' : ∀ k, DS' k → w1.heap.size ≤ k) :
    AG w2 N S X n y D fl st S' X' y' D' fl' st' := by
  have hN := h.N_le
  have hs := b1.size
  refine ⟨(h.below b1).below b2, DS, m, DS', h1.below b2, h2, fun k hk => ⟨Nat.le_trans hN (hD k hk), fun e => ?_, fun e => ?_, fun e => ?_⟩, fun k hk => ⟨by have := hD' k hk; omega, fun e => ?_, fun e => ?_⟩⟩
  · have := h.f.fin k e; have := hD k hk; omega
  · have := h.f'.fin k e; have := hD k hk; omega
  · have := h1.fin k hk; have := hD' k e; omega
  · have := h.f.fin k e; have := hD' k hk; omega
  · have := h.f'.fin k e; have := hD' k hk; omega
theorem AF.made {w1 w2 : World} (h : FW w1 D X y fl) (hD : ∀ k, D k → N ≤ k) (b : Below w1.heap.size w1 w2) (h2 : RW w2 D' X' y' fl') (hD' : ∀ k, D' k → w1.heap.size ≤ k) (hN : N ≤ w1.heap.size) : AF w2 N X y D fl X' y' D' fl' :=
  ⟨h.below b, h2, fun k hk => ⟨hD k hk, fun e => by have := h.fin k hk; have := hD' k e; omega⟩, fun k hk => Nat.le_trans hN (hD' k hk)⟩
/-- A store of the program's, then the reference's made behind it. -/
theorem AG.made {w1 w2 : World} {DS' : Nat → Prop} (h : AT w1 N S X y D n fl st) (b : Below w1.heap.size w1 w2) (h2 : RW w2 D' X' y' fl') (hD' : ∀ k, D' k → w1.heap.size ≤ k) (h3 : RS w2 DS' S' X' st') (hDS' : ∀ k, DS' k → w1.heap.size ≤ k ∧ ¬ D' k) : AG w2 N S X n y D fl st S' X' y' D' fl' st' := by
  obtain ⟨DS, m, k1, k2, k3⟩ := h.s
  refine ⟨.made h.f h.dN b h2 hD' h.N_le, DS, m, DS', k1.below b, h3, fun k hk => ⟨k3 k hk, fun e => k2 k e hk, fun e => ?_, fun e => ?_⟩, fun k hk => ⟨Nat.le_trans h.N_le (hDS' k hk).1, fun e => ?_, (hDS' k hk).2⟩⟩
  · have := k1.fin k hk; have := hD' k e; omega
  · have := k1.fin k hk; have := (hDS' k e).1; omega
  · have := h.f.fin k e; have := (hDS' k hk).1; omega
end
end Go.Proofs.YtfglopkglnpokaaGreat
