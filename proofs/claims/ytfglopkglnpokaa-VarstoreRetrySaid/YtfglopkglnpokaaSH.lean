/- The law's shape. No condition. -/
import Derived.Test.YtfglopkglnpokaaLS
namespace Go.Proofs.Ytfglopkglnpokaa
open Go.RowKit
def shB (b : Int) : Nat := 2 + mo b 3
def shP (p : Int) : Nat := 2 + mo p 8
def shE (e : Int) : Nat := if mo e 4 = 0 then mo e 24 / 4 else 1000
theorem shB_le (b : Int) : 2 ≤ shB b ∧ shB b ≤ 4 := by have := mo_lt b 3 (by omega); unfold shB; omega
theorem shP_le (b : Int) : 2 ≤ shP b ∧ shP b ≤ 9 := by have := mo_lt b 8 (by omega); unfold shP; omega
theorem shE_le (b : Int) : shE b ≤ 1000 := by have := mo_lt b 24 (by omega); unfold shE; split <;> omega
abbrev fsV (b p e : Int) : Value := .agg #[.int .i64 b, .int .i64 p, .int .i64 e]
def fsc (b p e : Int) (j : Nat) : Value := if j = 0 then .int .i64 b else if j = 1 then .int .i64 p else .int .i64 e
theorem Row.arr3 {w : World} {B : Nat} {b p e : Int} (h : Row w B 23 3 (fsc b p e)) : w.heap[B]? = some (.cells #[.int .i64 b, .int .i64 p, .int .i64 e] 23 (0, 0)) := by
  obtain ⟨cs, hh, h1, h2⟩ := h
  have : cs = #[.int .i64 b, .int .i64 p, .int .i64 e] := by
    apply Array.ext
    · rw [h1]; rfl
    · intro i hi hj
      have h3 := h2 i (by omega)
      rw [Array.getElem?_eq_getElem hi] at h3
      injection h3 with h3
      rw [h3]
      rcases (by omega : i = 0 ∨ i = 1 ∨ i = 2) with rfl | rfl | rfl <;> rfl
  rw [hh, this]
theorem Row.load3 {w : World} {B : Nat} {b p e : Int} (h : Row w B 23 3 (fsc b p e)) : (loadVar 23 ⟨B, 0, none⟩).run Try.prog w = .ok (fsV b p e) w :=
  run_loadVar_row w B 23 _ _ (0, 0) _ h.arr3 Try.underlying23 rfl (by kernel_rfl)
set_option maxRecDepth 100000 in
set_option maxHeartbeats 1000000 in
theorem shape_law (b p e : Int) (w : World) : Calls Try.prog 10 #[fsV b p e] w fun en w' => en = .returned (fsV (shB b : Nat) (shP p : Nat) (shE e : Nat)) ∧ Below w.heap.size w w' := by
  have HM3 : Hid (∀ w, Calls Try.prog 15 #[.int .i64 b, .int .i64 3] w fun e w' => e = .returned (.int .i64 ((mo b 3 : Nat) : Int)) ∧ w = w') := fun w => mod_any b 3 w (by omega) (by omega)
  have HM8 : Hid (∀ w, Calls Try.prog 15 #[.int .i64 p, .int .i64 8] w fun e w' => e = .returned (.int .i64 ((mo p 8 : Nat) : Int)) ∧ w = w') := fun w => mod_any p 8 w (by omega) (by omega)
  have HM4 : Hid (∀ w, Calls Try.prog 15 #[.int .i64 e, .int .i64 4] w fun en w' => en = .returned (.int .i64 ((mo e 4 : Nat) : Int)) ∧ w = w') := fun w => mod_any e 4 w (by omega) (by omega)
  have HM24 : Hid (∀ w, Calls Try.prog 15 #[.int .i64 e, .int .i64 24] w fun en w' => en = .returned (.int .i64 ((mo e 24 : Nat) : Int)) ∧ w = w') := fun w => mod_any e 24 w (by omega) (by omega)
  have hl3 := mo_lt b 3 (by omega)
  have hl8 := mo_lt p 8 (by omega)
  have hl4 := mo_lt e 4 (by omega)
  have hl24 := mo_lt e 24 (by omega)
  obtain ⟨m3, hm3⟩ : ∃ x, mo b 3 = x := ⟨_, rfl⟩
  obtain ⟨m8, hm8⟩ : ∃ x, mo p 8 = x := ⟨_, rfl⟩
  obtain ⟨m4, hm4⟩ : ∃ x, mo e 4 = x := ⟨_, rfl⟩
  obtain ⟨m24, hm24⟩ : ∃ x, mo e 24 = x := ⟨_, rfl⟩
  have HE : Hid (shB b = 2 + m3 ∧ shP p = 2 + m8 ∧ shE e = if m4 = 0 then m24 / 4 else 1000) := by
    show _ ∧ _ ∧ _
    unfold shB shP shE
    rw [hm3, hm8, hm4, hm24]
    exact ⟨rfl, rfl, rfl⟩
  rw [hm3] at HM3 hl3
  rw [hm8] at HM8 hl8
  rw [hm4] at HM4 hl4
  rw [hm24] at HM24 hl24
  clear hm3 hm8 hm4 hm24
  go_enter Try.func10, Try.ntmps10
  go_wp2_with fail
  obtain ⟨Z, hZ⟩ : ∃ Z, w.heap.size = Z := ⟨_, rfl⟩
  have R0 : Row ((w.alloc (.cells #[.int .i64 b, .int .i64 p, .int .i64 e] 23)).alloc (.cells #[.int .i64 0, .int .i64 0, .int .i64 0] 23)) Z 23 3 (fsc b p e) := by
    rw [← hZ]; exact (Row.ofList w _ #[.int .i64 b, .int .i64 p, .int .i64 e] (fsc b p e) 3 rfl).alloc _
  have hsz1 : (w.alloc (.cells #[.int .i64 b, .int .i64 p, .int .i64 e] 23)).heap.size = Z + 1 := by simp [hZ]
  have R1 : Row ((w.alloc (.cells #[.int .i64 b, .int .i64 p, .int .i64 e] 23)).alloc (.cells #[.int .i64 0, .int .i64 0, .int .i64 0] 23)) (Z + 1) 23 3 (fsc 0 0 0) := by
    rw [← hsz1]; exact Row.ofList _ _ #[.int .i64 0, .int .i64 0, .int .i64 0] (fsc 0 0 0) 3 rfl
  have hsz2 : ((w.alloc (.cells #[.int .i64 b, .int .i64 p, .int .i64 e] 23)).alloc (.cells #[.int .i64 0, .int .i64 0, .int .i64 0] 23)).heap.size = Z + 2 := by simp [hZ]
  have B1 : Below Z w ((w.alloc (.cells #[.int .i64 b, .int .i64 p, .int .i64 e] 23)).alloc (.cells #[.int .i64 0, .int .i64 0, .int .i64 0] 23)) := ((Below.refl _ _).alloc (by omega) _).alloc (by omega) _
  generalize (w.alloc (.cells #[.int .i64 b, .int .i64 p, .int .i64 e] 23)).alloc (.cells #[.int .i64 0, .int .i64 0, .int .i64 0] 23) = w1 at *
  rw [hZ]
  have S1 : Hid (w1.drew.cell? ⟨Z, 0, none⟩ = some (.int .i64 b) ∧ w1.drew.cell? ⟨Z, 1, none⟩ = some (.int .i64 p)) := ⟨R0.cell (i := 0) (by omega), R0.cell (i := 1) (by omega)⟩
  have HR0 := Lib.hid R0.drew
  have HR1 := Lib.hid R1.drew
  have HB1 := Lib.hid B1.drew
  have hsz3 : w1.drew.heap.size = Z + 2 := hsz2
  clear R0 R1 B1 hsz1 hsz2
  refine wp_region_pl (fun Y => Y.cell? ⟨Z, 0, none⟩ = some (.int .i64 b) ∧ Y.cell? ⟨Z, 1, none⟩ = some (.int .i64 p)) ((0, 0) :: (1, 0) :: (2, 0) :: (3, 0) :: (4, 0) :: (5, 0) :: (6, 0) :: (7, 0) :: (8, 0) :: (9, 1) :: (10, 2) :: []) (by kernel_rfl) (by kernel_rfl) ?_
  iterate 2 (apply wpP_go; (focus rfl); (focus rfl); (focus exact S1.out); (focus (rintro Y ⟨s0, s1⟩; go_simp; exact rfl)); intro K hK; go_simp; refine hK _ ?_; clear hK K)
  apply wpP_call
  focus rfl
  focus rfl
  focus exact S1.out
  focus (rintro Y ⟨s0, s1⟩; go_simp; exact ⟨rfl, rfl⟩)
  focus (rintro Y ⟨s0, s1⟩; exact HM3.out Y)
  intro K hK
  go_simp
  refine hK _ ?_
  clear hK K
  iterate 3 (apply wpP_go; (focus rfl); (focus rfl); (focus exact S1.out); (focus (rintro Y ⟨s0, s1⟩; go_simp; exact rfl)); intro K hK; go_simp; refine hK _ ?_; clear hK K)
  apply wpP_call
  focus rfl
  focus rfl
  focus exact S1.out
  focus (rintro Y ⟨s0, s1⟩; go_simp; exact ⟨rfl, rfl⟩)
  focus (rintro Y ⟨s0, s1⟩; exact HM8.out Y)
  intro K hK
  go_simp
  refine hK _ ?_
  clear hK K
  iterate 2 (apply wpP_go; (focus rfl); (focus rfl); (focus exact S1.out); (focus (rintro Y ⟨s0, s1⟩; go_simp; exact rfl)); intro K hK; go_simp; refine hK _ ?_; clear hK K)
  apply wpP_one
  focus rfl
  intro K hK
  go_simp
  have e3 : IntKind.i64.wrap (2 + (m3 : Int)) = 2 + (m3 : Int) := IntWalk.i64_in _ ⟨by omega, by omega⟩
  have e8 : IntKind.i64.wrap (2 + (m8 : Int)) = 2 + (m8 : Int) := IntWalk.i64_in _ ⟨by omega, by omega⟩
  rw [e3, e8]
  have HW : Hid (∃ w2, w2 = (w1.alloc (.cells #[.int .i64 0, .int .i64 0, .int .i64 0] 23)).drew) := ⟨_, rfl⟩
  have h20 := Row.ofList w1.drew 23 #[.int .i64 0, .int .i64 0, .int .i64 0] (fsc 0 0 0) 3 rfl
  have H2 : Hid (Row (w1.alloc (.cells #[.int .i64 0, .int .i64 0, .int .i64 0] 23)).drew (Z + 2) 23 3 (fsc 0 0 0)) := by rw [hsz3] at h20; exact h20
  have HR02 : Hid (Row (w1.alloc (.cells #[.int .i64 0, .int .i64 0, .int .i64 0] 23)).drew Z 23 3 (fsc b p e)) := HR0.out.alloc _
  have HR12 : Hid (Row (w1.alloc (.cells #[.int .i64 0, .int .i64 0, .int .i64 0] 23)).drew (Z + 1) 23 3 (fsc 0 0 0)) := HR1.out.alloc _
  have HB2 : Hid (Below Z w (w1.alloc (.cells #[.int .i64 0, .int .i64 0, .int .i64 0] 23)).drew) := HB1.out.alloc (by omega) _
  clear h20 HR0 HR1 HB1 HW
  have S2 : Hid ((w1.alloc (.cells #[.int .i64 0, .int .i64 0, .int .i64 0] 23)).drew.cell? ⟨Z, 0, none⟩ = some (.int .i64 b) ∧ (w1.alloc (.cells #[.int .i64 0, .int .i64 0, .int .i64 0] 23)).drew.cell? ⟨Z, 1, none⟩ = some (.int .i64 p)) := ⟨HR02.out.cell (i := 0) (by omega), HR02.out.cell (i := 1) (by omega)⟩
  generalize (w1.alloc (.cells #[.int .i64 0, .int .i64 0, .int .i64 0] 23)).drew = w2 at *
  refine hK _ _ S2.out ?_
  clear hK K S1 S2
  have z0 := H2.out.cell (i := 0) (by omega)
  have f0 := H2.out.frozen 0
  have z1 := H2.out.cell (i := 1) (by omega)
  have f1 := H2.out.frozen 1
  have z2 := H2.out.cell (i := 2) (by omega)
  have f2 := H2.out.frozen 2
  have HR3 : Hid (Row (((w2.setCell ⟨Z + 2, 0, none⟩ (.int .i64 (2 + (m3 : Int)))).setCell ⟨Z + 2, 1, none⟩ (.int .i64 (2 + (m8 : Int)))).setCell ⟨Z + 2, 2, none⟩ (.int .i64 1000)) (Z + 2) 23 3 (fsc (2 + (m3 : Int)) (2 + (m8 : Int)) 1000)) :=
    (((H2.out.set (i := 0) (by omega) (.int .i64 (2 + (m3 : Int)))).set (i := 1) (by omega) (.int .i64 (2 + (m8 : Int)))).set (i := 2) (by omega) (.int .i64 1000)).congr fun j hj => by
      rcases (by omega : j = 0 ∨ j = 1 ∨ j = 2) with rfl | rfl | rfl <;> rfl
  have HC3 : Hid (Ch (fun x => x = Z + 2) w2 (((w2.setCell ⟨Z + 2, 0, none⟩ (.int .i64 (2 + (m3 : Int)))).setCell ⟨Z + 2, 1, none⟩ (.int .i64 (2 + (m8 : Int)))).setCell ⟨Z + 2, 2, none⟩ (.int .i64 1000))) :=
    (((Ch.refl (fun x => x = Z + 2) w2).setCell (p := ⟨Z + 2, 0, none⟩) (fun _ => rfl) _).setCell (p := ⟨Z + 2, 1, none⟩) (fun _ => rfl) _).setCell (p := ⟨Z + 2, 2, none⟩) (fun _ => rfl) _
  have HR23 := HR3
  have HR03 := Lib.hid (HR02.out.ch HC3.out (by omega))
  have HR13 := Lib.hid (HR12.out.ch HC3.out (by omega))
  have HB3 : Hid (Below Z w _) := HB2.out.trans (HC3.out.below (B := Z) (by have := HR02.out.lt; omega) (fun i e => by rw [e]; omega))
  apply wpP_two
  focus rfl
  intro K hK
  go_simp
  generalize ((w2.setCell ⟨Z + 2, 0, none⟩ (.int .i64 (2 + (m3 : Int)))).setCell ⟨Z + 2, 1, none⟩ (.int .i64 (2 + (m8 : Int)))).setCell ⟨Z + 2, 2, none⟩ (.int .i64 1000) = w3 at *
  refine hK _ _ ?_
  clear hK K z0 z1 z2 f0 f1 f2 HC3 H2 HR02 HR12 HB2
  refine wpP_done ?_
  have c02 := HR03.out.cell (i := 2) (by omega)
  rw [show fsc b p e 2 = .int .i64 e from rfl] at c02
  go_wp2_with fail
  refine (HM4.out w3).mono ?_
  rintro en w' ⟨rfl, rfl⟩
  go_upto_if 16 with fail
  go_cut [] (fun wx => Hid (Row wx (Z + 2) 23 3 (fsc (2 + (m3 : Int)) (2 + (m8 : Int)) (shE e : Nat))) ∧ Hid (Row wx (Z + 1) 23 3 (fsc 0 0 0)) ∧ Hid (Below Z w wx))
  case first =>
    by_cases h0 : m4 = 0
    · subst h0
      have hE : shE e = m24 / 4 := by have := HE.out.2.2; rwa [if_pos rfl] at this
      have z2 := HR13.out
      have y2 := HR23.out.cell (i := 2) (by omega)
      have g2 := HR23.out.frozen 2
      have hq : IntKind.i64.wrap ((m24 : Int).tdiv 4) = ((m24 / 4 : Nat) : Int) := by
        rw [Int.tdiv_eq_ediv_of_nonneg (by omega), IntWalk.i64_in _ ⟨by omega, by omega⟩]; omega
      have HR4 : Hid (Row (w3.setCell ⟨Z + 2, 2, none⟩ (.int .i64 (shE e : Nat))) (Z + 2) 23 3 (fsc (2 + (m3 : Int)) (2 + (m8 : Int)) (shE e : Nat))) := (HR23.out.set (i := 2) (by omega) _).congr fun j hj => by
        rcases (by omega : j = 0 ∨ j = 1 ∨ j = 2) with rfl | rfl | rfl <;> rfl
      have HC4 : Hid (Ch (fun x => x = Z + 2) w3 (w3.setCell ⟨Z + 2, 2, none⟩ (.int .i64 (shE e : Nat)))) := (Ch.refl (fun x => x = Z + 2) w3).setCell (p := ⟨Z + 2, 2, none⟩) (fun _ => rfl) _
      rw [hE] at HR4 HC4
      clear z2
      go_wp2_with fail
      refine (HM24.out w3).mono ?_
      rintro en w' ⟨rfl, rfl⟩
      go_wp2_with fail
      go_meet
      rw [hE]
      exact ⟨HR4.out, HR13.out.ch HC4.out (by omega), HB3.out.trans (HC4.out.below (B := Z) (by have := HR13.out.lt; omega) (fun i e => by rw [e]; omega))⟩
    · have hE : shE e = 1000 := by have := HE.out.2.2; rwa [if_neg h0] at this
      have h0d : ((m4 : Int) == 0) = false := by simpa using h0
      go_wp2_with fail
      go_meet
      rw [hE]
      exact ⟨HR23.out, HR13.out, HB3.out⟩
  case rest =>
    clear HR23 HR13 HB3 HR03 c02
    obtain ⟨HR2, HR1, HB⟩ := hcut
    have hE2 : ((shE e : Nat) : Int) = ((shE e : Nat) : Int) := rfl
    obtain ⟨ev, hev⟩ : ∃ ev : Int, ((shE e : Nat) : Int) = ev := ⟨_, rfl⟩
    rw [hev] at HR2
    have y0 : wc.cell? ⟨Z + 2, 0, none⟩ = some (.int .i64 (2 + (m3 : Int))) := HR2.out.cell (i := 0) (by omega)
    have y1 : wc.cell? ⟨Z + 2, 1, none⟩ = some (.int .i64 (2 + (m8 : Int))) := HR2.out.cell (i := 1) (by omega)
    have y2 : wc.cell? ⟨Z + 2, 2, none⟩ = some (.int .i64 ev) := HR2.out.cell (i := 2) (by omega)
    have z0 := HR1.out.cell (i := 0) (by omega)
    have f0 := HR1.out.frozen 0
    have z1 := HR1.out.cell (i := 1) (by omega)
    have f1 := HR1.out.frozen 1
    have z2 := HR1.out.cell (i := 2) (by omega)
    have f2 := HR1.out.frozen 2
    have HR3 : Hid (Row (((wc.setCell ⟨Z + 1, 0, none⟩ (.int .i64 (2 + (m3 : Int)))).setCell ⟨Z + 1, 1, none⟩ (.int .i64 (2 + (m8 : Int)))).setCell ⟨Z + 1, 2, none⟩ (.int .i64 ev)) (Z + 1) 23 3 (fsc (2 + (m3 : Int)) (2 + (m8 : Int)) ev)) :=
      (((HR1.out.set (i := 0) (by omega) (.int .i64 (2 + (m3 : Int)))).set (i := 1) (by omega) (.int .i64 (2 + (m8 : Int)))).set (i := 2) (by omega) (.int .i64 ev)).congr fun j hj => by
        rcases (by omega : j = 0 ∨ j = 1 ∨ j = 2) with rfl | rfl | rfl <;> rfl
    have HB3 : Hid (Below Z w (((wc.setCell ⟨Z + 1, 0, none⟩ (.int .i64 (2 + (m3 : Int)))).setCell ⟨Z + 1, 1, none⟩ (.int .i64 (2 + (m8 : Int)))).setCell ⟨Z + 1, 2, none⟩ (.int .i64 ev))) :=
      ((HB.out.setCell (p := ⟨Z + 1, 0, none⟩) (by show Z ≤ Z + 1; omega) _).setCell (p := ⟨Z + 1, 1, none⟩) (by show Z ≤ Z + 1; omega) _).setCell (p := ⟨Z + 1, 2, none⟩) (by show Z ≤ Z + 1; omega) _
    have HQ : Hid (fsV (2 + (m3 : Int)) (2 + (m8 : Int)) ev = fsV (shB b : Nat) (shP p : Nat) (shE e : Nat)) := by
      show _ = _
      rw [hev, HE.out.1, HE.out.2.1]
      simp
    clear hE2 hev
    go_wp2_with fail
    exact bodyPost_ret (v := fsV (2 + (m3 : Int)) (2 + (m8 : Int)) ev) (results_cell_row rfl _ _ (Z + 1) 23 #[.int .i64 (2 + (m3 : Int)), .int .i64 (2 + (m8 : Int)), .int .i64 ev] (0, 0) _ rfl HR3.out.arr3 Try.underlying23 rfl (by kernel_rfl)) rfl ⟨by rw [HQ.out], by rw [hZ]; exact HB3.out⟩
end Go.Proofs.Ytfglopkglnpokaa
