/- do. Condition: as change's. -/
import Derived.Test.YtfglopkglnpokaaX
namespace Go.Proofs.Ytfglopkglnpokaa
open Go.RowKit
theorem Left.after {w w1 w' : World} {D DS : Nat → Prop} {S X n : Nat} {y : FLay} {r : Int × FL × ST} (b : Below w.heap.size w w1) (h : Left w1 w' D DS S X n y r) : Left w w' D DS S X n y r := by
  obtain ⟨h1, h2, D', m', h3, h4⟩ := h
  exact ⟨h1, (Ch.of_below b _).trans h2, D', m', fun i hi => (h3 i hi).imp id (fun h => Nat.le_trans b.size h), h4⟩
theorem Row.loadC {w : World} {B : Nat} {v : Nat → Value} (h : Row w B 36 4 v) : (loadVar 36 ⟨B, 0, none⟩).run Try.prog w = .ok (.agg #[v 0, v 1, v 2, v 3]) w :=
  run_loadVar_row w B 36 _ _ (0, 0) _ h.arr4 Try.underlying36 rfl (by kernel_rfl)
def doF (fl : FL) (st : ST) (kd nm ln : Int) (fill : UInt8) : Int × FL × ST :=
  if mo kd 8 = 5 ∨ mo kd 8 = 6 then delF fl st (nameOf nm) else setF fl st (nameOf nm) (valOf ln fill)
section
variable {w : World} {D DS : Nat → Prop} {S X m n : Nat} {st : ST} {y : FLay} {fl : FL}
set_option maxRecDepth 100000 in
set_option maxHeartbeats 2000000 in
theorem do_any (hs : SW w DS S X m n st) (h : FW w D X y fl) (hdis : ∀ k, D k → ¬ DS k) (hb : st.blk < fl.B) (hn : n < 1000) (kd nm ln : Int) (fill : UInt8) :
    Calls Try.prog 13 #[fptr S, .agg #[.int .i64 kd, .int .i64 nm, .int .i64 ln, .int .u8 (fill.toNat : Int)]] w fun e w' => e = .returned (.int .i64 (doF fl st kd nm ln fill).1) ∧ Left w w' D DS S X n y (doF fl st kd nm ln fill) := by
  have H := Lib.hid h
  have HS := Lib.hid hs
  clear h hs
  have HM8 : Hid (∀ w, Calls Try.prog 15 #[.int .i64 kd, .int .i64 8] w fun e w' => e = .returned (.int .i64 ((mo kd 8 : Nat) : Int)) ∧ w = w') := fun w => mod_any kd 8 w (by omega) (by omega)
  have hl8 := mo_lt kd 8 (by omega)
  obtain ⟨ne, hne⟩ : ∃ s : ByteArray, s = ⟨(nameOf nm).toArray⟩ := ⟨_, rfl⟩
  have hnl : ne.data.toList = nameOf nm := by rw [hne]
  have HNM : Hid (∀ w, Calls Try.prog 19 #[.int .i64 nm] w fun e w' => e = .returned (.string ne) ∧ w = w') := fun w => by rw [hne]; exact name_any nm w
  have hnz : ne.size ≤ 24 := by rw [bsz, hnl]; exact (nameOf_len nm).2
  have HNL := Lib.hid hnl
  clear hne hnl
  have R1 : Row (w.alloc (.cells #[.int .i64 kd, .int .i64 nm, .int .i64 ln, .int .u8 (fill.toNat : Int)] 36)) w.heap.size 36 4 (fun j => if j = 0 then .int .i64 kd else if j = 1 then .int .i64 nm else if j = 2 then .int .i64 ln else .int .u8 (fill.toNat : Int)) :=
    Row.ofList w _ _ _ 4 rfl
  have B1 : Below w.heap.size w (w.alloc (.cells #[.int .i64 kd, .int .i64 nm, .int .i64 ln, .int .u8 (fill.toNat : Int)] 36)) := (Below.refl _ _).alloc (Nat.le_refl _) _
  obtain ⟨k8, hk8⟩ : ∃ k8, mo kd 8 = k8 := ⟨_, rfl⟩
  rw [hk8] at HM8 hl8
  by_cases hd : k8 = 5 ∨ k8 = 6
  · have HE : Hid (doF fl st kd nm ln fill = delF fl st ne.data.toList) := by show _ = _; unfold doF; rw [hk8, if_pos hd, HNL.out]
    have hcase : ((k8 : Int) == 5) = true ∨ ((k8 : Int) == 5) = false ∧ ((k8 : Int) == 6) = true := by
      rcases hd with e | e <;> subst e <;> simp
    clear hk8
    go_enter Try.func13, Try.ntmps13
    go_wp2_with fail
    have HDL := Lib.hid (delete_any (HS.out.below B1) (H.out.below B1) hdis hb hn (ke := ne) (by omega))
    have c1 := R1.cell (i := 1) (by omega)
    have HB1 := Lib.hid B1
    clear R1 B1
    refine (HM8.out _).mono ?_
    rintro e w' ⟨rfl, rfl⟩
    rcases hd with e | e <;> subst e
    all_goals
      go_wp2_with fail
      refine (HNM.out _).mono ?_
      rintro e w' ⟨rfl, rfl⟩
      go_wp2_with fail
      refine HDL.out.mono ?_
      rintro e w5 ⟨rfl, hl⟩
      have HL := Lib.hid (Left.after HB1.out hl)
      clear hl HDL
      go_wp2_with fail
      go_ret
      rw [HE.out]
      exact ⟨rfl, HL.out⟩
  · have h5 : ¬ k8 = 5 := fun e => hd (.inl e)
    have h6 : ¬ k8 = 6 := fun e => hd (.inr e)
    have d5 : ((k8 : Int) == 5) = false := by rw [beq_eq_false_iff_ne]; omega
    have d6 : ((k8 : Int) == 6) = false := by rw [beq_eq_false_iff_ne]; omega
    have i5 : ¬ (k8 : Int) = 5 := by omega
    have i6 : ¬ (k8 : Int) = 6 := by omega
    obtain ⟨ve, hve⟩ : ∃ s : ByteArray, s = ⟨(valOf ln fill).toArray⟩ := ⟨_, rfl⟩
    have hvl : ve.data.toList = valOf ln fill := by rw [hve]
    have hvz : ve.size ≤ 128 := by rw [bsz, hvl, valOf_len]; exact valLen_le ln
    have HVA : Hid (∀ w, Calls Try.prog 16 #[.agg #[.int .i64 kd, .int .i64 nm, .int .i64 ln, .int .u8 (fill.toNat : Int)]] w fun e w' => e = .returned (.string ve) ∧ Below w.heap.size w w') := fun w => by rw [hve]; exact value_any kd nm ln fill w
    have HE : Hid (doF fl st kd nm ln fill = setF fl st ne.data.toList ve.data.toList) := by show _ = _; unfold doF; rw [hk8, if_neg hd, HNL.out, hvl]
    clear hk8 hve hvl hd
    go_enter Try.func13, Try.ntmps13
    go_wp2_with fail
    have c1 := R1.cell (i := 1) (by omega)
    obtain ⟨Z, hZ⟩ : ∃ Z, w.heap.size = Z := ⟨_, rfl⟩
    have HB1 := Lib.hid B1
    clear B1
    generalize w.alloc (.cells #[.int .i64 kd, .int .i64 nm, .int .i64 ln, .int .u8 (fill.toNat : Int)] 36) = w1 at *
    rw [hZ] at R1 c1
    have HR1 : Hid (Row w1.drew Z 36 4 (fun j => if j = 0 then .int .i64 kd else if j = 1 then .int .i64 nm else if j = 2 then .int .i64 ln else .int .u8 (fill.toNat : Int))) := R1.ch ((Ch.refl (fun _ => False) w1).drew) id
    have HBD : Hid (Below w.heap.size w w1.drew) := HB1.out.drew
    clear R1
    refine (HM8.out _).mono ?_
    rintro e w' ⟨rfl, rfl⟩
    rw [hZ]
    go_wp2_with fail
    refine wp_region_pl (fun Y => Row Y Z 36 4 (fun j => if j = 0 then .int .i64 kd else if j = 1 then .int .i64 nm else if j = 2 then .int .i64 ln else .int .u8 (fill.toNat : Int))) ((0, 0) :: (1, 0) :: (2, 0) :: (3, 0) :: (4, 0) :: (5, 1) :: (6, 1) :: (7, 0) :: []) (by kernel_rfl) (by kernel_rfl) ?_
    iterate 3 (apply wpP_go; (focus rfl); (focus rfl); (focus exact HR1.out); (focus (intro Y s0; have c1 := s0.cell (i := 1) (by omega); go_simp; exact rfl)); intro K hK; go_simp; refine hK _ ?_; clear hK K)
    apply wpP_call
    focus rfl
    focus rfl
    focus exact HR1.out
    focus (intro Y s0; go_simp; exact ⟨rfl, rfl⟩)
    focus (intro Y s0; exact HNM.out Y)
    intro K hK
    go_simp
    refine hK _ ?_
    clear hK K
    iterate 1 (apply wpP_go; (focus rfl); (focus rfl); (focus exact HR1.out); (focus (intro Y s0; have q0 := s0.cell (i := 0) (by omega); have q1 := s0.cell (i := 1) (by omega); have q2 := s0.cell (i := 2) (by omega); have q3 := s0.cell (i := 3) (by omega); go_simp; exact rfl)); intro K hK; go_simp; refine hK _ ?_; clear hK K)
    apply wpP_one
    focus rfl
    intro K hK
    go_simp
    refine (HVA.out _).mono ?_
    rintro e V1 ⟨rfl, b1⟩
    have HR2 : Hid (Row V1 Z 36 4 (fun j => if j = 0 then .int .i64 kd else if j = 1 then .int .i64 nm else if j = 2 then .int .i64 ln else .int .u8 (fill.toNat : Int))) := HR1.out.ch (Ch.of_below b1 (fun _ => False)) id
    have HB2 : Hid (Below w.heap.size w V1) := HBD.out.trans (b1.mono HBD.out.size)
    have HST := Lib.hid (set_any (HS.out.below HB2.out) (H.out.below HB2.out) hdis hb hn (ke := ne) (ve := ve) (by omega) (by omega))
    refine hK _ _ HR2.out ?_
    clear hK K b1 HR1 HBD
    apply wpP_one
    focus rfl
    intro K hK
    go_simp
    refine HST.out.mono ?_
    rintro e V2 ⟨rfl, hl⟩
    have hc : Ch (fun k => D k ∨ DS k) V1 V2 := by obtain ⟨_, l2, _⟩ := hl; exact l2
    have HL := Lib.hid (Left.after HB2.out hl)
    have HR3 : Hid (Row V2 Z 36 4 (fun j => if j = 0 then .int .i64 kd else if j = 1 then .int .i64 nm else if j = 2 then .int .i64 ln else .int .u8 (fill.toNat : Int))) := HR2.out.ch hc (fun hq => hq.elim (fun hq => by have := H.out.fin Z hq; omega) (fun hq => by have := HS.out.fin Z hq; omega))
    refine hK _ _ HR3.out ?_
    clear hK K hl hc
    iterate 1 (apply wpP_go; (focus rfl); (focus rfl); (focus exact HR3.out); (focus (intro Y s0; go_simp; exact rfl)); intro K hK; go_simp; refine hK _ ?_; clear hK K)
    refine wpP_done ?_
    clear HR3 HR2 HST
    go_wp2_with fail
    go_ret
    rw [HE.out]
    exact ⟨rfl, HL.out⟩
end
end Go.Proofs.Ytfglopkglnpokaa
