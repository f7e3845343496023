/- Copy. No condition but that the flash lies in memory. -/
import Derived.Test.YtfglopkglnpokaaSc
namespace Go.Proofs.Ytfglopkglnpokaa
open Go.RowKit
/-- A copy under construction: k blocks have pages of their own. -/
structure FC (w : World) (w0 X gb cb : Nat) (fl : FL) (y : FLay) (k : Nat) (g cp : Nat → Nat) : Prop where
  top : Rg w X 76 8 (flc fl ⟨gb, cb, g, cp⟩)
  blk : Rg w gb 73 (fl.B * 2) (fun j => if j % 2 = 0 then (if j / 2 < k then .slice (some ⟨g (j / 2), 0, none⟩) fl.P (cp (j / 2)) else .slice (some ⟨y.g (j / 2), 0, none⟩) fl.P (y.cp (j / 2))) else .int .i64 (fl.er (j / 2)))
  pag : ∀ b, b < k → Rg w (g b) 9 fl.P (pgc fl b)
  inj : ∀ b c, b < k → c < k → g b = g c → b = c
  cps : ∀ b, b < k → fl.P ≤ cp b ∧ cp b ≤ maxLen
  low : w0 ≤ X ∧ w0 ≤ gb ∧ ∀ b, b < k → w0 ≤ g b
theorem FC.next {w w' : World} {w0 X gb cb k g' c' : Nat} {fl : FL} {y : FLay} {g cp : Nat → Nat} (h : FC w w0 X gb cb fl y k g cp) (hk : k < fl.B) (hb : Below w.heap.size w w') (hg : w.heap.size ≤ g') (hr : Rg w' g' 9 fl.P (pgc fl k)) (hc : fl.P ≤ c' ∧ c' ≤ maxLen) :
    FC (w'.setCell ⟨gb, k * 2, none⟩ (.slice (some ⟨g', 0, none⟩) fl.P c')) w0 X gb cb fl y (k + 1) (fun b => if b = k then g' else g b) (fun b => if b = k then c' else cp b) := by
  have c : Ch (fun _ => False) w w' := Ch.of_below hb _
  have htop := h.top.ch c id
  have hblk := h.blk.ch c id
  have hXb : X ≠ gb := h.top.ty h.blk (by decide)
  have hgb : gb ≠ g' := by have := h.blk.lt; omega
  refine ⟨(htop.far (p := ⟨gb, k * 2, none⟩) (Ne.symm hXb) _).congr fun j _ => ?_, (hblk.set (i := k * 2) (by omega) _).congr fun j hj => ?_, fun b hbk => ?_, fun b c' hb1 hc1 e => ?_, fun b hbk => ?_, h.low.1, h.low.2.1, fun b hbk => ?_⟩
  · rfl
  · by_cases e : j = k * 2
    · subst e
      have e1 : k * 2 % 2 = 0 := by omega
      have e2 : k * 2 / 2 = k := by omega
      rw [upd_hit]
      simp [e1, e2]
    · rw [upd_miss _ _ e]
      by_cases e1 : j % 2 = 0
      · have e2 : j / 2 ≠ k := by omega
        rw [if_pos e1, if_pos e1]
        by_cases e3 : j / 2 < k
        · rw [if_pos e3, if_pos (by omega)]; simp [e2]
        · rw [if_neg e3, if_neg (by omega)]
      · rw [if_neg e1, if_neg e1]
  · by_cases e : b = k
    · subst e
      simp only [if_true]
      exact hr.far (p := ⟨gb, b * 2, none⟩) hgb _
    · simp only [if_neg e]
      have hb' := h.pag b (by omega)
      exact (hb'.ch c id).far (p := ⟨gb, k * 2, none⟩) (fun e2 => (h.blk.ty hb' (by decide)) e2) _
  · by_cases e1 : b = k <;> by_cases e2 : c' = k
    · omega
    · simp only [if_pos e1, if_neg e2] at e
      have := (h.pag c' (by omega)).lt
      omega
    · simp only [if_neg e1, if_pos e2] at e
      have := (h.pag b (by omega)).lt
      omega
    · simp only [if_neg e1, if_neg e2] at e
      exact h.inj b c' (by omega) (by omega) e
  · by_cases e : b = k
    · simp only [if_pos e]; exact hc
    · simp only [if_neg e]; exact h.cps b (by omega)
  · by_cases e : b = k
    · simp only [if_pos e]
      have := h.low.2.1
      have := h.blk.lt
      omega
    · simp only [if_neg e]
      exact h.low.2.2 b (by omega)
theorem FC.done {w w1 : World} {w0 X gb cb X0 : Nat} {fl : FL} {y : FLay} {D : Nat → Prop} {g cp : Nat → Nat} (h : FC w w0 X gb cb fl y fl.B g cp) (h0 : FW w1 D X0 y fl) (hcb : fl.B ≤ cb ∧ cb ≤ maxLen) : FW w (fun k => w0 ≤ k ∧ k < w.heap.size) X ⟨gb, cb, g, cp⟩ fl where
  top := h.top
  blk := h.blk.congr fun j hj => by
    have hj' : j < fl.B * 2 := hj
    unfold blc
    by_cases e : j % 2 = 0
    · rw [if_pos e, if_pos e, if_pos (by omega)]
    · rw [if_neg e, if_neg e]
  pag := fun b hb => h.pag b hb
  inj := fun b c hb hc e => h.inj b c hb hc e
  dX := ⟨h.low.1, h.top.lt⟩
  db := ⟨h.low.2.1, h.blk.lt⟩
  dg := fun b hb => ⟨h.low.2.2 b hb, (h.pag b hb).lt⟩
  cb := hcb
  cp := fun b hb => h.cps b hb
  hB := h0.hB
  hP := h0.hP
  hE := h0.hE
  her := h0.her
  hl := h0.hl
  ht := h0.ht
  len := h0.len
  fin := fun k hk => hk.2
section
variable {w : World} {D : Nat → Prop} {X : Nat} {y : FLay} {fl : FL}
set_option maxRecDepth 100000 in
set_option maxHeartbeats 2000000 in
theorem copy_any (h : FW w D X y fl) : Calls Try.prog 26 #[fptr X] w fun e w' => ∃ X' y', e = .returned (fptr X') ∧ FW w' (fun k => w.heap.size ≤ k ∧ k < w'.heap.size) X' y' fl ∧ Below w.heap.size w w' := by
  have H := Lib.hid h
  have hB := h.hB
  have hP := h.hP
  have c0 := h.c0
  have c1 := h.c1
  have c2 := h.c2
  have c3 := h.c3
  have c4 := h.c4
  have c5 := h.c5
  have c6 := h.c6
  have c7 := h.c7
  clear h
  have b1 : Below w.heap.size w (w.alloc (.cells #[.int .i64 fl.B, .int .i64 fl.P, .int .i64 fl.E, .slice (some ⟨y.gb, 0, none⟩) fl.B y.cb, .bool fl.off, .bool fl.cut, .int .i64 fl.left, .int .u64 fl.torn] 76)) := (Below.refl _ _).alloc (Nat.le_refl _) _
  have ht1 : Rg (w.alloc (.cells #[.int .i64 fl.B, .int .i64 fl.P, .int .i64 fl.E, .slice (some ⟨y.gb, 0, none⟩) fl.B y.cb, .bool fl.off, .bool fl.cut, .int .i64 fl.left, .int .u64 fl.torn] 76)) w.heap.size 76 8 (flc fl y) := ⟨_, heap_alloc_new w _, fun j hj => by rcases (by omega : j = 0 ∨ j = 1 ∨ j = 2 ∨ j = 3 ∨ j = 4 ∨ j = 5 ∨ j = 6 ∨ j = 7) with e | e | e | e | e | e | e | e <;> subst e <;> rfl⟩
  have hF1 := H.out.below b1
  have d3 := hF1.c3
  have hZl := ht1.lt
  have HCB := Lib.hid (cloneB_any (c := y.cb) hF1.blk (by omega) (fun i _ => by unfold blc; split <;> rfl))
  have HB1 := Lib.hid b1
  have HT1 := Lib.hid ht1
  clear b1 ht1 hF1
  go_enter Try.func26, Try.ntmps26
  go_wp2_with fail
  refine HCB.out.mono ?_
  rintro e w2 ⟨gb, cb, rfl, hgb, hcb1, hcb2, rb, b2⟩
  obtain ⟨Z, hZ⟩ : ∃ Z, w.heap.size = Z := ⟨_, rfl⟩
  rw [hZ] at HT1 hZl
  have HB2 : Hid (Below w.heap.size w w2) := HB1.out.trans (b2.mono HB1.out.size)
  have r2 := HT1.out.ch (Ch.of_below b2 (fun _ => False)) id
  have z3 := r2.cell (i := 3) (by omega)
  have f3 := r2.frozen 3
  have hZg : Z ≠ gb := by omega
  have HFC : Hid (FC (w2.setCell ⟨Z, 3, none⟩ (.slice (some ⟨gb, 0, none⟩) fl.B cb)) w.heap.size Z gb cb fl y 0 (fun _ => 0) (fun _ => 0)) := by
    refine ⟨(r2.set (i := 3) (by omega) _).congr fun j hj => ?_, (rb.far (p := ⟨Z, 3, none⟩) hZg _).congr fun j _ => ?_, (fun b hb => by omega), (fun b c hb => by omega), (fun b hb => by omega), by omega, by omega, (fun b hb => by omega)⟩
    · rcases (by omega : j = 0 ∨ j = 1 ∨ j = 2 ∨ j = 3 ∨ j = 4 ∨ j = 5 ∨ j = 6 ∨ j = 7) with e | e | e | e | e | e | e | e <;> subst e <;> rfl
    · unfold blc
      by_cases e : j % 2 = 0
      · rw [if_pos e, if_pos e, if_neg (by omega)]
      · rw [if_neg e, if_neg e]
  have HB3 : Hid (Below w.heap.size w (w2.setCell ⟨Z, 3, none⟩ (.slice (some ⟨gb, 0, none⟩) fl.B cb))) := HB2.out.setCell (p := ⟨Z, 3, none⟩) (by show w.heap.size ≤ Z; omega) _
  have q3 := HFC.out.top.cell (i := 3) (by omega)
  rw [show flc fl ⟨gb, cb, (fun _ => 0), (fun _ => 0)⟩ 3 = .slice (some ⟨gb, 0, none⟩) fl.B cb from rfl] at q3
  have hZw : w.heap.size ≤ Z := by omega
  clear b2 r2 rb hgb HCB HB1 HT1 HB2 c0 c1 c2 c3 c4 c5 c6 c7 d3 hZl
  rw [hZ]
  go_wp2_with fail
  clear z3 f3 q3
  go_loopw [17] (fun z wr => ∃ (k : Nat) (gg cp : Nat → Nat), k ≤ fl.B ∧ z = .int .i64 (k : Int) ∧ Hid (FC wr w.heap.size Z gb cb fl y k gg cp) ∧ Hid (Below w.heap.size w wr)) (fun z _ => fl.B - (intOf z).toNat)
  case atStart => exact ⟨0, _, _, by omega, rfl, HFC, HB3⟩
  case round =>
    clear HFC HB3
    obtain ⟨k, gg, cp, hk, rfl, HFC, HB⟩ := hrel
    by_cases hlt : k < fl.B
    · have y0 : (k : Int) < fl.B := by omega
      have hkd : k * 2 / 2 = k := by omega
      have hkm : k * 2 % 2 = 0 := by omega
      have p3 : wr.drew.cell? ⟨Z, 3, none⟩ = some (.slice (some ⟨gb, 0, none⟩) fl.B cb) := HFC.out.top.cell (i := 3) (by omega)
      have pk : wr.drew.cell? ⟨gb, k * 2, none⟩ = some (.slice (some ⟨y.g k, 0, none⟩) fl.P (y.cp k)) := by
        have := HFC.out.blk.cell (i := k * 2) (by omega)
        rw [if_pos hkm, hkd, if_neg (by omega)] at this
        exact this
      have S1 : Hid (wr.drew.cell? ⟨Z, 3, none⟩ = some (.slice (some ⟨gb, 0, none⟩) fl.B cb) ∧ wr.drew.cell? ⟨gb, k * 2, none⟩ = some (.slice (some ⟨y.g k, 0, none⟩) fl.P (y.cp k))) := ⟨p3, pk⟩
      have HFr := H.out.below HB.out
      have HCS := Lib.hid (cloneS_any (c := y.cp k) (HFr.drew.pag k hlt) (by omega) (fun i _ => rfl))
      clear p3 pk HFr
      go_wp2_with fail
      refine wp_region_pl (fun Y => Y.cell? ⟨Z, 3, none⟩ = some (.slice (some ⟨gb, 0, none⟩) fl.B cb) ∧ Y.cell? ⟨gb, k * 2, none⟩ = some (.slice (some ⟨y.g k, 0, none⟩) fl.P (y.cp k))) ((0, 0) :: (1, 0) :: (2, 0) :: (3, 0) :: (4, 0) :: (5, 0) :: (6, 0) :: (7, 0) :: (8, 0) :: (9, 1) :: (10, 1) :: (11, 1) :: (12, 2) :: []) (by kernel_rfl) (by kernel_rfl) ?_
      iterate 9 (apply wpP_go; (focus rfl); (focus rfl); (focus exact S1.out); (focus (rintro Q ⟨s0, s1⟩; go_simp; exact rfl)); intro K hK; go_simp; refine hK _ ?_; clear hK K)
      apply wpP_one
      focus rfl
      intro K hK
      go_simp
      refine HCS.out.mono ?_
      rintro e V1 ⟨g1, c1, rfl, hg1, hc1, hc2, r1, b1⟩
      have S2 : Hid (V1.cell? ⟨Z, 3, none⟩ = some (.slice (some ⟨gb, 0, none⟩) fl.B cb) ∧ V1.cell? ⟨gb, k * 2, none⟩ = some (.slice (some ⟨y.g k, 0, none⟩) fl.P (y.cp k))) := ⟨cell_later b1 S1.out.1, cell_later b1 S1.out.2⟩
      have b1' : Below wr.heap.size wr V1 := ((Below.refl _ wr).drew).trans b1
      have HFC2 := Lib.hid (HFC.out.next hlt b1' hg1 r1 ⟨hc1, hc2⟩)
      have HBV : Hid (Below w.heap.size w (V1.setCell ⟨gb, k * 2, none⟩ (.slice (some ⟨g1, 0, none⟩) fl.P c1))) := (HB.out.trans (b1'.mono HB.out.size)).setCell (p := ⟨gb, k * 2, none⟩) HFC.out.low.2.1 _
      have fz := (HFC.out.blk.ch (Ch.of_below b1' (fun _ => False)) id).frozen (k * 2)
      refine hK _ _ S2.out ?_
      clear hK K b1 b1' r1 hg1 hc1 hc2 HFC S1 HCS
      iterate 2 (apply wpP_one; (focus rfl); intro K hK; go_simp; refine hK _ _ S2.out ?_; clear hK K)
      have pk := S2.out.2
      apply wpP_two
      focus rfl
      intro K hK
      go_simp
      refine hK _ _ ?_
      clear hK K pk fz
      refine wpP_done ?_
      clear S2
      go_wp2_with fail
      go_roundw
      case rel => exact ⟨k + 1, _, _, by omega, by go_num, HFC2, HBV⟩
      case measure => simp [intOf]; omega
    · have y0 : ¬ (k : Int) < fl.B := by omega
      have ek : k = fl.B := by omega
      subst ek
      have HD := Lib.hid (HFC.out.done H.out ⟨hcb1, hcb2⟩)
      go_wp2_with fail
      go_ret
      exact ⟨Z, rfl, ⟨_, by have := HD.out; rw [hZ] at this; exact this⟩, by have := HB.out; rw [hZ] at this; exact this⟩
end
end Go.Proofs.Ytfglopkglnpokaa
