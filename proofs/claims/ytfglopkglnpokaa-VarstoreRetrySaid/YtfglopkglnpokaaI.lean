/- A new flash. Condition: the shape is one that is permitted. -/
import Derived.Test.YtfglopkglnpokaaH
namespace Go.Proofs.Ytfglopkglnpokaa
open Go.RowKit
def blank : Str := List.replicate 64 255
def newF (B P E : Nat) : FL := ⟨B, P, E, fun _ _ => blank, fun _ => 0, false, false, 0, 0⟩
theorem Try.infoB : (Try.prog.info? 73).map (fun i => (i.zero, i.size, i.bytes)) = some (some (.agg #[.slice none 0 0, .int .i64 0]), 2, 32) := by kernel_rfl
theorem Rg.made2 (w : World) (t n : Nat) (z : Value) (a b : Value) (hz : z.cells = #[a, b]) : Rg (w.alloc (.cells (madeCells z.cells n) t)) w.heap.size t n (fun i => if i % 2 = 0 then a else b) := by
  refine ⟨_, heap_alloc_new w _, fun i hi => ?_⟩
  rw [hz]
  rcases (by omega : i % 2 = 0 ∨ i % 2 = 1) with h | h
  · simp [madeCells, hi, h]
  · simp [madeCells, hi, h]
/-- A flash under construction: k blocks have their pages. -/
structure FN (w : World) (w0 Z X gb : Nat) (B P E k : Nat) (g : Nat → Nat) : Prop where
  box : Rg w Z 23 3 (fun j => if j = 0 then .int .i64 B else if j = 1 then .int .i64 P else .int .i64 E)
  top : Rg w X 76 8 (flc (newF B P E) ⟨gb, B, g, fun _ => P⟩)
  blk : Rg w gb 73 (B * 2) (fun j => if j % 2 = 0 then (if j / 2 < k then .slice (some ⟨g (j / 2), 0, none⟩) P P else .slice none 0 0) else .int .i64 0)
  pag : ∀ b, b < k → Rg w (g b) 9 P (fun _ => str blank)
  inj : ∀ b c, b < k → c < k → g b = g c → b = c
  low : w0 ≤ Z ∧ w0 ≤ X ∧ w0 ≤ gb ∧ ∀ b, b < k → w0 ≤ g b
theorem FN.next {w w' : World} {w0 Z X gb B P E k g' : Nat} {g : Nat → Nat} (h : FN w w0 Z X gb B P E k g) (hk : k < B) (hb : Below w.heap.size w w') (hg : w.heap.size ≤ g') (hr : Rg w' g' 9 P (fun _ => str blank)) :
    FN (w'.setCell ⟨gb, k * 2, none⟩ (.slice (some ⟨g', 0, none⟩) P P)) w0 Z X gb B P E (k + 1) (fun b => if b = k then g' else g b) := by
  have c : Ch (fun _ => False) w w' := Ch.of_below hb _
  have hbox := h.box.ch c id
  have htop := h.top.ch c id
  have hblk := h.blk.ch c id
  have hXb : X ≠ gb := h.top.ty h.blk (by decide)
  have hZb : Z ≠ gb := h.box.ty h.blk (by decide)
  have hgb : gb ≠ g' := by have := h.blk.lt; omega
  refine ⟨hbox.far (p := ⟨gb, k * 2, none⟩) (Ne.symm hZb) _, (htop.far (p := ⟨gb, k * 2, none⟩) (Ne.symm hXb) _).congr fun j _ => ?_, (hblk.set (i := k * 2) (by omega) _).congr fun j hj => ?_, fun b hbk => ?_, fun b c' hb1 hc1 e => ?_, h.low.1, h.low.2.1, h.low.2.2.1, fun b hbk => ?_⟩
  · rfl
  · by_cases e : j = k * 2
    · subst e
      have e1 : k * 2 % 2 = 0 := by omega
      have e2 : k * 2 / 2 = k := by omega
      rw [upd_hit]
      simp [e1, e2]
    · rw [upd_miss _ _ e]
      by_cases e1 : j % 2 = 0
      · have e2 : j / 2 ≠ k := by omega
        rw [if_pos e1, if_pos e1]
        by_cases e3 : j / 2 < k
        · rw [if_pos e3, if_pos (by omega)]; simp [e2]
        · rw [if_neg e3, if_neg (by omega)]
      · rw [if_neg e1, if_neg e1]
  · by_cases e : b = k
    · subst e
      simp only [if_true]
      exact hr.far (p := ⟨gb, b * 2, none⟩) hgb _
    · simp only [if_neg e]
      have hb' := h.pag b (by omega)
      exact (hb'.ch c id).far (p := ⟨gb, k * 2, none⟩) (fun e2 => (h.blk.ty hb' (by decide)) e2) _
  · by_cases e1 : b = k <;> by_cases e2 : c' = k
    · omega
    · simp only [if_pos e1, if_neg e2] at e
      have := (h.pag c' (by omega)).lt
      omega
    · simp only [if_neg e1, if_pos e2] at e
      have := (h.pag b (by omega)).lt
      omega
    · simp only [if_neg e1, if_neg e2] at e
      exact h.inj b c' (by omega) (by omega) e
  · by_cases e : b = k
    · simp only [if_pos e]
      have := h.low.1
      have := h.box.lt
      omega
    · simp only [if_neg e]
      exact h.low.2.2.2 b (by omega)
theorem FN.done {w : World} {w0 Z X gb B P E : Nat} {g : Nat → Nat} (h : FN w w0 Z X gb B P E B g) (hB : 1 ≤ B ∧ B ≤ 32) (hP : 1 ≤ P ∧ P ≤ 32) (hE : E ≤ 1048576) : FW w (fun k => w0 ≤ k ∧ k < w.heap.size) X ⟨gb, B, g, fun _ => P⟩ (newF B P E) where
  top := h.top
  blk := h.blk.congr fun j hj => by
    have hj' : j < B * 2 := hj
    unfold blc
    by_cases e : j % 2 = 0
    · rw [if_pos e, if_pos e, if_pos (by omega)]; rfl
    · rw [if_neg e, if_neg e]; rfl
  pag := fun b hb => h.pag b hb
  inj := fun b c hb hc e => h.inj b c hb hc e
  dX := ⟨h.low.2.1, h.top.lt⟩
  db := ⟨h.low.2.2.1, h.blk.lt⟩
  dg := fun b hb => ⟨h.low.2.2.2 b hb, (h.pag b hb).lt⟩
  cb := ⟨Nat.le_refl _, by unfold maxLen; show B ≤ _; omega⟩
  cp := fun b hb => ⟨Nat.le_refl _, by unfold maxLen; show P ≤ _; omega⟩
  hB := hB
  hP := hP
  hE := hE
  her := fun b _ => Nat.zero_le _
  hl := ⟨by show -9223372036854775808 ≤ (0 : Int); omega, by show (0 : Int) ≤ _; omega⟩
  ht := Nat.zero_le _
  len := fun b p _ _ => by simp [newF, blank]
  fin := fun k hk => hk.2
set_option maxRecDepth 100000 in
set_option maxHeartbeats 8000000 in
theorem new_any (w : World) (B P E : Nat) (hB : 1 ≤ B ∧ B ≤ 32) (hP : 1 ≤ P ∧ P ≤ 32) (hE : E ≤ 1048576) :
    Calls Try.prog 27 #[.agg #[.int .i64 B, .int .i64 P, .int .i64 E]] w fun e w' => ∃ X y, e = .returned (.tuple #[fptr X, .int .i64 0]) ∧ FW w' (fun k => w.heap.size ≤ k ∧ k < w'.heap.size) X y (newF B P E) ∧ Below w.heap.size w w' := by
  obtain ⟨i0, hi0, hx0, hx1, hx2⟩ := info_parts Try.infoB
  obtain ⟨w1, hw1⟩ : ∃ w1, w.alloc (.cells #[.int .i64 B, .int .i64 P, .int .i64 E] 23) = w1 := ⟨_, rfl⟩
  have R1 : Row w1 w.heap.size 23 3 (fun j => if j = 0 then .int .i64 B else if j = 1 then .int .i64 P else .int .i64 E) := by rw [← hw1]; exact Row.ofList w 23 _ _ 3 rfl
  obtain ⟨Z, hZ⟩ : ∃ Z, w.heap.size = Z := ⟨_, rfl⟩
  have hz1 : w1.heap.size = w.heap.size + 1 := by rw [← hw1]; simp
  have B1 : Below w.heap.size w w1 := by rw [← hw1]; exact (Below.refl _ _).alloc (Nat.le_refl _) _
  rw [hZ] at R1 hz1
  have b0 : w1.cell? ⟨Z, 0, none⟩ = some (.int .i64 B) := R1.cell (i := 0) (by omega)
  have b1 : w1.cell? ⟨Z, 1, none⟩ = some (.int .i64 P) := R1.cell (i := 1) (by omega)
  have b2 : w1.cell? ⟨Z, 2, none⟩ = some (.int .i64 E) := R1.cell (i := 2) (by omega)
  have hBI : (1 : Int) ≤ B ∧ (B : Int) ≤ 32 := by omega
  have hPI : (1 : Int) ≤ P ∧ (P : Int) ≤ 32 := by omega
  have hEI : (E : Int) ≤ 1048576 := by omega
  have S0 : Hid (w1.drew.cell? ⟨Z, 0, none⟩ = some (.int .i64 B) ∧ w1.drew.cell? ⟨Z, 1, none⟩ = some (.int .i64 P) ∧ w1.drew.cell? ⟨Z, 2, none⟩ = some (.int .i64 E)) := ⟨b0, b1, b2⟩
  have hmk : (Instr.makeSlice 74 (.int .i64 (B : Int)) (.int .i64 (B : Int))).run Try.prog w1.drew = .ok (.slice (some ⟨w1.heap.size, 0, none⟩) B B) (w1.drew.alloc (.cells (madeCells (Value.agg #[.slice none 0 0, .int .i64 0]).cells (B * 2)) 73)) := by
    have := run_make (P := Try.prog) w1.drew 74 73 i0 (.agg #[.slice none 0 0, .int .i64 0]) Try.underlying74 hi0 hx0 .i64 .i64 (B : Int) (B : Int) (by omega) (by omega) (by rw [hx2]; omega) (by omega)
    rw [hx1] at this
    simpa using this
  obtain ⟨w2, hw2⟩ : ∃ w2, w1.drew.alloc (.cells (madeCells (Value.agg #[.slice none 0 0, .int .i64 0]).cells (B * 2)) 73) = w2 := ⟨_, rfl⟩
  have R2 : Rg w2 w1.heap.size 73 (B * 2) (fun i => if i % 2 = 0 then .slice none 0 0 else .int .i64 0) := by rw [← hw2]; exact Rg.made2 w1.drew 73 (B * 2) _ _ _ rfl
  have B2 : Below w1.heap.size w1 w2 := by rw [← hw2]; exact ((Below.refl _ _).drew).alloc (Nat.le_refl _) _
  have hz2 : w2.heap.size = Z + 2 := by rw [← hw2]; simp [hz1]
  rw [hw2] at hmk
  rw [hz1] at R2 hmk
  have S2 : Hid (w2.cell? ⟨Z, 0, none⟩ = some (.int .i64 B) ∧ w2.cell? ⟨Z, 1, none⟩ = some (.int .i64 P) ∧ w2.cell? ⟨Z, 2, none⟩ = some (.int .i64 E)) :=
    ⟨(B2.cell (p := ⟨Z, 0, none⟩) (by show Z < _; omega)).trans b0, (B2.cell (p := ⟨Z, 1, none⟩) (by show Z < _; omega)).trans b1, (B2.cell (p := ⟨Z, 2, none⟩) (by show Z < _; omega)).trans b2⟩
  go_enter Try.func27, Try.ntmps27
  go_wp2_with fail
  refine wp_region_pl (fun Y => Y.cell? ⟨Z, 0, none⟩ = some (.int .i64 B) ∧ Y.cell? ⟨Z, 1, none⟩ = some (.int .i64 P) ∧ Y.cell? ⟨Z, 2, none⟩ = some (.int .i64 E)) ((0, 0) :: (1, 0) :: (2, 0) :: (3, 1) :: (4, 0) :: (5, 1) :: (6, 0) :: []) (by kernel_rfl) (by kernel_rfl) ?_
  iterate 3 (apply wpP_go; (focus rfl); (focus rfl); (focus exact S0.out); (focus (rintro Y ⟨s0, s1, s2⟩; go_simp; exact rfl)); intro K hK; go_simp; refine hK _ ?_; clear hK K)
  apply wpP_one
  focus rfl
  intro K hK
  go_simp
  refine hK _ _ S2.out ?_
  clear hK K
  iterate 1 (apply wpP_go; (focus rfl); (focus rfl); (focus exact S2.out); (focus (rintro Y ⟨s0, s1, s2⟩; go_simp; exact rfl)); intro K hK; go_simp; refine hK _ ?_; clear hK K)
  apply wpP_one
  focus rfl
  intro K hK
  go_simp
  have hz3 : (w2.alloc (.cells #[.int .i64 B, .int .i64 P, .int .i64 E, .slice (some ⟨Z + 1, 0, none⟩) B B, .bool false, .bool false, .int .i64 0, .int .u64 0] 76)).heap.size = Z + 3 := by simp [hz2]
  have B3 : Below w2.heap.size w2 (w2.alloc (.cells #[.int .i64 B, .int .i64 P, .int .i64 E, .slice (some ⟨Z + 1, 0, none⟩) B B, .bool false, .bool false, .int .i64 0, .int .u64 0] 76)) := (Below.refl _ _).alloc (Nat.le_refl _) _
  have R3 : Row (w2.alloc (.cells #[.int .i64 B, .int .i64 P, .int .i64 E, .slice (some ⟨Z + 1, 0, none⟩) B B, .bool false, .bool false, .int .i64 0, .int .u64 0] 76)) (Z + 2) 76 8 (flc (newF B P E) ⟨Z + 1, B, fun _ => 0, fun _ => P⟩) := by
    rw [← hz2]
    exact Row.ofList w2 76 _ _ 8 rfl
  have S3 : Hid ((w2.alloc (.cells #[.int .i64 B, .int .i64 P, .int .i64 E, .slice (some ⟨Z + 1, 0, none⟩) B B, .bool false, .bool false, .int .i64 0, .int .u64 0] 76)).cell? ⟨Z, 0, none⟩ = some (.int .i64 B) ∧ (w2.alloc (.cells #[.int .i64 B, .int .i64 P, .int .i64 E, .slice (some ⟨Z + 1, 0, none⟩) B B, .bool false, .bool false, .int .i64 0, .int .u64 0] 76)).cell? ⟨Z, 1, none⟩ = some (.int .i64 P) ∧ (w2.alloc (.cells #[.int .i64 B, .int .i64 P, .int .i64 E, .slice (some ⟨Z + 1, 0, none⟩) B B, .bool false, .bool false, .int .i64 0, .int .u64 0] 76)).cell? ⟨Z, 2, none⟩ = some (.int .i64 E)) :=
    ⟨(B3.cell (p := ⟨Z, 0, none⟩) (by show Z < _; omega)).trans S2.out.1, (B3.cell (p := ⟨Z, 1, none⟩) (by show Z < _; omega)).trans S2.out.2.1, (B3.cell (p := ⟨Z, 2, none⟩) (by show Z < _; omega)).trans S2.out.2.2⟩
  have row_rg : ∀ {W : World} {b t N : Nat} {v : Nat → Value}, Row W b t N v → Rg W b t N v := fun h => by obtain ⟨cs, h1, _, h2⟩ := h; exact ⟨cs, h1, h2⟩
  have HN : Hid (FN (w2.alloc (.cells #[.int .i64 B, .int .i64 P, .int .i64 E, .slice (some ⟨Z + 1, 0, none⟩) B B, .bool false, .bool false, .int .i64 0, .int .u64 0] 76)) Z Z (Z + 2) (Z + 1) B P E 0 (fun _ => 0)) := by
    refine ⟨((row_rg R1).ch (Ch.of_below B2 (fun _ => False)) id).ch (Ch.of_below B3 (fun _ => False)) id, row_rg R3, (R2.ch (Ch.of_below B3 (fun _ => False)) id).congr fun j _ => ?_, fun b hb => by omega, fun b c hb => by omega, by omega, by omega, by omega, fun b hb => by omega⟩
    by_cases e : j % 2 = 0
    · rw [if_pos e, if_pos e, if_neg (by omega)]
    · rw [if_neg e, if_neg e]
  have HB : Hid (Below Z w (w2.alloc (.cells #[.int .i64 B, .int .i64 P, .int .i64 E, .slice (some ⟨Z + 1, 0, none⟩) B B, .bool false, .bool false, .int .i64 0, .int .u64 0] 76))) := by
    have := bthen B1 (bthen B2 B3)
    rw [hZ] at this
    exact this
  refine hK _ _ S3.out ?_
  clear hK K
  clear R1 R2 R3 B1 B2 B3 b0 b1 b2 hmk hw1 hw2
  iterate 1 (apply wpP_go; (focus rfl); (focus rfl); (focus exact S3.out); (focus (rintro Y ⟨s0, s1, s2⟩; go_simp; exact rfl)); intro K hK; go_simp; refine hK _ ?_; clear hK K)
  refine wpP_done ?_
  clear S0 S2 S3
  generalize w2.alloc (.cells #[.int .i64 B, .int .i64 P, .int .i64 E, .slice (some ⟨Z + 1, 0, none⟩) B B, .bool false, .bool false, .int .i64 0, .int .u64 0] 76) = w3 at *
  obtain ⟨er, her, hes⟩ : ∃ er : ByteArray, er = ⟨(Lib.repeatL (⟨#[255]⟩ : ByteArray).data.toList 64).toArray⟩ ∧ Value.string er = str blank := ⟨_, rfl, by rfl⟩
  have HRP := Lib.hid (Try.strings_Repeat ⟨#[255]⟩ 64 w3 (by omega) (by show 1 * 64 ≤ _; omega))
  rw [← her] at HRP
  have HES := Lib.hid hes
  clear her hes
  go_wp2_with fail
  refine HRP.out.mono ?_
  rintro e w4 ⟨rfl, b4⟩
  have HN4 : Hid (∃ g, FN w4 Z Z (Z + 2) (Z + 1) B P E 0 g) := by
    have c : Ch (fun _ => False) w3 w4 := Ch.of_below b4 _
    have h := HN.out
    exact ⟨_, h.box.ch c id, h.top.ch c id, h.blk.ch c id, fun b hb => by omega, fun b c hb => by omega, h.low⟩
  have HB4 : Hid (Below Z w w4) := HB.out.trans (b4.mono (by omega))
  have x3 : w4.cell? ⟨Z + 2, 3, none⟩ = some (.slice (some ⟨Z + 1, 0, none⟩) B B) := by
    obtain ⟨g, h⟩ := HN4.out
    exact h.top.cell (i := 3) (by omega)
  clear HN HB b4 HRP hz3
  go_wp2_with fail
  clear x3
  go_loopw [45] (fun z wr => ∃ k : Nat, k ≤ B ∧ z = .int .i64 (k : Int) ∧ Hid (∃ g, FN wr Z Z (Z + 2) (Z + 1) B P E k g) ∧ Hid (Below Z w wr)) (fun z _ => B - (intOf z).toNat)
  case atStart => exact ⟨0, by omega, rfl, HN4, HB4⟩
  case round =>
    clear HN4 HB4
    obtain ⟨k, hk, rfl, HN, HB⟩ := hrel
    by_cases hkB : k < B
    · have y0 : (k : Int) < B := by omega
      obtain ⟨g, hn⟩ := HN.out
      have S0 : Hid (wr.drew.cell? ⟨Z + 2, 3, none⟩ = some (.slice (some ⟨Z + 1, 0, none⟩) B B) ∧ wr.drew.cell? ⟨Z, 1, none⟩ = some (.int .i64 P)) := ⟨hn.top.cell (i := 3) (by omega), hn.box.cell (i := 1) (by omega)⟩
      obtain ⟨w5, hw5⟩ : ∃ w5, (wr.alloc (.cells #[.string er] 9)).drew = w5 := ⟨_, rfl⟩
      have B5 : Below wr.heap.size wr w5 := by rw [← hw5]; exact ((Below.refl _ _).alloc (Nat.le_refl _) _).drew
      have hz5 : w5.heap.size = wr.heap.size + 1 := by rw [← hw5]; simp
      have c5 : w5.cell? ⟨wr.heap.size, 0, none⟩ = some (.string er) := by rw [← hw5]; exact cell_of_row _ _ 0 _ _ _ (heap_alloc_new wr _)
      have hX := hn.top.lt
      have hZl := hn.box.lt
      have S5 : Hid (w5.cell? ⟨Z + 2, 3, none⟩ = some (.slice (some ⟨Z + 1, 0, none⟩) B B) ∧ w5.cell? ⟨Z, 1, none⟩ = some (.int .i64 P)) :=
        ⟨(B5.cell (p := ⟨Z + 2, 3, none⟩) hX).trans S0.out.1, (B5.cell (p := ⟨Z, 1, none⟩) hZl).trans S0.out.2⟩
      have HRp := Lib.hid (repeat_any w5 wr.heap.size er P hP (by omega) c5)
      have HNh := Lib.hid hn
      have HB5 := Lib.hid B5
      clear hn HN B5 c5
      go_wp2_with fail
      refine wp_region_pl (fun Y => Y.cell? ⟨Z + 2, 3, none⟩ = some (.slice (some ⟨Z + 1, 0, none⟩) B B) ∧ Y.cell? ⟨Z, 1, none⟩ = some (.int .i64 P)) ((0, 0) :: (1, 0) :: (2, 0) :: (3, 0) :: (4, 0) :: (5, 0) :: (7, 0) :: (8, 0) :: (6, 1) :: (9, 1) :: (10, 0) :: (11, 0) :: (12, 1) :: []) (by kernel_rfl) (by kernel_rfl) ?_
      iterate 8 (apply wpP_go; (focus rfl); (focus rfl); (focus exact S0.out); (focus (rintro Y ⟨s0, s1⟩; go_simp; exact rfl)); intro K hK; go_simp; refine hK _ ?_; clear hK K)
      apply wpP_one
      focus rfl
      intro K hK
      go_simp
      refine hK _ _ S5.out ?_
      clear hK K
      apply wpP_one
      focus rfl
      intro K hK
      go_simp
      refine HRp.out.mono ?_
      rintro e w6 ⟨g', rfl, hg', hr6, b6⟩
      have b56 : Below wr.heap.size wr w6 := bthen HB5.out b6
      have S6 : w6.cell? ⟨Z + 2, 3, none⟩ = some (.slice (some ⟨Z + 1, 0, none⟩) B B) ∧ w6.cell? ⟨Z, 1, none⟩ = some (.int .i64 P) :=
        ⟨(b6.cell (p := ⟨Z + 2, 3, none⟩) (by show Z + 2 < _; omega)).trans S5.out.1, (b6.cell (p := ⟨Z, 1, none⟩) (by show Z < _; omega)).trans S5.out.2⟩
      refine hK _ _ S6 ?_
      clear hK K
      have S6h := Lib.hid S6
      iterate 2 (apply wpP_go; (focus rfl); (focus rfl); (focus exact S6h.out); (focus (rintro Y ⟨s0, s1⟩; go_simp; exact rfl)); intro K hK; go_simp; refine hK _ ?_; clear hK K)
      have hblk := HNh.out.blk.ch (Ch.of_below b56 (fun _ => False)) id
      have ck : w6.cell? ⟨Z + 1, k * 2, none⟩ = some (.slice none 0 0) := by
        rw [hblk.cell (i := k * 2) (by omega)]
        have e1 : k * 2 % 2 = 0 := by omega
        have e2 : k * 2 / 2 = k := by omega
        simp [e1, e2]
      have fk : w6.frozen? ⟨Z + 1, k * 2, none⟩ = false := hblk.frozen _
      have HN6 : Hid (∃ g, FN (w6.setCell ⟨Z + 1, k * 2, none⟩ (.slice (some ⟨g', 0, none⟩) P P)) Z Z (Z + 2) (Z + 1) B P E (k + 1) g) :=
        ⟨_, HNh.out.next hkB b56 (by omega) (by rw [HES.out] at hr6; exact hr6)⟩
      have HB6 : Hid (Below Z w (w6.setCell ⟨Z + 1, k * 2, none⟩ (.slice (some ⟨g', 0, none⟩) P P))) :=
        (HB.out.trans (b56.mono (by omega))).setCell (p := ⟨Z + 1, k * 2, none⟩) (by show Z ≤ Z + 1; omega) _
      have S7 : Hid ((w6.setCell ⟨Z + 1, k * 2, none⟩ (.slice (some ⟨g', 0, none⟩) P P)).cell? ⟨Z + 2, 3, none⟩ = some (.slice (some ⟨Z + 1, 0, none⟩) B B) ∧ (w6.setCell ⟨Z + 1, k * 2, none⟩ (.slice (some ⟨g', 0, none⟩) P P)).cell? ⟨Z, 1, none⟩ = some (.int .i64 P)) := by
        obtain ⟨g, h⟩ := HN6.out
        exact ⟨h.top.cell (i := 3) (by omega), h.box.cell (i := 1) (by omega)⟩
      clear hblk hr6 b6 b56 S6 S6h HNh HB
      apply wpP_one
      focus rfl
      intro K hK
      go_simp
      refine hK _ _ S7.out ?_
      clear hK K
      refine wpP_done ?_
      clear S0 S5 S7 ck fk
      generalize w6.setCell ⟨Z + 1, k * 2, none⟩ (.slice (some ⟨g', 0, none⟩) P P) = V at *
      go_wp2_with fail
      go_roundw
      case rel => exact ⟨k + 1, by omega, by go_num, HN6, HB6⟩
      case measure => simp [intOf]; omega
    · have y0 : ¬ (k : Int) < B := by omega
      have ek : k = B := by omega
      obtain ⟨g, hn⟩ := HN.out
      rw [ek] at hn
      have HD := Lib.hid (hn.done hB hP hE)
      clear hn HN
      go_wp2_with fail
      go_ret2
      exact ⟨Z + 2, rfl, ⟨_, HD.out⟩, HB.out⟩
end Go.Proofs.Ytfglopkglnpokaa
