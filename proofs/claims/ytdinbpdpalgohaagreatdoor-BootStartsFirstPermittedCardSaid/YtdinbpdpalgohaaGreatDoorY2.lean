/- Bytes; the flash's Program and Erase. Conditions: those that each theorem names. -/
import Derived.Test.YtdinbpdpalgohaaGreatDoorY1
namespace Go.Proofs.YtdinbpdpalgohaaGreatDoor
open Go.RowKit
section
variable {w : World} {D : Nat → Prop} {X : Nat} {y : FLay} {fl : FL}
abbrev fptr (X : Nat) : Value := .pointer (some ⟨X, 0, none⟩)
theorem shape_any (h : FW w D X y fl) : Calls Tryz.prog 85 #[fptr X] w fun e w' => e = .returned (.agg #[.int .i64 fl.B, .int .i64 fl.P, .int .i64 fl.E]) ∧ Below w.heap.size w w' := by
  have hb : Below w.heap.size w (w.alloc (.cells #[.int .i64 0, .int .i64 0, .int .i64 0] 76)) := (Below.refl _ _).alloc (Nat.le_refl _) _
  have h1 := h.below hb
  have c0 := h1.c0
  have c1 := h1.c1
  have c2 := h1.c2
  clear h h1 hb
  go_enter Tryz.func85, Tryz.ntmps85
  go_wp2_with fail
  exact bodyPost_ret (v := .agg #[.int .i64 fl.B, .int .i64 fl.P, .int .i64 fl.E]) (results_cell_row rfl _ _ w.heap.size 76 #[.int .i64 fl.B, .int .i64 fl.P, .int .i64 fl.E] (0, 0) _ rfl (heap_alloc_new w _) Tryz.underlying76 rfl (by kernel_rfl)) rfl ⟨rfl, (Below.refl _ _).alloc (Nat.le_refl _) _⟩
theorem isBlock_any (h : FW w D X y fl) {b : Nat} (hb : b < fl.B) : Calls Tryz.prog 135 #[fptr X, .int .i64 b] w fun e w' => e = .returned (.bool true) ∧ w = w' := by
  have c0 := h.c0
  have hbI : (b : Int) < fl.B := by omega
  have hB := h.hB
  clear h
  go_enter Tryz.func135, Tryz.ntmps135
  go_wp2_with fail
  go_ret
  exact ⟨by simp, rfl⟩
theorem isPage_any (h : FW w D X y fl) {b p : Nat} (hb : b < fl.B) (hp : p < fl.P) : Calls Tryz.prog 158 #[fptr X, .int .i64 b, .int .i64 p] w fun e w' => e = .returned (.bool true) ∧ w = w' := by
  have c1 := h.c1
  have hpI : (p : Int) < fl.P := by omega
  have HB := Lib.hid (isBlock_any h hb)
  have hP := h.hP
  clear h
  go_enter Tryz.func158, Tryz.ntmps158
  go_wp2_with fail
  refine HB.out.mono ?_
  rintro e w' ⟨rfl, rfl⟩
  go_wp2_with fail
  go_ret
  exact ⟨by simp, rfl⟩
theorem erases_any (h : FW w D X y fl) {b : Nat} (hb : b < fl.B) : Calls Tryz.prog 89 #[fptr X, .int .i64 b] w fun e w' => e = .returned (.int .i64 (fl.er b)) ∧ w = w' := by
  have c3 := h.c3
  have ce := h.ce hb
  have hcb := h.cb
  have hB := h.hB
  have hbI : (b : Int) < fl.B := by omega
  have HB := Lib.hid (isBlock_any h hb)
  clear h
  go_enter Tryz.func89, Tryz.ntmps89
  go_wp2_with fail
  refine HB.out.mono ?_
  rintro e w' ⟨rfl, rfl⟩
  go_wp2_with fail
  go_ret
  exact ⟨rfl, rfl⟩
def readF (fl : FL) (b p : Nat) : Str × Int := if fl.off = true then ([], 16) else (fl.pg b p, 0)
theorem read_any (h : FW w D X y fl) {b p : Nat} (hb : b < fl.B) (hp : p < fl.P) : Calls Tryz.prog 133 #[fptr X, .int .i64 b, .int .i64 p] w fun e w' => e = .returned (.tuple #[str (readF fl b p).1, .int .i64 (readF fl b p).2]) ∧ w = w' := by
  have c3 := h.c3
  have c4 := h.c4
  have cs := h.cs hb
  have cg := h.cg hb hp
  have hcb := h.cb
  have hB := h.hB
  have hP := h.hP
  have hcp := h.cp b hb
  have hbI : (b : Int) < fl.B := by omega
  have hpI : (p : Int) < fl.P := by omega
  have HB := Lib.hid (isPage_any h hb hp)
  unfold readF
  clear h
  cases ho : fl.off
  · rw [ho] at c4
    go_enter Tryz.func133, Tryz.ntmps133
    go_wp2_with fail
    refine HB.out.mono ?_
    rintro e w' ⟨rfl, rfl⟩
    go_wp2_with fail
    go_ret2
    exact ⟨rfl, rfl⟩
  · rw [ho] at c4
    go_enter Tryz.func133, Tryz.ntmps133
    go_wp2_with fail
    refine HB.out.mono ?_
    rintro e w' ⟨rfl, rfl⟩
    go_wp2_with fail
    go_ret2
    exact ⟨rfl, rfl⟩
def loseF (fl : FL) : FL := { fl with off := true, cut := false }
theorem lose_any (h : FW w D X y fl) : Calls Tryz.prog 160 #[fptr X] w fun e w' => e = .returned (.tuple #[]) ∧ FW w' D X y (loseF fl) ∧ Ch D w w' := by
  have c4 := h.c4
  have c5 := h.c5
  have f4 := h.top.frozen 4
  have f5 := h.top.frozen 5
  have H := Lib.hid ((h.setOff true).setCut false)
  have HC : Hid (Ch D w ((w.setCell ⟨X, 4, none⟩ (.bool true)).setCell ⟨X, 5, none⟩ (.bool false))) := (((Ch.refl D w).setCell (p := ⟨X, 4, none⟩) (fun _ => h.dX) _).setCell (p := ⟨X, 5, none⟩) (fun _ => h.dX) _)
  clear h
  go_enter Tryz.func160, Tryz.ntmps160
  go_wp2_with fail
  go_end0
  exact ⟨rfl, H.out, HC.out⟩
def intF (fl : FL) : Bool × FL := if fl.cut = false then (false, fl) else if 0 < fl.left then (false, { fl with left := fl.left - 1 }) else (true, loseF fl)
set_option maxHeartbeats 1000000 in
theorem interrupted_any (h : FW w D X y fl) : Calls Tryz.prog 136 #[fptr X] w fun e w' => e = .returned (.bool (intF fl).1) ∧ FW w' D X y (intF fl).2 ∧ Ch D w w' := by
  have c5 := h.c5
  have c6 := h.c6
  have f6 := h.top.frozen 6
  cases hc : fl.cut
  · rw [hc] at c5
    have e : intF fl = (false, fl) := by unfold intF; rw [hc]; rfl
    rw [e]
    have H := Lib.hid h
    clear h hc
    go_enter Tryz.func136, Tryz.ntmps136
    go_wp2_with fail
    go_ret
    exact ⟨rfl, H.out, Ch.refl _ _⟩
  · rw [hc] at c5
    have hll := h.hl
    by_cases hl : 0 < fl.left
    · have e : intF fl = (false, { fl with left := fl.left - 1 }) := by unfold intF; rw [hc, if_neg (by simp), if_pos hl]
      rw [e]
      have H2 := Lib.hid (h.setLeft (fl.left - 1) (by omega))
      have HC : Hid (Ch D w (w.setCell ⟨X, 6, none⟩ (.int .i64 (fl.left - 1)))) := (Ch.refl D w).setCell (p := ⟨X, 6, none⟩) (fun _ => h.dX) _
      have hd : decide (fl.left > 0) = true := by simpa using hl
      clear h hc e
      generalize fl.left = lf at *
      go_enter Tryz.func136, Tryz.ntmps136
      go_wp2_with fail
      go_ret
      exact ⟨rfl, H2.out, HC.out⟩
    · have hd : decide (fl.left > 0) = false := by simpa using hl
      have e : intF fl = (true, loseF fl) := by unfold intF; rw [hc, if_neg (by simp), if_neg hl]
      rw [e]
      have HL := Lib.hid (lose_any h)
      clear h hc e
      generalize fl.left = lf at *
      go_enter Tryz.func136, Tryz.ntmps136
      go_wp2_with fail
      refine HL.out.mono ?_
      rintro e w1 ⟨rfl, h1, h2⟩
      have H1 := Lib.hid h1
      have H2 := Lib.hid h2
      clear h1 h2
      go_wp2_with fail
      go_ret
      exact ⟨rfl, H1.out, H2.out⟩
def cutF (fl : FL) (n : Int) (t : Nat) : FL := { fl with cut := decide (0 ≤ n), left := n, torn := t }
def onF (fl : FL) : Int × FL := if fl.off = true then (0, { fl with off := false }) else (9, fl)
theorem selected_any (t i : Nat) (w : World) (hi : i < 64) : Calls Tryz.prog 137 #[.int .u64 t, .int .i64 i] w fun e w' => e = .returned (.int .u8 ((t / 2 ^ (8 * (i % 8)) % 256 : Nat) : Int)) ∧ w = w' := by
  go_enter Tryz.func137, Tryz.ntmps137
  go_wp2_with fail
  go_ret
  exact ⟨rfl, rfl⟩
end
end Go.Proofs.YtdinbpdpalgohaaGreatDoor
namespace Go.Proofs.YtdinbpdpalgohaaGreatDoor
open Go.RowKit
theorem bv8 (a : UInt8) : BitVec.ofInt 8 (a.toNat : Int) = a.toBitVec := by
  rw [BitVec.ofInt_natCast]
  apply BitVec.eq_of_toNat_eq
  rw [BitVec.toNat_ofNat]
  exact Nat.mod_eq_of_lt a.toNat_lt
theorem wrap8 (a : UInt8) : IntKind.u8.wrap (a.toNat : Int) = (a.toNat : Int) := by
  have := a.toNat_lt
  simp [IntKind.wrap_u8]
  omega
theorem b_andNot (a b : UInt8) : bits .andNot .u8 (a.toNat : Int) (b.toNat : Int) = ((a &&& ~~~b).toNat : Int) := by
  show IntKind.u8.wrap ((BitVec.ofInt 8 (a.toNat : Int) &&& ~~~BitVec.ofInt 8 (b.toNat : Int)).toNat : Int) = _
  rw [bv8, bv8]
  exact wrap8 (a &&& ~~~b)
theorem b_and (a b : UInt8) : bits .and .u8 (a.toNat : Int) (b.toNat : Int) = ((a &&& b).toNat : Int) := by
  show IntKind.u8.wrap ((BitVec.ofInt 8 (a.toNat : Int) &&& BitVec.ofInt 8 (b.toNat : Int)).toNat : Int) = _
  rw [bv8, bv8]
  exact wrap8 (a &&& b)
theorem b_or (a b : UInt8) : bits .or .u8 (a.toNat : Int) (b.toNat : Int) = ((a ||| b).toNat : Int) := by
  show IntKind.u8.wrap ((BitVec.ofInt 8 (a.toNat : Int) ||| BitVec.ofInt 8 (b.toNat : Int)).toNat : Int) = _
  rw [bv8, bv8]
  exact wrap8 (a ||| b)
/-- Block g begins with these bytes, and they may be written. -/
def Bt (w : World) (g n : Nat) (l : Str) : Prop := ∃ (cur : Array Value) (fr : Nat × Nat), w.heap[g]? = some (.cells cur 5 fr) ∧ l.length = n ∧ (∀ i, i < n → cur[i]? = some (.int .u8 ((l.getD i 0).toNat : Int))) ∧ ∀ i, i < n → ¬ (fr.1 ≤ i ∧ i < fr.2)
section
variable {w w' : World} {g n : Nat} {l : Str}
theorem Bt.lt (h : Bt w g n l) : g < w.heap.size := by obtain ⟨_, _, hh, _⟩ := h; exact heap_lt hh
theorem Bt.cell (h : Bt w g n l) {i : Nat} (hi : i < n) : w.cell? ⟨g, i, none⟩ = some (.int .u8 ((l.getD i 0).toNat : Int)) := by
  obtain ⟨cur, fr, hh, _, h2, _⟩ := h
  rw [cell_of_row _ _ _ _ _ _ hh, h2 i hi]
theorem Bt.frozen (h : Bt w g n l) {i : Nat} (hi : i < n) : w.frozen? ⟨g, i, none⟩ = false := by
  obtain ⟨cur, fr, hh, _, _, h3⟩ := h
  have h4 := h3 i hi
  simp [World.frozen?, hh]
  omega
theorem Bt.ch {C : Nat → Prop} (h : Bt w g n l) (k : Ch C w w') (hg : ¬ C g) : Bt w' g n l := by
  have hl := h.lt
  obtain ⟨cur, fr, hh, r⟩ := h
  exact ⟨cur, fr, (k.block g hl hg).trans hh, r⟩
theorem Bt.set (h : Bt w g n l) {i : Nat} (hi : i < n) (u : UInt8) : Bt (w.setCell ⟨g, i, none⟩ (.int .u8 (u.toNat : Int))) g n (l.set i u) := by
  obtain ⟨cur, fr, hh, h1, h2, h3⟩ := h
  refine ⟨cur.setIfInBounds i (.int .u8 (u.toNat : Int)), fr, ?_, by rw [List.length_set]; exact h1, fun j hj => ?_, h3⟩
  · simp [World.setCell, Array.getElem?_modify, hh]
  · by_cases e : j = i
    · subst e
      rw [set_hit (Array.getElem?_eq_some_iff.1 (h2 j hj)).1, List.getD_eq_getElem?_getD, List.getElem?_set_self (by omega)]
      rfl
    · rw [set_miss (Ne.symm e), h2 j hj, List.getD_eq_getElem?_getD, List.getD_eq_getElem?_getD, List.getElem?_set_ne (Ne.symm e)]
theorem Bt.str (h : Bt w g n l) (cap : Nat) : (convert 99 9 (.slice (some ⟨g, 0, none⟩) n cap)).run Tryz.prog w = .ok (.string ⟨l.toArray⟩) w := by
  obtain ⟨cur, fr, hh, h1, h2, h3⟩ := h
  have := run_convert_bytes_back (P := Tryz.prog) w 99 9 5 ⟨g, 0, none⟩ cap l Tryz.underlying99 Tryz.underlying5 Tryz.underlying9 (fun j hj => by
    rw [Addr.add_mid, cell_of_row _ _ _ _ _ _ hh, Nat.zero_add, h2 j (by omega), List.getD_eq_getElem?_getD, List.getElem?_eq_getElem hj]
    rfl)
  rw [h1] at this
  exact this
end
theorem conv_bytes (w : World) (s : ByteArray) (hs : s.size ≤ 100000) : ∃ cap W, (convert 9 99 (.string s)).run Tryz.prog w = .ok (.slice (some ⟨w.heap.size, 0, none⟩) s.size cap) W ∧ s.size ≤ cap ∧ cap ≤ maxLen ∧ Bt W w.heap.size s.size s.data.toList ∧ Below w.heap.size w W := by
  have hg1 := grownCap_ge w s.size 0 5
  have hg2 := grownCap_le_maxLen w s.size 0 5 (by unfold maxLen; omega)
  refine ⟨_, _, run_bytes_of_string (P := Tryz.prog) w 9 99 5 s Tryz.underlying9 Tryz.underlying99 Tryz.underlying5, hg1, hg2, ⟨_, _, heap_alloc_new w.drew _, Array.length_toList, fun i hi => ?_, fun i hi => ?_⟩, ((Below.refl _ _).drew).alloc (Nat.le_refl _) _⟩
  · generalize grownCap w s.size 0 5 = cap at *
    have h0 : i < s.data.size := hi
    unfold bytesRow
    rw [Array.getElem?_append_left (by simpa using h0), Array.getElem?_map, Array.getElem?_eq_getElem h0, List.getD_eq_getElem?_getD, List.getElem?_eq_getElem (by simpa using h0)]
    simp
  · generalize grownCap w s.size 0 5 = cap at *
    have : (bytesRow s cap).size = cap := by
      simp [bytesRow]
      have : s.data.size = s.size := rfl
      omega
    simp only [this]
    omega
end Go.Proofs.YtdinbpdpalgohaaGreatDoor
namespace Go.Proofs.YtdinbpdpalgohaaGreatDoor
open Go.RowKit
def fits1 (o d : UInt8) : Bool := d &&& ~~~o == 0
def fitsB (old s : Str) : Bool := (List.zipWith fits1 old s).all id
def selB (t i : Nat) : UInt8 := UInt8.ofNat (t / 2 ^ (8 * (i % 8)) % 256)
def torn1 (t i : Nat) (o d : UInt8) : UInt8 := o &&& ~~~((o &&& ~~~d) &&& selB t i)
def tornP (t : Nat) (old s : Str) : Str := (List.range old.length).map fun i => torn1 t i (old.getD i 0) (s.getD i 0)
def progF (fl : FL) (b p : Nat) (s : Str) : Int × FL :=
  if fl.off = true then (16, fl) else if fitsB (fl.pg b p) s = false then (9, fl)
  else if (intF fl).1 = false then (0, (intF fl).2.put b p s) else (16, (intF fl).2.put b p (tornP fl.torn (fl.pg b p) s))
theorem intF_same (fl : FL) : (intF fl).2.B = fl.B ∧ (intF fl).2.P = fl.P ∧ (intF fl).2.E = fl.E ∧ (intF fl).2.pg = fl.pg ∧ (intF fl).2.er = fl.er ∧ (intF fl).2.torn = fl.torn := by
  unfold intF
  split
  · exact ⟨rfl, rfl, rfl, rfl, rfl, rfl⟩
  · split <;> exact ⟨rfl, rfl, rfl, rfl, rfl, rfl⟩
theorem str_of {s : ByteArray} {l : Str} (h : s.data.toList = l) : Value.string s = str l := by
  rw [← h]
section
variable {w : World} {D : Nat → Prop} {X : Nat} {y : FLay} {fl : FL}
set_option maxRecDepth 100000 in
set_option maxHeartbeats 4000000 in
theorem program_any (h : FW w D X y fl) {b p : Nat} (hb : b < fl.B) (hp : p < fl.P) {d : ByteArray} (hd : d.size = 64) :
    Calls Tryz.prog 139 #[fptr X, .int .i64 b, .int .i64 p, .string d] w fun e w' => e = .returned (.int .i64 (progF fl b p d.data.toList).1) ∧ FW w' D X y (progF fl b p d.data.toList).2 ∧ Ch D w w' := by
  have c3 := h.c3
  have c4 := h.c4
  have cs := h.cs hb
  have cg := h.cg hb hp
  have hcb := h.cb
  have hB := h.hB
  have hP := h.hP
  have hcp := h.cp b hb
  have hbI : (b : Int) < fl.B := by omega
  have hpI : (p : Int) < fl.P := by omega
  have HB := Lib.hid (isPage_any h hb hp)
  have H := Lib.hid h
  have hlen := h.len b p hb hp
  obtain ⟨old, hold⟩ : ∃ old : ByteArray, old = ⟨(fl.pg b p).toArray⟩ := ⟨_, rfl⟩
  have hol : old.data.toList = fl.pg b p := by rw [hold]
  have hos : old.size = 64 := by rw [hold]; simpa [ByteArray.size] using hlen
  have HOL := Lib.hid hol
  rw [show str (fl.pg b p) = .string old by rw [hold]] at cg
  clear h hold hol hlen
  cases ho : fl.off
  · rw [ho] at c4
    go_enter Tryz.func139, Tryz.ntmps139
    go_wp2_with fail
    refine HB.out.mono ?_
    rintro e w' ⟨rfl, rfl⟩
    go_wp2_with fail
    have HC : Hid (Ch D w w) := Ch.refl _ _
    go_loopw [40] (fun z wr => ∃ i : Nat, i ≤ 64 ∧ z = .int .i64 (i : Int) ∧ Hid (∀ j, j < i → fits1 (old.data.toList.getD j 0) (d.data.toList.getD j 0) = true) ∧ Hid (FW wr D X y fl) ∧ Hid (Ch D w wr)) (fun z _ => 64 - (intOf z).toNat)
    case atStart => exact ⟨0, by omega, rfl, fun j hj => by omega, H, HC⟩
    case round =>
      clear cs cg c3 c4 H HC HB
      obtain ⟨i, hi, rfl, HJ, H, HC⟩ := hrel
      by_cases hi6 : i < 64
      · have y0 : (i : Int) < 64 := by omega
        have hdl : d.data.toList.getD i 0 = d[i] := by
          rw [List.getD_eq_getElem?_getD, List.getElem?_eq_getElem (by rw [Array.length_toList]; exact (by omega : i < d.size))]; rfl
        have hol : old.data.toList.getD i 0 = old[i] := by
          rw [List.getD_eq_getElem?_getD, List.getElem?_eq_getElem (by rw [Array.length_toList]; exact (by omega : i < old.size))]; rfl
        by_cases hf : fits1 (old.data.toList.getD i 0) (d.data.toList.getD i 0) = true
        · have ha : bits .andNot .u8 (d[i].toNat : Int) (old[i].toNat : Int) = 0 := by
            rw [b_andNot]
            rw [hdl, hol] at hf
            unfold fits1 at hf
            rw [beq_iff_eq] at hf
            rw [hf]; rfl
          have HJ2 : Hid (∀ j, j < i + 1 → fits1 (old.data.toList.getD j 0) (d.data.toList.getD j 0) = true) := fun j hj => by
            rcases (by omega : j < i ∨ j = i) with h1 | h1
            · exact HJ.out j h1
            · rw [h1]; exact hf
          have H2 : Hid (FW wr.drew D X y fl) := H.out.drew
          have HC2 : Hid (Ch D w wr.drew) := HC.out.drew
          clear hdl hol hf HJ H HC
          go_wp2_with fail
          refine wp_region_pl (fun _ => True) ((0, 0) :: (1, 0) :: (2, 0) :: (3, 0) :: (4, 0) :: (5, 0) :: (6, 0) :: (7, 0) :: []) (by kernel_rfl) (by kernel_rfl) ?_
          iterate 8 (apply wpP_go; (focus rfl); (focus rfl); (focus exact trivial); (focus (rintro Z _; go_simp; exact rfl)); intro K hK; go_simp; refine hK _ ?_; clear hK K)
          refine wpP_done ?_
          clear ha
          generalize wr.drew = V at *
          go_wp2_with fail
          go_roundw
          case rel => exact ⟨i + 1, by omega, by go_num, HJ2, H2, HC2⟩
          case measure => simp [intOf]; omega
        · obtain ⟨x, ha, hx⟩ : ∃ x : Int, bits .andNot .u8 (d[i].toNat : Int) (old[i].toNat : Int) = x ∧ x ≠ 0 := by
            refine ⟨_, rfl, ?_⟩
            rw [b_andNot]
            rw [hdl, hol] at hf
            unfold fits1 at hf
            rw [beq_iff_eq] at hf
            intro h0
            apply hf
            apply UInt8.toNat_inj.1
            simpa using h0
          have HS : Hid (progF fl b p d.data.toList = (9, fl)) := by
            show _ = _
            unfold progF
            rw [if_neg (by rw [ho]; simp), if_pos]
            unfold fitsB
            rw [← HOL.out]
            rw [List.all_eq_false]
            refine ⟨fits1 (old.data.toList.getD i 0) (d.data.toList.getD i 0), ?_, by simpa using hf⟩
            have h1 : i < old.data.toList.length := by rw [Array.length_toList]; exact (by omega : i < old.size)
            have h2 : i < d.data.toList.length := by rw [Array.length_toList]; exact (by omega : i < d.size)
            rw [List.getD_eq_getElem?_getD, List.getD_eq_getElem?_getD, List.getElem?_eq_getElem h1, List.getElem?_eq_getElem h2]
            have h3 : i < (List.zipWith fits1 old.data.toList d.data.toList).length := by rw [List.length_zipWith]; omega
            have := List.getElem_mem h3
            rw [List.getElem_zipWith] at this
            exact this
          have H2 : Hid (FW wr.drew D X y fl) := H.out.drew
          have HC2 : Hid (Ch D w wr.drew) := HC.out.drew
          clear hdl hol hf HJ H HC
          go_wp2_with fail
          refine wp_region_pl (fun _ => True) ((0, 0) :: (1, 0) :: (2, 0) :: (3, 0) :: (4, 0) :: (5, 0) :: (6, 0) :: (7, 0) :: []) (by kernel_rfl) (by kernel_rfl) ?_
          iterate 8 (apply wpP_go; (focus rfl); (focus rfl); (focus exact trivial); (focus (rintro Z _; go_simp; exact rfl)); intro K hK; go_simp; refine hK _ ?_; clear hK K)
          refine wpP_done ?_
          clear ha
          generalize wr.drew = V at *
          go_wp2_with fail
          go_ret
          rw [HS.out]
          exact ⟨rfl, H2.out, HC2.out⟩
      · have y0 : ¬ (i : Int) < 64 := by omega
        have hfit : fitsB (fl.pg b p) d.data.toList = true := by
          unfold fitsB
          rw [List.all_eq_true]
          intro x hx
          obtain ⟨j, hj, rfl⟩ := List.getElem_of_mem hx
          rw [List.length_zipWith] at hj
          rw [List.getElem_zipWith]
          have e1 : (fl.pg b p).length = 64 := by rw [← HOL.out, Array.length_toList]; exact hos
          have := HJ.out j (by omega)
          rw [HOL.out, List.getD_eq_getElem?_getD, List.getD_eq_getElem?_getD, List.getElem?_eq_getElem (by omega), List.getElem?_eq_getElem (by omega)] at this
          exact this
        have HPF : Hid (progF fl b p d.data.toList = if (intF fl).1 = false then (0, (intF fl).2.put b p d.data.toList) else (16, (intF fl).2.put b p (tornP fl.torn (fl.pg b p) d.data.toList))) := by
          show _ = _
          unfold progF
          rw [if_neg (by rw [ho]; simp), if_neg (by rw [hfit]; simp)]
        have HI := Lib.hid (interrupted_any H.out)
        obtain ⟨sB, sP, sE, sp, se, st⟩ := intF_same fl
        have SB := Lib.hid sB
        have SP := Lib.hid sP
        have Spg := Lib.hid sp
        have ST := Lib.hid st
        obtain ⟨f2, hf2⟩ : ∃ f2, (intF fl).2 = f2 := ⟨_, rfl⟩
        rw [hf2] at HI HPF SB SP Spg ST
        have hdl : d.data.toList.length = 64 := by rw [Array.length_toList]; exact hd
        clear hf2 sB sP sE sp se st HJ
        rcases hin : (intF fl).1 with _ | _
        · rw [hin] at HI
          rw [hin, if_pos rfl] at HPF
          go_wp2_with fail
          refine HI.out.mono ?_
          rintro e w2 ⟨rfl, h2, k2⟩
          have hb2 : b < f2.B := by rw [SB.out]; exact hb
          have hp2 : p < f2.P := by rw [SP.out]; exact hp
          have c3 := h2.c3
          have cs := h2.cs hb2
          have cg := h2.cg hb2 hp2
          have fg := (h2.pag b hb2).frozen p
          have hcb2 := h2.cb
          have hcp2 := h2.cp b hb2
          have hbI2 : (b : Int) < f2.B := by omega
          have hpI2 : (p : Int) < f2.P := by omega
          have HS := Lib.hid (h2.setPg hb2 hp2 hdl)
          have HK : Hid (Ch D w (w2.setCell ⟨y.g b, p, none⟩ (.string d))) := (HC.out.trans k2).setCell (p := ⟨y.g b, p, none⟩) (fun _ => h2.dg b hb2) _
          clear h2 k2
          go_wp2_with fail
          go_ret
          rw [HPF.out]
          exact ⟨rfl, HS.out, HK.out⟩
        · rw [hin] at HI
          rw [hin, if_neg (by simp)] at HPF
          go_wp2_with fail
          refine HI.out.mono ?_
          rintro e w2 ⟨rfl, h2, k2⟩
          obtain ⟨cap, w3, hcv, hc1, hc2, hbt, hbel⟩ := conv_bytes w2 old (by omega)
          rw [hos] at hcv hc1 hbt
          have hDg : Hid (¬ D w2.heap.size) := fun hk => by have := h2.fin _ hk; omega
          have H3 := Lib.hid (h2.below hbel)
          have K3 : Hid (Ch D w w3) := (HC.out.trans k2).trans (Ch.of_below hbel _)
          have hgW : w.heap.size ≤ w2.heap.size := by have := k2.size; have := HC.out.size; omega
          have hg3 : w2.heap.size < w3.heap.size := hbt.lt
          have HBT0 : Hid (∃ c : Str, Bt w3 w2.heap.size 64 c ∧ ∀ j, j < 64 → c.getD j 0 = if j < 0 then torn1 fl.torn j (old.data.toList.getD j 0) (d.data.toList.getD j 0) else old.data.toList.getD j 0) := ⟨_, hbt, fun j hj => by rw [if_neg (by omega)]⟩
          obtain ⟨g, hg⟩ : ∃ g, w2.heap.size = g := ⟨_, rfl⟩
          rw [hg] at hcv HBT0 hgW hDg hg3
          clear h2 k2 hbt hbel
          go_wp2_with fail
          clear hcv hg
          go_loopw [70] (fun z wr => ∃ i : Nat, i ≤ 64 ∧ z = .int .i64 (i : Int) ∧ Hid (∃ c : Str, Bt wr g 64 c ∧ ∀ j, j < 64 → c.getD j 0 = if j < i then torn1 fl.torn j (old.data.toList.getD j 0) (d.data.toList.getD j 0) else old.data.toList.getD j 0) ∧ Hid (FW wr D X y f2) ∧ Hid (Ch D w wr)) (fun z _ => 64 - (intOf z).toNat)
          case atStart => exact ⟨0, by omega, rfl, HBT0, H3, K3⟩
          case round =>
            clear H3 K3 HBT0
            obtain ⟨i, hi, rfl, HBT, H3, K3⟩ := hrel
            by_cases hi7 : i < 64
            · have z0 : (i : Int) < 64 := by omega
              obtain ⟨c, hbt, hcj⟩ := HBT.out
              have hoi : old.data.toList.getD i 0 = old[i]'(by omega) := by
                rw [List.getD_eq_getElem?_getD, List.getElem?_eq_getElem (by rw [Array.length_toList]; exact (by omega : i < old.size))]; rfl
              have hdi : d.data.toList.getD i 0 = d[i]'(by omega) := by
                rw [List.getD_eq_getElem?_getD, List.getElem?_eq_getElem (by rw [Array.length_toList]; exact (by omega : i < d.size))]; rfl
              have hci : c.getD i 0 = old[i]'(by omega) := by rw [hcj i hi7, if_neg (by omega), hoi]
              have cb := hbt.cell hi7
              have fb := hbt.frozen hi7
              rw [hci] at cb
              have c7 := H3.out.c7
              rw [ST.out] at c7
              obtain ⟨ss, hss⟩ : ∃ ss : UInt8, ss = selB fl.torn i := ⟨_, rfl⟩
              obtain ⟨a1, ha1⟩ : ∃ a : UInt8, a = (old[i]'(by omega)) &&& ~~~(d[i]'(by omega)) := ⟨_, rfl⟩
              obtain ⟨a2, ha2⟩ : ∃ a : UInt8, a = a1 &&& ss := ⟨_, rfl⟩
              obtain ⟨a3, ha3⟩ : ∃ a : UInt8, a = (old[i]'(by omega)) &&& ~~~a2 := ⟨_, rfl⟩
              have ht1 : torn1 fl.torn i (old[i]'(by omega)) (d[i]'(by omega)) = a3 := by rw [ha3, ha2, ha1, hss]; rfl
              have e1 : bits .andNot .u8 ((old[i]'(by omega)).toNat : Int) ((d[i]'(by omega)).toNat : Int) = (a1.toNat : Int) := by rw [ha1]; exact b_andNot _ _
              have e2 : bits .and .u8 (a1.toNat : Int) (ss.toNat : Int) = (a2.toNat : Int) := by rw [ha2]; exact b_and _ _
              have e3 : bits .andNot .u8 ((old[i]'(by omega)).toNat : Int) (a2.toNat : Int) = (a3.toNat : Int) := by rw [ha3]; exact b_andNot _ _
              have HNX : Hid (∃ c : Str, Bt (wr.setCell ⟨g, i, none⟩ (.int .u8 (a3.toNat : Int))).drew g 64 c ∧ ∀ j, j < 64 → c.getD j 0 = if j < i + 1 then torn1 fl.torn j (old.data.toList.getD j 0) (d.data.toList.getD j 0) else old.data.toList.getD j 0) := by
                refine ⟨_, (hbt.ch (w' := wr.drew) ((Ch.refl (fun _ => False) wr).drew) id).set hi7 _, fun j hj => ?_⟩
                have hcl : c.length = 64 := by obtain ⟨_, _, _, h1, _⟩ := hbt; exact h1
                by_cases e : j = i
                · subst e
                  rw [if_pos (by omega), List.getD_eq_getElem?_getD, List.getElem?_set_self (by omega), hoi, hdi]
                  exact ht1.symm
                · rw [List.getD_eq_getElem?_getD, List.getElem?_set_ne (Ne.symm e), ← List.getD_eq_getElem?_getD, hcj j hj]
                  by_cases e2 : j < i
                  · rw [if_pos e2, if_pos (by omega)]
                  · rw [if_neg e2, if_neg (by omega)]
              have H3n : Hid (FW (wr.setCell ⟨g, i, none⟩ (.int .u8 (a3.toNat : Int))).drew D X y f2) :=
                H3.out.ch (((Ch.refl (fun k => k = g) wr).drew).setCell (p := ⟨g, i, none⟩) (fun _ => rfl) _) (fun k hk e => hDg.out (by rw [← e]; exact hk))
              have K3n : Hid (Ch D w (wr.setCell ⟨g, i, none⟩ (.int .u8 (a3.toNat : Int))).drew) :=
                (K3.out.drew).setCell (p := ⟨g, i, none⟩) (fun h => by have : g < w.heap.size := h; omega) _
              have HSEL : Hid (∀ Y : World, Calls Tryz.prog 137 #[.int .u64 (fl.torn : Int), .int .i64 (i : Int)] Y fun e w' => e = .returned (.int .u8 (ss.toNat : Int)) ∧ Y = w') := fun Y => by
                have := selected_any fl.torn i Y hi7
                have e : ((fl.torn / 2 ^ (8 * (i % 8)) % 256 : Nat) : Int) = (ss.toNat : Int) := by
                  rw [hss]
                  unfold selB
                  rw [u8_of (by omega)]
                rw [e] at this
                exact this
              have S0 : Hid (wr.drew.cell? ⟨X, 7, none⟩ = some (.int .u64 (fl.torn : Int)) ∧ wr.drew.cell? ⟨g, i, none⟩ = some (.int .u8 ((old[i]'(by omega)).toNat : Int))) := ⟨c7, cb⟩
              have cb' : wr.drew.cell? ⟨g, i, none⟩ = some (.int .u8 ((old[i]'(by omega)).toNat : Int)) := cb
              have fb' : wr.drew.frozen? ⟨g, i, none⟩ = false := fb
              clear hbt hcj hci hoi hdi cb fb c7 ht1 HBT H3 K3 ha1 ha2 ha3 hss
              go_wp2_with fail
              refine wp_region_pl (fun Y => Y.cell? ⟨X, 7, none⟩ = some (.int .u64 (fl.torn : Int)) ∧ Y.cell? ⟨g, i, none⟩ = some (.int .u8 ((old[i]'(by omega)).toNat : Int))) ((0, 0) :: (1, 0) :: (2, 0) :: (3, 0) :: (4, 0) :: (5, 0) :: (6, 0) :: (7, 0) :: (8, 0) :: (9, 0) :: (10, 0) :: (11, 0) :: (12, 0) :: (13, 0) :: (14, 0) :: (15, 0) :: (16, 0) :: (17, 0) :: (18, 0) :: (19, 0) :: (20, 2) :: []) (by kernel_rfl) (by kernel_rfl) ?_
              iterate 16 (apply wpP_go; (focus rfl); (focus rfl); (focus exact S0.out); (focus (rintro Z ⟨s0, s1⟩; go_simp; exact rfl)); intro K hK; go_simp; refine hK _ ?_; clear hK K)
              apply wpP_call
              focus rfl
              focus rfl
              focus exact S0.out
              focus (rintro Z ⟨s0, s1⟩; go_simp; exact ⟨rfl, rfl⟩)
              focus (intro Z _; exact HSEL.out Z)
              intro K hK
              go_simp
              refine hK _ ?_
              clear hK K
              iterate 3 (apply wpP_go; (focus rfl); (focus rfl); (focus exact S0.out); (focus (rintro Z ⟨s0, s1⟩; go_simp; exact rfl)); intro K hK; go_simp; refine hK _ ?_; clear hK K)
              apply wpP_two
              focus rfl
              intro K hK
              go_simp
              refine hK _ _ ?_
              clear hK K
              refine wpP_done ?_
              clear S0 cb' fb' e1 e2 e3 HSEL
              generalize (wr.setCell ⟨g, i, none⟩ (.int .u8 (a3.toNat : Int))).drew = V at *
              go_wp2_with fail
              go_roundw
              case rel => exact ⟨i + 1, by omega, by go_num, HNX, H3n, K3n⟩
              case measure => simp [intOf]; omega
            · have z0 : ¬ (i : Int) < 64 := by omega
              obtain ⟨c, hbt, hcj⟩ := HBT.out
              have hcl : c.length = 64 := by obtain ⟨_, _, _, h1, _⟩ := hbt; exact h1
              have hce : c = tornP fl.torn (fl.pg b p) d.data.toList := by
                have hol : (fl.pg b p).length = 64 := by rw [← HOL.out, Array.length_toList]; exact hos
                apply List.ext_getElem
                · rw [tornP, List.length_map, List.length_range, hol, hcl]
                · intro j h1 h2
                  have hj : j < 64 := by omega
                  have := hcj j hj
                  rw [if_pos (by omega), HOL.out, List.getD_eq_getElem?_getD, List.getElem?_eq_getElem h1] at this
                  simp only [Option.getD_some] at this
                  rw [this]
                  have h3 : (tornP fl.torn (fl.pg b p) d.data.toList)[j]? = some (torn1 fl.torn j ((fl.pg b p).getD j 0) (d.data.toList.getD j 0)) := by
                    unfold tornP
                    rw [List.getElem?_map, List.getElem?_range (by omega)]
                    rfl
                  rw [List.getElem?_eq_getElem h2] at h3
                  exact (Option.some.inj h3).symm
              subst hce
              have hb2 : b < f2.B := by rw [SB.out]; exact hb
              have hp2 : p < f2.P := by rw [SP.out]; exact hp
              have hcs := hbt.str (w := wr.drew) cap
              obtain ⟨new, hnew⟩ : ∃ new : ByteArray, new = ⟨(tornP fl.torn (fl.pg b p) d.data.toList).toArray⟩ := ⟨_, rfl⟩
              rw [← hnew] at hcs
              have h3 := H3.out.drew
              have c3 := h3.c3
              have cs := h3.cs hb2
              have cg := h3.cg hb2 hp2
              have fg := (h3.pag b hb2).frozen p
              have hcb2 := h3.cb
              have hcp2 := h3.cp b hb2
              have hbI2 : (b : Int) < f2.B := by omega
              have hpI2 : (p : Int) < f2.P := by omega
              have HS : Hid (FW (wr.setCell ⟨y.g b, p, none⟩ (.string new)).drew D X y (f2.put b p (tornP fl.torn (fl.pg b p) d.data.toList))) := by
                have := h3.setPg hb2 hp2 hcl
                rw [hnew]
                exact this
              have HK : Hid (Ch D w (wr.setCell ⟨y.g b, p, none⟩ (.string new)).drew) := (K3.out.drew).setCell (p := ⟨y.g b, p, none⟩) (fun _ => h3.dg b hb2) _
              have S0 : Hid (wr.drew.cell? ⟨X, 3, none⟩ = some (.slice (some ⟨y.gb, 0, none⟩) f2.B y.cb) ∧ wr.drew.cell? ⟨y.gb, b * 2, none⟩ = some (.slice (some ⟨y.g b, 0, none⟩) f2.P (y.cp b)) ∧ (convert 99 9 (.slice (some ⟨g, 0, none⟩) 64 cap)).run Tryz.prog wr.drew = .ok (.string new) wr.drew) := ⟨c3, cs, hcs⟩
              clear h3 hbt hcj hnew hcl HBT H3 K3
              have c3' := S0.out.1
              have cs' := S0.out.2.1
              go_wp2_with fail
              refine wp_region_pl (fun Y => Y.cell? ⟨X, 3, none⟩ = some (.slice (some ⟨y.gb, 0, none⟩) f2.B y.cb) ∧ Y.cell? ⟨y.gb, b * 2, none⟩ = some (.slice (some ⟨y.g b, 0, none⟩) f2.P (y.cp b)) ∧ (convert 99 9 (.slice (some ⟨g, 0, none⟩) 64 cap)).run Tryz.prog Y = .ok (.string new) Y) ((0, 0) :: (1, 0) :: (2, 0) :: (3, 0) :: (4, 0) :: (5, 0) :: (6, 0) :: (7, 0) :: (8, 0) :: (9, 0) :: (10, 0) :: (11, 0) :: (12, 2) :: []) (by kernel_rfl) (by kernel_rfl) ?_
              iterate 12 (apply wpP_go; (focus rfl); (focus rfl); (focus exact S0.out); (focus (rintro Z ⟨s0, s1, s2⟩; go_simp; exact rfl)); intro K hK; go_simp; refine hK _ ?_; clear hK K)
              apply wpP_two
              focus rfl
              intro K hK
              go_simp
              refine hK _ _ ?_
              clear hK K
              refine wpP_done ?_
              clear S0 c3 cs cg fg c3' cs' hcs
              generalize (wr.setCell ⟨y.g b, p, none⟩ (.string new)).drew = V at *
              go_wp2_with fail
              go_ret
              rw [HPF.out]
              exact ⟨rfl, HS.out, HK.out⟩
  · rw [ho] at c4
    have HPF : Hid (progF fl b p d.data.toList = (16, fl)) := by
      show _ = _
      unfold progF
      rw [if_pos ho]
    go_enter Tryz.func139, Tryz.ntmps139
    go_wp2_with fail
    refine HB.out.mono ?_
    rintro e w' ⟨rfl, rfl⟩
    go_wp2_with fail
    go_ret
    rw [HPF.out]
    exact ⟨rfl, H.out, Ch.refl _ _⟩
end
end Go.Proofs.YtdinbpdpalgohaaGreatDoor
namespace Go.Proofs.YtdinbpdpalgohaaGreatDoor
open Go.RowKit
def tornE (t : Nat) (old : Str) : Str := (List.range old.length).map fun i => old.getD i 0 ||| selB t i
/-- The first k pages of block b erased under a mask. -/
def FL.eras (fl : FL) (b k t : Nat) : FL := { fl with pg := fun c q => if c = b ∧ q < k then tornE t (fl.pg c q) else fl.pg c q }
theorem eras_zero (fl : FL) (b t : Nat) : fl.eras b 0 t = fl := by
  unfold FL.eras
  have : (fun c q => if c = b ∧ q < 0 then tornE t (fl.pg c q) else fl.pg c q) = fl.pg := by funext c q; simp
  rw [this]
theorem eras_put (fl : FL) (b k t : Nat) : (fl.eras b k t).put b k (tornE t (fl.pg b k)) = fl.eras b (k + 1) t := by
  unfold FL.eras FL.put
  have : up2 (fun c q => if c = b ∧ q < k then tornE t (fl.pg c q) else fl.pg c q) b k (tornE t (fl.pg b k)) = fun c q => if c = b ∧ q < k + 1 then tornE t (fl.pg c q) else fl.pg c q := by
    funext c q
    unfold up2
    by_cases e : c = b
    · subst e
      by_cases e2 : q = k
      · subst e2; simp
      · by_cases e3 : q < k
        · simp [e2, e3]; omega
        · have : ¬ q < k + 1 := by omega
          simp [e2, e3, this]
    · simp [e]
  rw [this]
def eraseF (fl : FL) (b : Nat) : Int × FL :=
  if fl.off = true then (16, fl) else if fl.E ≤ fl.er b then (15, fl)
  else if (intF (fl.erd b (fl.er b + 1))).1 = false then (0, (intF (fl.erd b (fl.er b + 1))).2.eras b fl.P 18446744073709551615) else (16, (intF (fl.erd b (fl.er b + 1))).2.eras b fl.P fl.torn)
theorem tornE_len (t : Nat) (l : Str) : (tornE t l).length = l.length := by simp [tornE]
section
variable {w : World} {D : Nat → Prop} {X : Nat} {y : FLay} {fl : FL}
set_option maxRecDepth 100000 in
set_option maxHeartbeats 8000000 in
theorem erase_any (h : FW w D X y fl) {b : Nat} (hb : b < fl.B) :
    Calls Tryz.prog 88 #[fptr X, .int .i64 b] w fun e w' => e = .returned (.int .i64 (eraseF fl b).1) ∧ FW w' D X y (eraseF fl b).2 ∧ Ch D w w' := by
  have c3 := h.c3
  have c4 := h.c4
  have hcb := h.cb
  have hB := h.hB
  have hP := h.hP
  have hcp := h.cp b hb
  have hbI : (b : Int) < fl.B := by omega
  have HB := Lib.hid (isBlock_any h hb)
  have H := Lib.hid h
  cases ho : fl.off
  · rw [ho] at c4
    have her := h.her b hb
    have hE := h.hE
    have S0 : Hid (w.drew.cell? ⟨y.gb, b * 2 + 1, none⟩ = some (.int .i64 (fl.er b)) ∧ w.drew.cell? ⟨X, 2, none⟩ = some (.int .i64 fl.E)) := ⟨h.ce hb, h.c2⟩
    clear h
    go_enter Tryz.func88, Tryz.ntmps88
    go_wp2_with fail
    refine HB.out.mono ?_
    rintro e w' ⟨rfl, rfl⟩
    go_wp2_with fail
    refine wp_region_pl (fun Y => Y.cell? ⟨y.gb, b * 2 + 1, none⟩ = some (.int .i64 (fl.er b)) ∧ Y.cell? ⟨X, 2, none⟩ = some (.int .i64 fl.E)) ((0, 0) :: (1, 0) :: (2, 0) :: (3, 0) :: (4, 0) :: (5, 0) :: (6, 0) :: (7, 0) :: (8, 0) :: (9, 0) :: []) (by kernel_rfl) (by kernel_rfl) ?_
    iterate 10 (apply wpP_go; (focus rfl); (focus rfl); (focus exact S0.out); (focus (rintro Z ⟨s0, s1⟩; go_simp; exact rfl)); intro K hK; go_simp; refine hK _ ?_; clear hK K)
    refine wpP_done ?_
    have Hd := Lib.hid H.out.drew
    have Kd : Hid (Ch D w w.drew) := (Ch.refl D w).drew
    clear S0 c3 c4 H HB
    generalize w.drew = V at *
    by_cases hful : fl.E ≤ fl.er b
    · have hfI : (fl.E : Int) ≤ (fl.er b : Int) := by omega
      have HPF : Hid (eraseF fl b = (15, fl)) := by
        show _ = _
        unfold eraseF
        rw [if_neg (by rw [ho]; simp), if_pos hful]
      have hd1 : decide ((fl.er b : Int) ≥ (fl.E : Int)) = true := by simpa using hful
      go_wp2_with fail
      go_ret
      rw [HPF.out]
      exact ⟨rfl, Hd.out, Kd.out⟩
    · have hd1 : decide ((fl.er b : Int) ≥ (fl.E : Int)) = false := by simpa using hful
      obtain ⟨ev, hev⟩ : ∃ ev, fl.er b = ev := ⟨_, rfl⟩
      have ce : V.cell? ⟨y.gb, b * 2 + 1, none⟩ = some (.int .i64 ev) := by rw [← hev]; exact Hd.out.ce hb
      have fe := Hd.out.blk.frozen (b * 2 + 1)
      have h1 : FW (V.setCell ⟨y.gb, b * 2 + 1, none⟩ (.int .i64 ((ev : Int) + 1))) D X y (fl.erd b (ev + 1)) := by
        have := Hd.out.setEr (v := ev + 1) hb (by omega)
        exact this
      have HPF : Hid (eraseF fl b = if (intF (fl.erd b (ev + 1))).1 = false then (0, (intF (fl.erd b (ev + 1))).2.eras b fl.P 18446744073709551615) else (16, (intF (fl.erd b (ev + 1))).2.eras b fl.P fl.torn)) := by
        show _ = _
        unfold eraseF
        rw [if_neg (by rw [ho]; simp), if_neg hful, hev]
      have K1 : Hid (Ch D w (V.setCell ⟨y.gb, b * 2 + 1, none⟩ (.int .i64 ((ev : Int) + 1)))) := Kd.out.setCell (p := ⟨y.gb, b * 2 + 1, none⟩) (fun _ => Hd.out.db) _
      have HI := Lib.hid (interrupted_any h1)
      obtain ⟨sB, sP, sE, sp, se, st⟩ := intF_same (fl.erd b (ev + 1))
      have SB : Hid ((intF (fl.erd b (ev + 1))).2.B = fl.B) := sB
      have SP : Hid ((intF (fl.erd b (ev + 1))).2.P = fl.P) := sP
      have ST : Hid ((intF (fl.erd b (ev + 1))).2.torn = fl.torn) := st
      have hevl : ev ≤ 1048576 := by omega
      rw [hev] at hd1 ⊢
      have hevE : (ev : Int) < fl.E := by omega
      obtain ⟨i1, hi1⟩ : ∃ i1, (intF (fl.erd b (ev + 1))).1 = i1 := ⟨_, rfl⟩
      obtain ⟨f2, hf2⟩ : ∃ f2, (intF (fl.erd b (ev + 1))).2 = f2 := ⟨_, rfl⟩
      rw [hi1, hf2] at HI HPF
      rw [hf2] at SB SP ST
      clear hf2 hi1 sB sP sE sp se st h1 hev Kd Hd hful her
      cases i1
      · rw [if_pos rfl] at HPF
        go_wp2_with fail
        refine HI.out.mono ?_
        rintro e w2 ⟨rfl, h2, k2⟩
        have hb2 : b < f2.B := by rw [SB.out]; exact hb
        have H2 : Hid (FW w2 D X y (f2.eras b 0 18446744073709551615)) := by rw [eras_zero]; exact h2
        have K2 : Hid (Ch D w w2) := K1.out.trans k2
        have cs : w2.cell? ⟨y.gb, b * 2, none⟩ = some (.slice (some ⟨y.g b, 0, none⟩) fl.P (y.cp b)) := by rw [← SP.out]; exact h2.cs hb2
        have hm0 : 18446744073709551615 ≤ 18446744073709551615 := Nat.le_refl _
        clear h2 k2
        clear HI K1 ce fe
        go_wp2_with fail
        clear cs
        go_loopw [54] (fun z wr => ∃ k : Nat, k ≤ fl.P ∧ z = .int .i64 (k : Int) ∧ Hid (FW wr D X y (f2.eras b k 18446744073709551615)) ∧ Hid (Ch D w wr)) (fun z _ => fl.P - (intOf z).toNat)
        case atStart => exact ⟨0, by omega, rfl, H2, K2⟩
        case round =>
          clear H2 K2
          obtain ⟨k, hk, rfl, H2, K2⟩ := hrel
          by_cases hkP : k < fl.P
          · have y0 : (k : Int) < fl.P := by omega
            have hk2 : k < f2.P := by rw [SP.out]; exact hkP
            obtain ⟨old, hold⟩ : ∃ old : ByteArray, old = ⟨((f2.eras b k 18446744073709551615).pg b k).toArray⟩ := ⟨_, rfl⟩
            have epg : (f2.eras b k 18446744073709551615).pg b k = f2.pg b k := by simp [FL.eras]
            have hol : old.data.toList = f2.pg b k := by rw [hold, ← epg]
            have hos : old.size = 64 := by
              have := H2.out.len b k hb2 hk2
              rw [hold]; simpa [ByteArray.size] using this
            have cg : wr.cell? ⟨y.g b, k, none⟩ = some (.string old) := by
              rw [hold]; exact H2.out.cg hb2 hk2
            obtain ⟨cap, w3, hcv, hc1, hc2, hbt, hbel⟩ := conv_bytes wr old (by omega)
            rw [hos] at hcv hc1 hbt
            have hDg : Hid (¬ D wr.heap.size) := fun hk => by have := H2.out.fin _ hk; omega
            have H3 := Lib.hid (H2.out.below hbel)
            have K3 : Hid (Ch D w w3) := K2.out.trans (Ch.of_below hbel _)
            have hgW : w.heap.size ≤ wr.heap.size := K2.out.size
            have hg3 : wr.heap.size < w3.heap.size := hbt.lt
            have HOL := Lib.hid hol
            have HBT0 : Hid (∃ c : Str, Bt w3 wr.heap.size 64 c ∧ ∀ j, j < 64 → c.getD j 0 = if j < 0 then old.data.toList.getD j 0 ||| selB 18446744073709551615 j else old.data.toList.getD j 0) := ⟨_, hbt, fun j hj => by rw [if_neg (by omega)]⟩
            obtain ⟨g, hg⟩ : ∃ g, wr.heap.size = g := ⟨_, rfl⟩
            rw [hg] at hcv HBT0 hgW hDg hg3
            clear hbt hbel hold hol epg H2 K2
            go_wp2_with fail
            clear hcv hg cg
            go_loopw [63] (fun z wr => ∃ i : Nat, i ≤ 64 ∧ z = .int .i64 (i : Int) ∧ Hid (∃ c : Str, Bt wr g 64 c ∧ ∀ j, j < 64 → c.getD j 0 = if j < i then old.data.toList.getD j 0 ||| selB 18446744073709551615 j else old.data.toList.getD j 0) ∧ Hid (FW wr D X y (f2.eras b k 18446744073709551615)) ∧ Hid (Ch D w wr)) (fun z _ => 64 - (intOf z).toNat)
            case atStart => exact ⟨0, by omega, rfl, HBT0, H3, K3⟩
            case round =>
              clear H3 K3 HBT0
              obtain ⟨i, hi, rfl, HBT, H3, K3⟩ := hrel
              by_cases hi7 : i < 64
              · have z0 : (i : Int) < 64 := by omega
                obtain ⟨c, hbt, hcj⟩ := HBT.out
                obtain ⟨oi, hoi⟩ : ∃ oi : UInt8, oi = old.data.toList.getD i 0 := ⟨_, rfl⟩
                have hci : c.getD i 0 = oi := by rw [hcj i hi7, if_neg (by omega), hoi]
                obtain ⟨ss, hss⟩ : ∃ ss : UInt8, ss = selB 18446744073709551615 i := ⟨_, rfl⟩
                obtain ⟨a3, ha3⟩ : ∃ a : UInt8, a = oi ||| ss := ⟨_, rfl⟩
                have e3 : bits .or .u8 (oi.toNat : Int) (ss.toNat : Int) = (a3.toNat : Int) := by rw [ha3]; exact b_or _ _
                have cb := hbt.cell hi7
                have fb := hbt.frozen hi7
                rw [hci] at cb
                have HNX : Hid (∃ c : Str, Bt (wr.setCell ⟨g, i, none⟩ (.int .u8 (a3.toNat : Int))).drew g 64 c ∧ ∀ j, j < 64 → c.getD j 0 = if j < i + 1 then old.data.toList.getD j 0 ||| selB 18446744073709551615 j else old.data.toList.getD j 0) := by
                  refine ⟨_, (hbt.ch (w' := wr.drew) ((Ch.refl (fun _ => False) wr).drew) id).set hi7 _, fun j hj => ?_⟩
                  have hcl : c.length = 64 := by obtain ⟨_, _, _, h1, _⟩ := hbt; exact h1
                  by_cases e : j = i
                  · subst e
                    rw [if_pos (by omega), List.getD_eq_getElem?_getD, List.getElem?_set_self (by omega), ← hoi, ← hss]
                    exact ha3
                  · rw [List.getD_eq_getElem?_getD, List.getElem?_set_ne (Ne.symm e), ← List.getD_eq_getElem?_getD, hcj j hj]
                    by_cases e2 : j < i
                    · rw [if_pos e2, if_pos (by omega)]
                    · rw [if_neg e2, if_neg (by omega)]
                have H3n : Hid (FW (wr.setCell ⟨g, i, none⟩ (.int .u8 (a3.toNat : Int))).drew D X y (f2.eras b k 18446744073709551615)) :=
                  H3.out.ch (((Ch.refl (fun k => k = g) wr).drew).setCell (p := ⟨g, i, none⟩) (fun _ => rfl) _) (fun k hk e => hDg.out (by rw [← e]; exact hk))
                have K3n : Hid (Ch D w (wr.setCell ⟨g, i, none⟩ (.int .u8 (a3.toNat : Int))).drew) :=
                  (K3.out.drew).setCell (p := ⟨g, i, none⟩) (fun h => by have : g < w.heap.size := h; omega) _
                have HSEL : Hid (∀ Y : World, Calls Tryz.prog 137 #[.int .u64 18446744073709551615, .int .i64 (i : Int)] Y fun e w' => e = .returned (.int .u8 (ss.toNat : Int)) ∧ Y = w') := fun Y => by
                  have := selected_any 18446744073709551615 i Y hi7
                  have e : ((18446744073709551615 / 2 ^ (8 * (i % 8)) % 256 : Nat) : Int) = (ss.toNat : Int) := by
                    rw [hss]
                    unfold selB
                    rw [u8_of (by omega)]
                  rw [e] at this
                  exact this
                have S0 : Hid (wr.drew.cell? ⟨g, i, none⟩ = some (.int .u8 (oi.toNat : Int))) := cb
                have cb' : wr.drew.cell? ⟨g, i, none⟩ = some (.int .u8 (oi.toNat : Int)) := cb
                have fb' : wr.drew.frozen? ⟨g, i, none⟩ = false := fb
                clear hbt hcj hci hoi cb fb HBT H3 K3 ha3 hss
                go_wp2_with fail
                refine wp_region_pl (fun Y => Y.cell? ⟨g, i, none⟩ = some (.int .u8 (oi.toNat : Int))) ((0, 0) :: (1, 0) :: (2, 0) :: (3, 0) :: (4, 0) :: (5, 0) :: (6, 0) :: (7, 0) :: (8, 0) :: (9, 2) :: []) (by kernel_rfl) (by kernel_rfl) ?_
                iterate 6 (apply wpP_go; (focus rfl); (focus rfl); (focus exact S0.out); (focus (rintro Z s0; go_simp; exact rfl)); intro K hK; go_simp; refine hK _ ?_; clear hK K)
                apply wpP_call
                focus rfl
                focus rfl
                focus exact S0.out
                focus (rintro Z s0; go_simp; exact ⟨rfl, rfl⟩)
                focus (intro Z _; exact HSEL.out Z)
                intro K hK
                go_simp
                refine hK _ ?_
                clear hK K
                iterate 2 (apply wpP_go; (focus rfl); (focus rfl); (focus exact S0.out); (focus (rintro Z s0; go_simp; exact rfl)); intro K hK; go_simp; refine hK _ ?_; clear hK K)
                apply wpP_two
                focus rfl
                intro K hK
                go_simp
                refine hK _ _ ?_
                clear hK K
                refine wpP_done ?_
                clear S0 cb' fb' e3 HSEL
                generalize (wr.setCell ⟨g, i, none⟩ (.int .u8 (a3.toNat : Int))).drew = V at *
                go_wp2_with fail
                go_roundw
                case rel => exact ⟨i + 1, by omega, by go_num, HNX, H3n, K3n⟩
                case measure => simp [intOf]; omega
              · have z0 : ¬ (i : Int) < 64 := by omega
                obtain ⟨c, hbt, hcj⟩ := HBT.out
                have hcl : c.length = 64 := by obtain ⟨_, _, _, h1, _⟩ := hbt; exact h1
                have hce : c = tornE 18446744073709551615 (f2.pg b k) := by
                  have hol : (f2.pg b k).length = 64 := by rw [← HOL.out, Array.length_toList]; exact hos
                  apply List.ext_getElem
                  · rw [tornE, List.length_map, List.length_range, hol, hcl]
                  · intro j h1 h2
                    have hj : j < 64 := by omega
                    have := hcj j hj
                    rw [if_pos (by omega), HOL.out, List.getD_eq_getElem?_getD, List.getElem?_eq_getElem h1] at this
                    simp only [Option.getD_some] at this
                    rw [this]
                    have h3 : (tornE 18446744073709551615 (f2.pg b k))[j]? = some ((f2.pg b k).getD j 0 ||| selB 18446744073709551615 j) := by
                      unfold tornE
                      rw [List.getElem?_map, List.getElem?_range (by omega)]
                      rfl
                    rw [List.getElem?_eq_getElem h2] at h3
                    exact (Option.some.inj h3).symm
                subst hce
                have hcs := hbt.str (w := wr.drew) cap
                obtain ⟨new, hnew⟩ : ∃ new : ByteArray, new = ⟨(tornE 18446744073709551615 (f2.pg b k)).toArray⟩ := ⟨_, rfl⟩
                rw [← hnew] at hcs
                have h3 := H3.out.drew
                have hcs2 : wr.drew.cell? ⟨y.gb, b * 2, none⟩ = some (.slice (some ⟨y.g b, 0, none⟩) fl.P (y.cp b)) := by rw [← SP.out]; exact h3.cs hb2
                have cg : wr.drew.cell? ⟨y.g b, k, none⟩ = some (str ((f2.eras b k 18446744073709551615).pg b k)) := h3.cg hb2 hk2
                have fg := (h3.pag b hb2).frozen k
                have HS : Hid (FW (wr.setCell ⟨y.g b, k, none⟩ (.string new)).drew D X y (f2.eras b (k + 1) 18446744073709551615)) := by
                  have := h3.setPg (p := k) hb2 hk2 (s := tornE 18446744073709551615 (f2.pg b k)) hcl
                  rw [eras_put] at this
                  rw [hnew]
                  exact this
                have HK : Hid (Ch D w (wr.setCell ⟨y.g b, k, none⟩ (.string new)).drew) := (K3.out.drew).setCell (p := ⟨y.g b, k, none⟩) (fun _ => h3.dg b hb2) _
                have S0 : Hid (wr.drew.cell? ⟨y.gb, b * 2, none⟩ = some (.slice (some ⟨y.g b, 0, none⟩) fl.P (y.cp b)) ∧ (convert 99 9 (.slice (some ⟨g, 0, none⟩) 64 cap)).run Tryz.prog wr.drew = .ok (.string new) wr.drew) := ⟨hcs2, hcs⟩
                clear h3 hbt hcj hnew hcl HBT H3 K3
                go_wp2_with fail
                refine wp_region_pl (fun Y => Y.cell? ⟨y.gb, b * 2, none⟩ = some (.slice (some ⟨y.g b, 0, none⟩) fl.P (y.cp b)) ∧ (convert 99 9 (.slice (some ⟨g, 0, none⟩) 64 cap)).run Tryz.prog Y = .ok (.string new) Y) ((0, 0) :: (1, 0) :: (2, 0) :: (3, 0) :: (4, 0) :: (5, 0) :: (6, 0) :: (7, 0) :: (8, 2) :: []) (by kernel_rfl) (by kernel_rfl) ?_
                iterate 8 (apply wpP_go; (focus rfl); (focus rfl); (focus exact S0.out); (focus (rintro Z ⟨s0, s1⟩; go_simp; exact rfl)); intro K hK; go_simp; refine hK _ ?_; clear hK K)
                apply wpP_two
                focus rfl
                intro K hK
                go_simp
                refine hK _ _ ?_
                clear hK K
                refine wpP_done ?_
                clear S0 hcs2 cg fg hcs
                generalize (wr.setCell ⟨y.g b, k, none⟩ (.string new)).drew = V at *
                go_wp2_with fail
                exact ⟨⟨k + 1, by omega, by go_num, HS, HK⟩, by simp [intOf]; omega⟩
          · have y0 : ¬ (k : Int) < fl.P := by omega
            have ek : k = fl.P := by omega
            go_wp2_with fail
            go_ret
            rw [HPF.out]
            subst ek
            exact ⟨rfl, H2.out, K2.out⟩
      · rw [if_neg (by simp)] at HPF
        go_wp2_with fail
        refine HI.out.mono ?_
        rintro e w2 ⟨rfl, h2, k2⟩
        have hb2 : b < f2.B := by rw [SB.out]; exact hb
        have H2 : Hid (FW w2.drew D X y (f2.eras b 0 fl.torn)) := by rw [eras_zero]; exact h2.drew
        have K2 : Hid (Ch D w w2.drew) := (K1.out.trans k2).drew
        have S1 : Hid (w2.drew.cell? ⟨X, 7, none⟩ = some (.int .u64 (fl.torn : Int))) := by rw [← ST.out]; exact h2.c7
        have hm0 : fl.torn ≤ 18446744073709551615 := by rw [← ST.out]; exact h2.ht
        have S2 : Hid (∀ Y, Y = w2.drew → Y.cell? ⟨y.gb, b * 2, none⟩ = some (.slice (some ⟨y.g b, 0, none⟩) fl.P (y.cp b))) := fun Y e => by rw [e, ← SP.out]; exact h2.cs hb2
        clear h2 k2
        go_wp2_with fail
        refine wp_region_pl (fun Y => Y.cell? ⟨X, 7, none⟩ = some (.int .u64 (fl.torn : Int))) ((0, 0) :: (1, 0) :: (2, 0) :: (3, 0) :: (4, 0) :: (5, 0) :: []) (by kernel_rfl) (by kernel_rfl) ?_
        iterate 6 (apply wpP_go; (focus rfl); (focus rfl); (focus exact S1.out); (focus (rintro Z s0; go_simp; exact rfl)); intro K hK; go_simp; refine hK _ ?_; clear hK K)
        refine wpP_done ?_
        have cs := S2.out _ rfl
        clear S1 S2
        generalize w2.drew = w2 at *
        clear HI K1 ce fe
        go_wp2_with fail
        clear cs
        go_loopw [54] (fun z wr => ∃ k : Nat, k ≤ fl.P ∧ z = .int .i64 (k : Int) ∧ Hid (FW wr D X y (f2.eras b k fl.torn)) ∧ Hid (Ch D w wr)) (fun z _ => fl.P - (intOf z).toNat)
        case atStart => exact ⟨0, by omega, rfl, H2, K2⟩
        case round =>
          clear H2 K2
          obtain ⟨k, hk, rfl, H2, K2⟩ := hrel
          by_cases hkP : k < fl.P
          · have y0 : (k : Int) < fl.P := by omega
            have hk2 : k < f2.P := by rw [SP.out]; exact hkP
            obtain ⟨old, hold⟩ : ∃ old : ByteArray, old = ⟨((f2.eras b k fl.torn).pg b k).toArray⟩ := ⟨_, rfl⟩
            have epg : (f2.eras b k fl.torn).pg b k = f2.pg b k := by simp [FL.eras]
            have hol : old.data.toList = f2.pg b k := by rw [hold, ← epg]
            have hos : old.size = 64 := by
              have := H2.out.len b k hb2 hk2
              rw [hold]; simpa [ByteArray.size] using this
            have cg : wr.cell? ⟨y.g b, k, none⟩ = some (.string old) := by
              rw [hold]; exact H2.out.cg hb2 hk2
            obtain ⟨cap, w3, hcv, hc1, hc2, hbt, hbel⟩ := conv_bytes wr old (by omega)
            rw [hos] at hcv hc1 hbt
            have hDg : Hid (¬ D wr.heap.size) := fun hk => by have := H2.out.fin _ hk; omega
            have H3 := Lib.hid (H2.out.below hbel)
            have K3 : Hid (Ch D w w3) := K2.out.trans (Ch.of_below hbel _)
            have hgW : w.heap.size ≤ wr.heap.size := K2.out.size
            have hg3 : wr.heap.size < w3.heap.size := hbt.lt
            have HOL := Lib.hid hol
            have HBT0 : Hid (∃ c : Str, Bt w3 wr.heap.size 64 c ∧ ∀ j, j < 64 → c.getD j 0 = if j < 0 then old.data.toList.getD j 0 ||| selB fl.torn j else old.data.toList.getD j 0) := ⟨_, hbt, fun j hj => by rw [if_neg (by omega)]⟩
            obtain ⟨g, hg⟩ : ∃ g, wr.heap.size = g := ⟨_, rfl⟩
            rw [hg] at hcv HBT0 hgW hDg hg3
            clear hbt hbel hold hol epg H2 K2
            go_wp2_with fail
            clear hcv hg cg
            go_loopw [63] (fun z wr => ∃ i : Nat, i ≤ 64 ∧ z = .int .i64 (i : Int) ∧ Hid (∃ c : Str, Bt wr g 64 c ∧ ∀ j, j < 64 → c.getD j 0 = if j < i then old.data.toList.getD j 0 ||| selB fl.torn j else old.data.toList.getD j 0) ∧ Hid (FW wr D X y (f2.eras b k fl.torn)) ∧ Hid (Ch D w wr)) (fun z _ => 64 - (intOf z).toNat)
            case atStart => exact ⟨0, by omega, rfl, HBT0, H3, K3⟩
            case round =>
              clear H3 K3 HBT0
              obtain ⟨i, hi, rfl, HBT, H3, K3⟩ := hrel
              by_cases hi7 : i < 64
              · have z0 : (i : Int) < 64 := by omega
                obtain ⟨c, hbt, hcj⟩ := HBT.out
                obtain ⟨oi, hoi⟩ : ∃ oi : UInt8, oi = old.data.toList.getD i 0 := ⟨_, rfl⟩
                have hci : c.getD i 0 = oi := by rw [hcj i hi7, if_neg (by omega), hoi]
                obtain ⟨ss, hss⟩ : ∃ ss : UInt8, ss = selB fl.torn i := ⟨_, rfl⟩
                obtain ⟨a3, ha3⟩ : ∃ a : UInt8, a = oi ||| ss := ⟨_, rfl⟩
                have e3 : bits .or .u8 (oi.toNat : Int) (ss.toNat : Int) = (a3.toNat : Int) := by rw [ha3]; exact b_or _ _
                have cb := hbt.cell hi7
                have fb := hbt.frozen hi7
                rw [hci] at cb
                have HNX : Hid (∃ c : Str, Bt (wr.setCell ⟨g, i, none⟩ (.int .u8 (a3.toNat : Int))).drew g 64 c ∧ ∀ j, j < 64 → c.getD j 0 = if j < i + 1 then old.data.toList.getD j 0 ||| selB fl.torn j else old.data.toList.getD j 0) := by
                  refine ⟨_, (hbt.ch (w' := wr.drew) ((Ch.refl (fun _ => False) wr).drew) id).set hi7 _, fun j hj => ?_⟩
                  have hcl : c.length = 64 := by obtain ⟨_, _, _, h1, _⟩ := hbt; exact h1
                  by_cases e : j = i
                  · subst e
                    rw [if_pos (by omega), List.getD_eq_getElem?_getD, List.getElem?_set_self (by omega), ← hoi, ← hss]
                    exact ha3
                  · rw [List.getD_eq_getElem?_getD, List.getElem?_set_ne (Ne.symm e), ← List.getD_eq_getElem?_getD, hcj j hj]
                    by_cases e2 : j < i
                    · rw [if_pos e2, if_pos (by omega)]
                    · rw [if_neg e2, if_neg (by omega)]
                have H3n : Hid (FW (wr.setCell ⟨g, i, none⟩ (.int .u8 (a3.toNat : Int))).drew D X y (f2.eras b k fl.torn)) :=
                  H3.out.ch (((Ch.refl (fun k => k = g) wr).drew).setCell (p := ⟨g, i, none⟩) (fun _ => rfl) _) (fun k hk e => hDg.out (by rw [← e]; exact hk))
                have K3n : Hid (Ch D w (wr.setCell ⟨g, i, none⟩ (.int .u8 (a3.toNat : Int))).drew) :=
                  (K3.out.drew).setCell (p := ⟨g, i, none⟩) (fun h => by have : g < w.heap.size := h; omega) _
                have HSEL : Hid (∀ Y : World, Calls Tryz.prog 137 #[.int .u64 (fl.torn : Int), .int .i64 (i : Int)] Y fun e w' => e = .returned (.int .u8 (ss.toNat : Int)) ∧ Y = w') := fun Y => by
                  have := selected_any fl.torn i Y hi7
                  have e : ((fl.torn / 2 ^ (8 * (i % 8)) % 256 : Nat) : Int) = (ss.toNat : Int) := by
                    rw [hss]
                    unfold selB
                    rw [u8_of (by omega)]
                  rw [e] at this
                  exact this
                have S0 : Hid (wr.drew.cell? ⟨g, i, none⟩ = some (.int .u8 (oi.toNat : Int))) := cb
                have cb' : wr.drew.cell? ⟨g, i, none⟩ = some (.int .u8 (oi.toNat : Int)) := cb
                have fb' : wr.drew.frozen? ⟨g, i, none⟩ = false := fb
                clear hbt hcj hci hoi cb fb HBT H3 K3 ha3 hss
                go_wp2_with fail
                refine wp_region_pl (fun Y => Y.cell? ⟨g, i, none⟩ = some (.int .u8 (oi.toNat : Int))) ((0, 0) :: (1, 0) :: (2, 0) :: (3, 0) :: (4, 0) :: (5, 0) :: (6, 0) :: (7, 0) :: (8, 0) :: (9, 2) :: []) (by kernel_rfl) (by kernel_rfl) ?_
                iterate 6 (apply wpP_go; (focus rfl); (focus rfl); (focus exact S0.out); (focus (rintro Z s0; go_simp; exact rfl)); intro K hK; go_simp; refine hK _ ?_; clear hK K)
                apply wpP_call
                focus rfl
                focus rfl
                focus exact S0.out
                focus (rintro Z s0; go_simp; exact ⟨rfl, rfl⟩)
                focus (intro Z _; exact HSEL.out Z)
                intro K hK
                go_simp
                refine hK _ ?_
                clear hK K
                iterate 2 (apply wpP_go; (focus rfl); (focus rfl); (focus exact S0.out); (focus (rintro Z s0; go_simp; exact rfl)); intro K hK; go_simp; refine hK _ ?_; clear hK K)
                apply wpP_two
                focus rfl
                intro K hK
                go_simp
                refine hK _ _ ?_
                clear hK K
                refine wpP_done ?_
                clear S0 cb' fb' e3 HSEL
                generalize (wr.setCell ⟨g, i, none⟩ (.int .u8 (a3.toNat : Int))).drew = V at *
                go_wp2_with fail
                go_roundw
                case rel => exact ⟨i + 1, by omega, by go_num, HNX, H3n, K3n⟩
                case measure => simp [intOf]; omega
              · have z0 : ¬ (i : Int) < 64 := by omega
                obtain ⟨c, hbt, hcj⟩ := HBT.out
                have hcl : c.length = 64 := by obtain ⟨_, _, _, h1, _⟩ := hbt; exact h1
                have hce : c = tornE fl.torn (f2.pg b k) := by
                  have hol : (f2.pg b k).length = 64 := by rw [← HOL.out, Array.length_toList]; exact hos
                  apply List.ext_getElem
                  · rw [tornE, List.length_map, List.length_range, hol, hcl]
                  · intro j h1 h2
                    have hj : j < 64 := by omega
                    have := hcj j hj
                    rw [if_pos (by omega), HOL.out, List.getD_eq_getElem?_getD, List.getElem?_eq_getElem h1] at this
                    simp only [Option.getD_some] at this
                    rw [this]
                    have h3 : (tornE fl.torn (f2.pg b k))[j]? = some ((f2.pg b k).getD j 0 ||| selB fl.torn j) := by
                      unfold tornE
                      rw [List.getElem?_map, List.getElem?_range (by omega)]
                      rfl
                    rw [List.getElem?_eq_getElem h2] at h3
                    exact (Option.some.inj h3).symm
                subst hce
                have hcs := hbt.str (w := wr.drew) cap
                obtain ⟨new, hnew⟩ : ∃ new : ByteArray, new = ⟨(tornE fl.torn (f2.pg b k)).toArray⟩ := ⟨_, rfl⟩
                rw [← hnew] at hcs
                have h3 := H3.out.drew
                have hcs2 : wr.drew.cell? ⟨y.gb, b * 2, none⟩ = some (.slice (some ⟨y.g b, 0, none⟩) fl.P (y.cp b)) := by rw [← SP.out]; exact h3.cs hb2
                have cg : wr.drew.cell? ⟨y.g b, k, none⟩ = some (str ((f2.eras b k fl.torn).pg b k)) := h3.cg hb2 hk2
                have fg := (h3.pag b hb2).frozen k
                have HS : Hid (FW (wr.setCell ⟨y.g b, k, none⟩ (.string new)).drew D X y (f2.eras b (k + 1) fl.torn)) := by
                  have := h3.setPg (p := k) hb2 hk2 (s := tornE fl.torn (f2.pg b k)) hcl
                  rw [eras_put] at this
                  rw [hnew]
                  exact this
                have HK : Hid (Ch D w (wr.setCell ⟨y.g b, k, none⟩ (.string new)).drew) := (K3.out.drew).setCell (p := ⟨y.g b, k, none⟩) (fun _ => h3.dg b hb2) _
                have S0 : Hid (wr.drew.cell? ⟨y.gb, b * 2, none⟩ = some (.slice (some ⟨y.g b, 0, none⟩) fl.P (y.cp b)) ∧ (convert 99 9 (.slice (some ⟨g, 0, none⟩) 64 cap)).run Tryz.prog wr.drew = .ok (.string new) wr.drew) := ⟨hcs2, hcs⟩
                clear h3 hbt hcj hnew hcl HBT H3 K3
                go_wp2_with fail
                refine wp_region_pl (fun Y => Y.cell? ⟨y.gb, b * 2, none⟩ = some (.slice (some ⟨y.g b, 0, none⟩) fl.P (y.cp b)) ∧ (convert 99 9 (.slice (some ⟨g, 0, none⟩) 64 cap)).run Tryz.prog Y = .ok (.string new) Y) ((0, 0) :: (1, 0) :: (2, 0) :: (3, 0) :: (4, 0) :: (5, 0) :: (6, 0) :: (7, 0) :: (8, 2) :: []) (by kernel_rfl) (by kernel_rfl) ?_
                iterate 8 (apply wpP_go; (focus rfl); (focus rfl); (focus exact S0.out); (focus (rintro Z ⟨s0, s1⟩; go_simp; exact rfl)); intro K hK; go_simp; refine hK _ ?_; clear hK K)
                apply wpP_two
                focus rfl
                intro K hK
                go_simp
                refine hK _ _ ?_
                clear hK K
                refine wpP_done ?_
                clear S0 hcs2 cg fg hcs
                generalize (wr.setCell ⟨y.g b, k, none⟩ (.string new)).drew = V at *
                go_wp2_with fail
                exact ⟨⟨k + 1, by omega, by go_num, HS, HK⟩, by simp [intOf]; omega⟩
          · have y0 : ¬ (k : Int) < fl.P := by omega
            have ek : k = fl.P := by omega
            go_wp2_with fail
            go_ret
            rw [HPF.out]
            subst ek
            exact ⟨rfl, H2.out, K2.out⟩
  · rw [ho] at c4
    have HPF : Hid (eraseF fl b = (16, fl)) := by
      show _ = _
      unfold eraseF
      rw [if_pos ho]
    clear h
    go_enter Tryz.func88, Tryz.ntmps88
    go_wp2_with fail
    refine HB.out.mono ?_
    rintro e w' ⟨rfl, rfl⟩
    go_wp2_with fail
    go_ret
    rw [HPF.out]
    exact ⟨rfl, H.out, Ch.refl _ _⟩
end
end Go.Proofs.YtdinbpdpalgohaaGreatDoor
