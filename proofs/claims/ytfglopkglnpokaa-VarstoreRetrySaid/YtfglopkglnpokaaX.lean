/- Call.value. No condition. -/
import Derived.Test.YtfglopkglnpokaaW
namespace Go.Proofs.Ytfglopkglnpokaa
open Go.RowKit
def valLen (ln : Int) : Nat := if mo ln 11 = 0 then 128 - mo ln 3 else mo ln 40
def valB (ln : Int) (fill : UInt8) (i : Nat) : UInt8 := UInt8.ofNat ((fill.toNat + i * (1 + valLen ln % 3)) % 256)
def valOf (ln : Int) (fill : UInt8) : Str := (List.range (valLen ln)).map (valB ln fill)
theorem valLen_le (ln : Int) : valLen ln ≤ 128 := by
  unfold valLen
  have := mo_lt ln 40 (by omega)
  split <;> omega
theorem valOf_len (ln : Int) (fill : UInt8) : (valOf ln fill).length = valLen ln := by simp [valOf]
set_option maxRecDepth 100000 in
set_option maxHeartbeats 2000000 in
theorem value_any (kd nm ln : Int) (fill : UInt8) (w : World) :
    Calls Try.prog 16 #[.agg #[.int .i64 kd, .int .i64 nm, .int .i64 ln, .int .u8 (fill.toNat : Int)]] w fun e w' => e = .returned (str (valOf ln fill)) ∧ Below w.heap.size w w' := by
  obtain ⟨i0, hi0, hx0, hx1, hx2⟩ := info_parts Try.infoU
  have HM40 : Hid (∀ w, Calls Try.prog 15 #[.int .i64 ln, .int .i64 40] w fun e w' => e = .returned (.int .i64 ((mo ln 40 : Nat) : Int)) ∧ w = w') := fun w => mod_any ln 40 w (by omega) (by omega)
  have HM11 : Hid (∀ w, Calls Try.prog 15 #[.int .i64 ln, .int .i64 11] w fun e w' => e = .returned (.int .i64 ((mo ln 11 : Nat) : Int)) ∧ w = w') := fun w => mod_any ln 11 w (by omega) (by omega)
  have HM3 : Hid (∀ w, Calls Try.prog 15 #[.int .i64 ln, .int .i64 3] w fun e w' => e = .returned (.int .i64 ((mo ln 3 : Nat) : Int)) ∧ w = w') := fun w => mod_any ln 3 w (by omega) (by omega)
  have hl3 := mo_lt ln 3 (by omega)
  have hl40 := mo_lt ln 40 (by omega)
  have hl11 := mo_lt ln 11 (by omega)
  obtain ⟨vl, hvl⟩ : ∃ vl, valLen ln = vl := ⟨_, rfl⟩
  have HVL := Lib.hid hvl
  have hvle : vl ≤ 128 := by rw [← hvl]; exact valLen_le ln
  unfold valLen at hvl
  have HVE := Lib.hid hvl
  clear hvl
  obtain ⟨m3, hm3⟩ : ∃ m3, mo ln 3 = m3 := ⟨_, rfl⟩
  obtain ⟨m11, hm11⟩ : ∃ m11, mo ln 11 = m11 := ⟨_, rfl⟩
  obtain ⟨m40, hm40⟩ : ∃ m40, mo ln 40 = m40 := ⟨_, rfl⟩
  rw [hm3] at HM3 HVE hl3
  rw [hm11] at HM11 HVE hl11
  rw [hm40] at HM40 HVE hl40
  clear hm3 hm11 hm40
  have R1 : Rg (w.alloc (.cells #[.int .i64 kd, .int .i64 nm, .int .i64 ln, .int .u8 (fill.toNat : Int)] 36)) w.heap.size 36 4 (fun j => if j = 0 then .int .i64 kd else if j = 1 then .int .i64 nm else if j = 2 then .int .i64 ln else .int .u8 (fill.toNat : Int)) :=
    ⟨_, heap_alloc_new w _, fun j hj => by rcases (by omega : j = 0 ∨ j = 1 ∨ j = 2 ∨ j = 3) with e | e | e | e <;> subst e <;> rfl⟩
  have B1 : Below w.heap.size w (w.alloc (.cells #[.int .i64 kd, .int .i64 nm, .int .i64 ln, .int .u8 (fill.toNat : Int)] 36)) := (Below.refl _ _).alloc (Nat.le_refl _) _
  go_enter Try.func16, Try.ntmps16
  go_wp2_with fail
  obtain ⟨Z, hZ⟩ : ∃ Z, w.heap.size = Z := ⟨_, rfl⟩
  have hZ2 := hZ
  generalize w.alloc (.cells #[.int .i64 kd, .int .i64 nm, .int .i64 ln, .int .u8 (fill.toNat : Int)] 36) = w1 at *
  rw [hZ] at R1
  have c2 := R1.cell (i := 2) (by omega)
  have HR1 := Lib.hid R1
  have HB1 := Lib.hid B1
  clear R1 B1 hZ2
  refine (HM40.out w1).mono ?_
  rintro e w' ⟨rfl, rfl⟩
  rw [hZ]
  go_wp2_with fail
  refine (HM11.out w1).mono ?_
  rintro e w' ⟨rfl, rfl⟩
  go_upto_if 12 with fail
  go_cut [3] (fun x3 wx => x3 = .int .i64 (vl : Int) ∧ wx = w1)
  case first =>
    by_cases h0 : m11 = 0
    · subst h0
      have hv2 : 128 - m3 = vl := by have := HVE.out; rwa [if_pos rfl] at this
      go_wp2_with fail
      refine (HM3.out w1).mono ?_
      rintro e w' ⟨rfl, rfl⟩
      go_wp2_with fail
      go_meet
      exact ⟨by go_num, rfl⟩
    · have hv2 : m40 = vl := by have := HVE.out; rwa [if_neg h0] at this
      have h0d : ((m11 : Int) == 0) = false := by simpa using h0
      go_wp2_with fail
      go_meet
      exact ⟨by rw [hv2], rfl⟩
  case rest =>
    obtain ⟨rfl, rfl⟩ := hcut
    clear HM40 HM11 HM3 HVE c2
    have hmk : (Instr.makeSlice 78 (.int .i64 (vl : Int)) (.int .i64 (vl : Int))).run Try.prog wc = .ok (.slice (some ⟨wc.heap.size, 0, none⟩) vl vl) (wc.alloc (.cells (madeCells (Value.int .u8 0).cells vl) 5)) := by
      have := run_make (P := Try.prog) wc 78 5 i0 (.int .u8 0) Try.underlying78 hi0 hx0 .i64 .i64 (vl : Int) (vl : Int) (by omega) (by omega) (by rw [hx2]; omega) (by omega)
      rw [hx1] at this
      simpa using this
    have R2 : Bt (wc.alloc (.cells (madeCells (Value.int .u8 0).cells vl) 5)) wc.heap.size vl (List.replicate vl 0) := Rg.bt ((Rg.made wc 5 vl (.int .u8 0) rfl).congr fun i hi => by
      rw [List.getD_eq_getElem?_getD, List.getElem?_replicate, if_pos hi]; rfl) (by simp)
    have B2 : Below wc.heap.size wc (wc.alloc (.cells (madeCells (Value.int .u8 0).cells vl) 5)) := (Below.refl _ _).alloc (Nat.le_refl _) _
    obtain ⟨w2, hw2⟩ : ∃ w2, wc.alloc (.cells (madeCells (Value.int .u8 0).cells vl) 5) = w2 := ⟨_, rfl⟩
    obtain ⟨g, hg⟩ : ∃ g, wc.heap.size = g := ⟨_, rfl⟩
    rw [hw2] at R2 B2 hmk
    have HRZ : Hid (Rg w2 Z 36 4 (fun j => if j = 0 then .int .i64 kd else if j = 1 then .int .i64 nm else if j = 2 then .int .i64 ln else .int .u8 (fill.toNat : Int))) := HR1.out.ch (Ch.of_below B2 (fun _ => False)) id
    have hZg : Z < g := by rw [← hg]; exact HR1.out.lt
    have HB2 : Hid (Below Z w w2) := by
      have := HB1.out
      rw [hZ] at this; exact this.trans (B2.mono (by rw [hg]; exact Nat.le_of_lt hZg))
    rw [hg] at R2 hmk
    have HRB : Hid (∃ c : Str, Bt w2 g vl c ∧ ∀ j, j < 0 → c.getD j 0 = valB ln fill j) := ⟨_, R2, fun j hj => absurd hj (Nat.not_lt_zero j)⟩
    clear R2 B2 hw2 hg HB1 HR1
    go_wp2_with fail
    clear hmk
    go_loopw [5] (fun z wr => ∃ i : Nat, i ≤ vl ∧ z = .int .i64 (i : Int) ∧ Hid (∃ c : Str, Bt wr g vl c ∧ ∀ j, j < i → c.getD j 0 = valB ln fill j) ∧ Hid (Rg wr Z 36 4 (fun j => if j = 0 then .int .i64 kd else if j = 1 then .int .i64 nm else if j = 2 then .int .i64 ln else .int .u8 (fill.toNat : Int))) ∧ Hid (Below Z w wr)) (fun z _ => vl - (intOf z).toNat)
    case atStart => exact ⟨0, by omega, rfl, HRB, HRZ, HB2⟩
    case round =>
      clear HRB HRZ HB2
      obtain ⟨i, hi, rfl, HRB, HRZ, HB⟩ := hrel
      by_cases hlt : i < vl
      · have y0 : (i : Int) < vl := by omega
        obtain ⟨c, hbt, hcj⟩ := HRB.out
        have cb := hbt.cell hlt
        have fb := hbt.frozen hlt
        have c3 := HRZ.out.cell (i := 3) (by omega)
        rw [if_neg (by omega), if_neg (by omega), if_neg (by omega)] at c3
        have hfl : fill.toNat < 256 := fill.toNat_lt
        obtain ⟨u, hu⟩ : ∃ u : UInt8, u = valB ln fill i := ⟨_, rfl⟩
        have htb : i * (1 + vl % 3) ≤ 128 * 3 := Nat.mul_le_mul (by omega) (by omega)
        have htc : (i : Int) * (1 + (vl : Int) % 3) = ((i * (1 + vl % 3) : Nat) : Int) := by simp
        have hue : ((fill.toNat : Int) + wrap64 ((i : Int) * (1 + (vl : Int) % 3))) % 256 = (u.toNat : Int) := by
          rw [htc, IntWalk.wrap64_in _ ⟨by omega, by omega⟩, hu]
          unfold valB
          rw [HVL.out, u8_of (by omega)]
          omega
        have HBT := Lib.hid hbt
        have HCJ := Lib.hid hcj
        clear hbt hcj HRB
        have HR2 : Hid (∃ c : Str, Bt (wr.setCell ⟨g, i, none⟩ (.int .u8 (((fill.toNat : Int) + wrap64 ((i : Int) * (1 + (vl : Int) % 3))) % 256))) g vl c ∧ ∀ j, j < i + 1 → c.getD j 0 = valB ln fill j) := by
          rw [hue]
          refine ⟨_, HBT.out.set hlt u, fun j hj => ?_⟩
          have hcl : c.length = vl := by obtain ⟨_, _, _, h1, _⟩ := HBT.out; exact h1
          by_cases e : j = i
          · subst e
            rw [List.getD_eq_getElem?_getD, List.getElem?_set_self (by omega), hu]; rfl
          · rw [List.getD_eq_getElem?_getD, List.getElem?_set_ne (Ne.symm e), ← List.getD_eq_getElem?_getD, HCJ.out j (by omega)]
        have HZ2 : Hid (Rg (wr.setCell ⟨g, i, none⟩ (.int .u8 (((fill.toNat : Int) + wrap64 ((i : Int) * (1 + (vl : Int) % 3))) % 256))) Z 36 4 (fun j => if j = 0 then .int .i64 kd else if j = 1 then .int .i64 nm else if j = 2 then .int .i64 ln else .int .u8 (fill.toNat : Int))) := HRZ.out.far (p := ⟨g, i, none⟩) (by show g ≠ Z; omega) _
        have HB2 : Hid (Below Z w (wr.setCell ⟨g, i, none⟩ (.int .u8 (((fill.toNat : Int) + wrap64 ((i : Int) * (1 + (vl : Int) % 3))) % 256)))) := HB.out.setCell (p := ⟨g, i, none⟩) (by show Z ≤ g; omega) _
        clear hue htc htb hu HBT HCJ HRZ HB hfl
        go_wp2_with fail
        exact ⟨⟨i + 1, by omega, by go_num, HR2, HZ2, HB2⟩, by simp [intOf]; omega⟩
      · have ei : i = vl := by omega
        obtain ⟨c, hbt, hcj⟩ := HRB.out
        have hcl : c.length = vl := by obtain ⟨_, _, _, h1, _⟩ := hbt; exact h1
        have hce : c = valOf ln fill := by
          apply List.ext_getElem
          · rw [valOf_len, HVL.out, hcl]
          · intro j h1 h2
            have := hcj j (by omega)
            rw [List.getD_eq_getElem?_getD, List.getElem?_eq_getElem h1] at this
            simp only [Option.getD_some] at this
            rw [this]
            have h3 : (valOf ln fill)[j]? = some (valB ln fill j) := by
              unfold valOf
              rw [List.getElem?_map, List.getElem?_range (by rw [HVL.out]; omega)]
              rfl
            rw [List.getElem?_eq_getElem h2] at h3
            exact (Option.some.inj h3).symm
        have hcs := hbt.str vl
        rw [hce] at hcs
        have HBF := Lib.hid HB.out
        clear hbt hcj HRB hce HRZ HB
        go_wp2_with fail
        go_ret
        exact ⟨rfl, by rw [hZ]; exact HBF.out⟩
end Go.Proofs.Ytfglopkglnpokaa
