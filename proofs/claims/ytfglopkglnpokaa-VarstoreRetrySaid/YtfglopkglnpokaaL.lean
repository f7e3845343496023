/- header, number. No condition but sizes. -/
import Derived.Test.YtfglopkglnpokaaJ
import Derived.Laws.Bits64b
namespace Go.Proofs.Ytfglopkglnpokaa
open Go.RowKit
def numB (l : Str) : Nat := l.foldl (fun n b => n * 256 + b.toNat) 0
theorem numB_snoc (l : Str) (b : UInt8) : numB (l ++ [b]) = numB l * 256 + b.toNat := by simp [numB]
theorem numB_go : ∀ (l : Str) (a : Nat), l.foldl (fun n b => n * 256 + b.toNat) a < (a + 1) * 256 ^ l.length
  | [], a => by simp
  | b :: l, a => by
    have h1 := numB_go l (a * 256 + b.toNat)
    have hb := b.toNat_lt
    have h2 : (a * 256 + b.toNat + 1) * 256 ^ l.length ≤ ((a + 1) * 256) * 256 ^ l.length := Nat.mul_le_mul_right _ (by omega)
    have h3 : (a + 1) * 256 ^ (b :: l).length = ((a + 1) * 256) * 256 ^ l.length := by
      rw [List.length_cons, Nat.pow_succ, Nat.mul_comm (256 ^ l.length) 256, Nat.mul_assoc]
    rw [h3]
    exact Nat.lt_of_lt_of_le h1 h2
theorem numB_lt (l : Str) : numB l < 256 ^ l.length := by
  have := numB_go l 0
  rw [Nat.zero_add, Nat.one_mul] at this
  exact this
theorem or_low (x b : Nat) (hb : b < 256) : x * 256 ||| b = x * 256 + b := by
  have := Nat.two_pow_add_eq_or_of_lt (i := 8) hb x
  rw [show 2 ^ 8 * x = x * 256 by omega] at this
  exact this.symm
set_option maxHeartbeats 1000000 in
theorem number_any (s : ByteArray) (w : World) (hs : s.size = 8) :
    Calls Try.prog 39 #[.string s] w fun e w' => e = .returned (.int .u64 (numB s.data.toList : Nat)) ∧ w = w' := by
  have hsz : s.data.toList.length = 8 := by rw [Array.length_toList]; exact hs
  go_enter Try.func39, Try.ntmps39
  go_wp2_with fail
  go_loop [3, 7] (fun x z => ∃ i : Nat, i ≤ 8 ∧ z = .int .i64 (i : Int) ∧ x = .int .u64 (numB (s.data.toList.take i) : Nat)) (fun _ z => 8 - (intOf z).toNat)
  case atStart => exact ⟨0, by omega, rfl, rfl⟩
  case round =>
    obtain ⟨i, hi, rfl, rfl⟩ := hrel
    by_cases hlt : i < 8
    · have y0 : (i : Int) < 8 := by omega
      obtain ⟨x, hx⟩ : ∃ x, numB (s.data.toList.take i) = x := ⟨_, rfl⟩
      have hxl : x < 72057594037927936 := by
        have h1 := numB_lt (s.data.toList.take i)
        rw [hx, List.length_take, hsz] at h1
        have h2 : 256 ^ (min i 8) ≤ 256 ^ 7 := Nat.pow_le_pow_right (by omega) (by omega)
        omega
      have hb : (s[i]'(by omega)).toNat < 256 := (s[i]'(by omega)).toNat_lt
      have hn : numB (s.data.toList.take (i + 1)) = x * 256 + (s[i]'(by omega)).toNat := by
        rw [List.take_succ_eq_append_getElem (by omega), numB_snoc, hx]
        rfl
      have HN := Lib.hid hn
      have ho : bits .or .u64 ((x : Int) * 256) ((s[i]'(by omega)).toNat : Int) = ((x * 256 + (s[i]'(by omega)).toNat : Nat) : Int) := by
        have := bits_or_u64_nat (x * 256) (s[i]'(by omega)).toNat (by omega) (by omega)
        rw [or_low _ _ hb] at this
        rw [← this]
        rfl
      rw [hx]
      clear hn hx
      go_wp2_with fail
      exact ⟨⟨i + 1, by omega, by go_num, by rw [HN.out]; simp⟩, by simp [intOf]; omega⟩
    · have y0 : ¬ (i : Int) < 8 := by omega
      have e : s.data.toList.take i = s.data.toList := List.take_of_length_le (by omega)
      rw [e]
      go_wp2_with fail
      go_ret
      exact ⟨rfl, rfl⟩
theorem Rg.bt {w : World} {g n : Nat} {l : Str} (h : Rg w g 5 n (fun i => .int .u8 ((l.getD i 0).toNat : Int))) (hl : l.length = n) : Bt w g n l := by
  obtain ⟨cs, hh, h2⟩ := h
  exact ⟨cs, (0, 0), hh, hl, h2, fun i _ => by simp⟩
def be8 (n : Nat) : Str := (List.range 8).map fun j => UInt8.ofNat (n / 2 ^ (8 * (7 - j)) % 256)
def hdr (n : Nat) : Str := recd 3 [] (be8 n)
theorem Try.infoU : (Try.prog.info? 5).map (fun i => (i.zero, i.size, i.bytes)) = some (some (.int .u8 0), 1, 1) := by kernel_rfl
set_option maxRecDepth 100000 in
set_option maxHeartbeats 1000000 in
theorem header_any (n : Nat) (w : World) :
    Calls Try.prog 48 #[.int .u64 n] w fun e w' => e = .returned (str (hdr n)) ∧ Below w.heap.size w w' := by
  obtain ⟨i0, hi0, hx0, hx1, hx2⟩ := info_parts Try.infoU
  have hmk : (Instr.makeSlice 78 (.int .i64 8) (.int .i64 8)).run Try.prog w = .ok (.slice (some ⟨w.heap.size, 0, none⟩) 8 8) (w.alloc (.cells (madeCells (Value.int .u8 0).cells 8) 5)) := by
    have := run_make (P := Try.prog) w 78 5 i0 (.int .u8 0) Try.underlying78 hi0 hx0 .i64 .i64 8 8 (by omega) (by omega) (by rw [hx2]; omega) (by omega)
    rw [hx1] at this
    simpa using this
  have R1 : Bt (w.alloc (.cells (madeCells (Value.int .u8 0).cells 8) 5)) w.heap.size 8 (List.replicate 8 0) := Rg.bt ((Rg.made w 5 8 (.int .u8 0) rfl).congr fun i hi => by
    rw [List.getD_eq_getElem?_getD, List.getElem?_replicate, if_pos hi]; rfl) (by simp)
  have B1 : Below w.heap.size w (w.alloc (.cells (madeCells (Value.int .u8 0).cells 8) 5)) := (Below.refl _ _).alloc (Nat.le_refl _) _
  obtain ⟨w1, hw1⟩ : ∃ w1, w.alloc (.cells (madeCells (Value.int .u8 0).cells 8) 5) = w1 := ⟨_, rfl⟩
  obtain ⟨g, hg⟩ : ∃ g, w.heap.size = g := ⟨_, rfl⟩
  rw [hw1] at R1 B1 hmk
  rw [hg] at R1 hmk
  have HB := Lib.hid B1
  have HR : Hid (∃ c : Str, Bt w1 g 8 c ∧ ∀ j, j < 8 → c.getD j 0 = if 8 ≤ j + 0 then UInt8.ofNat (n / 2 ^ (8 * (7 - j)) % 256) else 0) := ⟨_, R1, fun j hj => by
    rw [if_neg (by omega), List.getD_eq_getElem?_getD, List.getElem?_replicate, if_pos hj]; rfl⟩
  clear R1 B1 hw1
  go_enter Try.func48, Try.ntmps48
  go_wp2_with fail
  clear hmk
  go_loopw [8] (fun z wr => ∃ i : Nat, i ≤ 8 ∧ z = .int .i64 (i : Int) ∧ Hid (∃ c : Str, Bt wr g 8 c ∧ ∀ j, j < 8 → c.getD j 0 = if 8 ≤ j + i then UInt8.ofNat (n / 2 ^ (8 * (7 - j)) % 256) else 0) ∧ Hid (Below w.heap.size w wr)) (fun z _ => 8 - (intOf z).toNat)
  case atStart => exact ⟨0, by omega, rfl, HR, HB⟩
  case round =>
    clear HR HB
    obtain ⟨i, hi, rfl, HR, HB⟩ := hrel
    by_cases hlt : i < 8
    · have y0 : (i : Int) < 8 := by omega
      obtain ⟨c, hbt, hcj⟩ := HR.out
      have hk7 : 7 - i < 8 := by omega
      have cb := hbt.cell hk7
      have fb := hbt.frozen hk7
      obtain ⟨u, hu⟩ : ∃ u : UInt8, u = UInt8.ofNat (n / 2 ^ (8 * i) % 256) := ⟨_, rfl⟩
      have hue : ((n : Int) / 2 ^ (8 * i) % 256) = (u.toNat : Int) := by
        rw [hu, u8_of (by omega)]
        simp
      have HR2 : Hid (∃ c : Str, Bt (wr.setCell ⟨g, 7 - i, none⟩ (.int .u8 ((n : Int) / 2 ^ (8 * i) % 256))) g 8 c ∧ ∀ j, j < 8 → c.getD j 0 = if 8 ≤ j + (i + 1) then UInt8.ofNat (n / 2 ^ (8 * (7 - j)) % 256) else 0) := by
        rw [hue]
        refine ⟨_, hbt.set hk7 u, fun j hj => ?_⟩
        have hcl : c.length = 8 := by obtain ⟨_, _, _, h1, _⟩ := hbt; exact h1
        by_cases e : j = 7 - i
        · subst e
          rw [if_pos (by omega), List.getD_eq_getElem?_getD, List.getElem?_set_self (by omega), hu]
          have : 7 - (7 - i) = i := by omega
          rw [this]; rfl
        · rw [List.getD_eq_getElem?_getD, List.getElem?_set_ne (Ne.symm e), ← List.getD_eq_getElem?_getD, hcj j hj]
          by_cases e2 : 8 ≤ j + i
          · rw [if_pos e2, if_pos (by omega)]
          · rw [if_neg e2, if_neg (by omega)]
      have HB2 : Hid (Below w.heap.size w (wr.setCell ⟨g, 7 - i, none⟩ (.int .u8 ((n : Int) / 2 ^ (8 * i) % 256)))) := HB.out.setCell (p := ⟨g, 7 - i, none⟩) (by show w.heap.size ≤ g; omega) _
      clear hcj hbt HR HB hu hue
      go_wp2_with fail
      exact ⟨⟨i + 1, by omega, by go_num, HR2, HB2⟩, by simp [intOf]; omega⟩
    · have y0 : ¬ (i : Int) < 8 := by omega
      obtain ⟨c, hbt, hcj⟩ := HR.out
      have hcl : c.length = 8 := by obtain ⟨_, _, _, h1, _⟩ := hbt; exact h1
      have hce : c = be8 n := by
        apply List.ext_getElem
        · rw [be8, List.length_map, List.length_range, hcl]
        · intro j h1 h2
          have := hcj j (by omega)
          rw [if_pos (by omega), List.getD_eq_getElem?_getD, List.getElem?_eq_getElem h1] at this
          simp only [Option.getD_some] at this
          rw [this]
          have h3 : (be8 n)[j]? = some (UInt8.ofNat (n / 2 ^ (8 * (7 - j)) % 256)) := by
            unfold be8
            rw [List.getElem?_map, List.getElem?_range (by omega)]
            rfl
          rw [List.getElem?_eq_getElem h2] at h3
          exact (Option.some.inj h3).symm
      have hcs := hbt.str 8
      obtain ⟨v, hv⟩ : ∃ v : ByteArray, v = ⟨c.toArray⟩ := ⟨_, rfl⟩
      rw [← hv] at hcs
      have hvs : v.size = 8 := by rw [hv]; show c.toArray.size = 8; simpa using hcl
      have HE := Lib.hid (encode_any 3 ⟨#[]⟩ v wr (by omega) (by decide) (by omega))
      have HV : Hid (v.data.toList = be8 n) := by rw [hv]; exact hce
      clear hcj hbt HR hv hce hcl
      go_wp2_with fail
      refine HE.out.mono ?_
      rintro e w' ⟨rfl, b'⟩
      have HB2 : Hid (Below w.heap.size w w') := bthen HB.out b'
      clear b'
      go_wp2_with fail
      go_ret
      refine ⟨?_, HB2.out⟩
      unfold hdr
      rw [← HV.out]
      rfl
end Go.Proofs.Ytfglopkglnpokaa
