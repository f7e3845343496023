/- pagesOf, permitted, encode. Condition: lengths fit. -/
import Derived.Test.YtfglopkglnpokaaA
namespace Go.Proofs.Ytfglopkglnpokaa
open Go.RowKit
def pgs (n : Nat) : Nat := (n + 63) / 64
theorem pagesOf_any (n : Nat) (w : World) (hn : n ≤ 1000000) :
    Calls Try.prog 55 #[.int .i64 (n : Int)] w fun e w' => e = .returned (.int .i64 (pgs n : Nat)) ∧ w = w' := by
  go_enter Try.func55, Try.ntmps55
  go_wp2_with fail
  go_ret
  exact ⟨ret_int (by unfold pgs; omega), rfl⟩
def okLens (k n v : Nat) : Bool := (k == 1 && decide (1 ≤ n) && decide (n ≤ 24) && decide (v ≤ 128)) || (k == 2 && decide (1 ≤ n) && decide (n ≤ 24) && v == 0) || (k == 3 && n == 0 && v == 8)
set_option maxHeartbeats 1000000 in
theorem permitted_any (k n v : Nat) (w : World) (hn : n ≤ 1000000000000) (hv : v ≤ 1000000000000) :
    Calls Try.prog 49 #[.int .i64 (k : Int), .int .i64 (n : Int), .int .i64 (v : Int)] w fun e w' => e = .returned (.bool (okLens k n v)) ∧ w = w' := by
  go_enter Try.func49, Try.ntmps49
  go_wp2_with fail
  all_goals
    go_ret
    refine ⟨?_, rfl⟩
    show Ending.returned (Value.bool _) = Ending.returned (Value.bool _)
    congr 2
    rw [Bool.eq_iff_iff]
    simp at *
    simp [okLens]
    omega
/-- A record. -/
def recd (k : Nat) (n v : Str) : Str :=
  let lead : Str := [UInt8.ofNat k, UInt8.ofNat n.length, UInt8.ofNat v.length]
  let c := zeros lead + zeros n + zeros v
  lead ++ [UInt8.ofNat (c / 256), UInt8.ofNat (c % 256)] ++ n ++ v
theorem u8_of {a : Nat} (h : a ≤ 255) : (UInt8.ofNat a).toNat = a := by simp; omega
/-- A string made of a row of bytes just laid. -/
theorem conv_new (w : World) (l : Str) (cs : Array Value) (n : Nat) (hn : l.length = n) (hcs : cs.toList = l.map fun b => .int .u8 (b.toNat : Int)) :
    (convert 78 9 (.slice (some ⟨w.heap.size, 0, none⟩) n n)).run Try.prog (w.alloc (.cells cs 5)) = .ok (.string ⟨l.toArray⟩) (w.alloc (.cells cs 5)) := by
  have := run_convert_bytes_back (P := Try.prog) (w.alloc (.cells cs 5)) 78 9 5 ⟨w.heap.size, 0, none⟩ n l Try.underlying78 Try.underlying5 Try.underlying9 (fun j hj => by
    rw [Addr.add_mid, cell_of_row _ _ _ _ _ _ (heap_alloc_new w _), Nat.zero_add, ← Array.getElem?_toList, hcs]
    simp [hj])
  rw [hn] at this
  exact this
set_option maxRecDepth 100000 in
set_option maxHeartbeats 1000000 in
theorem encode_any (k : Nat) (n v : ByteArray) (w : World) (hk : k ≤ 255) (hn : n.size ≤ 255) (hv : v.size ≤ 255) :
    Calls Try.prog 57 #[.int .i64 (k : Int), .string n, .string v] w fun e w' => e = .returned (.string ⟨(recd k n.data.toList v.data.toList).toArray⟩) ∧ Below w.heap.size w w' := by
  obtain ⟨lead, hlead⟩ : ∃ lead : ByteArray, lead = ⟨#[UInt8.ofNat k, UInt8.ofNat n.size, UInt8.ofNat v.size]⟩ := ⟨_, rfl⟩
  have hb1 : Below w.heap.size w (w.alloc (.cells #[.int .u8 k, .int .u8 n.size, .int .u8 v.size] 5)) := (Below.refl _ _).alloc (Nat.le_refl _) _
  have B1 := Lib.hid hb1
  have C1 : (convert 78 9 (.slice (some ⟨w.heap.size, 0, none⟩) 3 3)).run Try.prog (w.alloc (.cells #[.int .u8 k, .int .u8 n.size, .int .u8 v.size] 5)) = .ok (.string lead) (w.alloc (.cells #[.int .u8 k, .int .u8 n.size, .int .u8 v.size] 5)) := by
    rw [hlead]; exact conv_new w [UInt8.ofNat k, UInt8.ofNat n.size, UInt8.ofNat v.size] #[.int .u8 k, .int .u8 n.size, .int .u8 v.size] 3 rfl (by simp [u8_of hk, u8_of hn, u8_of hv])
  have hls : lead.size = 3 := by rw [hlead]; rfl
  have HL := Lib.hid hlead
  clear hb1 hlead
  go_enter Try.func57, Try.ntmps57
  go_wp2_with fail
  have hbz := B1.out.size
  generalize w.alloc (.cells #[.int .u8 k, .int .u8 n.size, .int .u8 v.size] 5) = w1 at *
  clear C1
  refine (zeroBits_any lead w1 (by omega)).mono ?_
  rintro e w2 ⟨rfl, rfl⟩
  have z1 := zeros_le lead.data.toList
  have z1' : lead.data.toList.length = 3 := by rw [Array.length_toList]; exact hls
  have z2 := zeros_le n.data.toList
  have z2' : n.data.toList.length = n.size := Array.length_toList
  have z3 := zeros_le v.data.toList
  have z3' : v.data.toList.length = v.size := Array.length_toList
  obtain ⟨c1, e1⟩ : ∃ c1, zeros lead.data.toList = c1 := ⟨_, rfl⟩
  obtain ⟨c2, e2⟩ : ∃ c2, zeros n.data.toList = c2 := ⟨_, rfl⟩
  obtain ⟨c3, e3⟩ : ∃ c3, zeros v.data.toList = c3 := ⟨_, rfl⟩
  have ZN := Lib.hid (zeroBits_any n w1 (by omega))
  have ZV := Lib.hid (zeroBits_any v w1 (by omega))
  rw [e1] at z1 ⊢
  rw [e2] at z2 ZN
  rw [e3] at z3 ZV
  have E1 := Lib.hid e1
  have E2 := Lib.hid e2
  have E3 := Lib.hid e3
  have y1 : c1 ≤ 24 := by omega
  have y2 : c2 ≤ 2040 := by omega
  have y3 : c3 ≤ 2040 := by omega
  clear e1 e2 e3 z1 z2 z3 z1' z2' z3'
  go_wp2_with fail
  refine ZN.out.mono ?_
  rintro e w2 ⟨rfl, rfl⟩
  go_wp2_with fail
  refine ZV.out.mono ?_
  rintro e w2 ⟨rfl, rfl⟩
  have hc1 : (c1 + c2 + c3) / 256 ≤ 255 := by omega
  have hc2 : (c1 + c2 + c3) % 256 ≤ 255 := by omega
  obtain ⟨chk, hchk⟩ : ∃ chk : ByteArray, chk = ⟨#[UInt8.ofNat ((c1 + c2 + c3) / 256), UInt8.ofNat ((c1 + c2 + c3) % 256)]⟩ := ⟨_, rfl⟩
  have C2 : (convert 78 9 (.slice (some ⟨w1.heap.size, 0, none⟩) 2 2)).run Try.prog (w1.alloc (.cells #[.int .u8 (((c1 : Int) + c2 + c3) / 256), .int .u8 (((c1 : Int) + c2 + c3) % 256)] 5)) = .ok (.string chk) (w1.alloc (.cells #[.int .u8 (((c1 : Int) + c2 + c3) / 256), .int .u8 (((c1 : Int) + c2 + c3) % 256)] 5)) := by
    rw [hchk]; exact conv_new w1 [UInt8.ofNat ((c1 + c2 + c3) / 256), UInt8.ofNat ((c1 + c2 + c3) % 256)] _ 2 rfl (by
      simp only [List.map_cons, List.map_nil, u8_of hc1, u8_of hc2]
      rfl)
  have B2 : Hid (Below w.heap.size w (w1.alloc (.cells #[.int .u8 (((c1 : Int) + c2 + c3) / 256), .int .u8 (((c1 : Int) + c2 + c3) % 256)] 5))) := B1.out.alloc hbz _
  have HF : Hid (lead ++ chk ++ n ++ v = (⟨(recd k n.data.toList v.data.toList).toArray⟩ : ByteArray)) := by
    show _ = _
    apply ByteArray.ext
    apply Array.toList_inj.1
    have f1 := HL.out
    have f2 : n.data.toList.length = n.size := Array.length_toList
    have f3 : v.data.toList.length = v.size := Array.length_toList
    unfold recd
    rw [f2, f3]
    have f4 : lead.data.toList = [UInt8.ofNat k, UInt8.ofNat n.size, UInt8.ofNat v.size] := by rw [f1]
    rw [← f4]
    dsimp only
    rw [E1.out, E2.out, E3.out, hchk]
    simp
  have hcs : chk.size = 2 := by rw [hchk]; rfl
  have q1 : ¬ 9223372036854775807 < 5 + n.size := by omega
  have q2 : ¬ 9223372036854775807 < 5 + n.size + v.size := by omega
  clear hchk hc1 hc2 E1 E2 E3 HL
  go_wp2_with fail
  go_ret
  exact ⟨by rw [← HF.out]; rfl, B2.out⟩
end Go.Proofs.Ytfglopkglnpokaa
