/- extend: what it computes. Condition: digests of bytes. -/
import Derived.Test.YtndbbbkdpjkljaaDoorD
import Derived.StillTailTactics
namespace Go.Proofs.YtndbbbkdpjkljaaDoor
open Go.RowKit

/-- The bytes of a digest. -/
def dl (D : Nat → Int) : List UInt8 := (List.range 32).map fun i => UInt8.ofNat (D i).toNat
def Byt (D : Nat → Int) : Prop := ∀ i, 0 ≤ D i ∧ D i ≤ 255
theorem dl_len (D : Nat → Int) : (dl D).length = 32 := by simp [dl]
theorem dl_at {D : Nat → Int} (h : Byt D) (j : Nat) (hj : j < (dl D).length) : (((dl D)[j].toNat : Nat) : Int) = D j := by
  have := h j
  simp only [dl, List.getElem_map, List.getElem_range, UInt8.toNat_ofNat']
  omega
theorem sumD_byt (l : List UInt8) : Byt (sumD l) := fun i => by unfold sumD dgb; omega

theorem cat_data (a b : List UInt8) : (({ data := a.toArray } ++ { data := b.toArray } : ByteArray)).data.toList = a ++ b := by
  show (ByteArray.append _ _).data.toList = _
  simp [ByteArray.append]

/-- string(d[:]), d in a block of its own. -/
theorem dig_str {W : World} {B t : Nat} {D : Nat → Int} (hD : Byt D) (h : Row W B t 32 (b8 D)) : (convert 23 9 (.slice (some ⟨B, 0, none⟩) 32 32)).run Tryd.prog W = .ok (.string ⟨(dl D).toArray⟩) W := by
  have := run_convert_bytes_back (P := Tryd.prog) W 23 9 5 ⟨B, 0, none⟩ 32 (dl D) Tryd.underlying23 Tryd.underlying5 Tryd.underlying9 (fun j hj => by
    rw [Addr.add_mid, Nat.zero_add, dl_at hD j hj]
    exact Row.cell h (by rw [dl_len] at hj; omega))
  rw [dl_len] at this
  exact this

set_option maxRecDepth 100000 in
set_option maxHeartbeats 1000000 in
theorem extend_any (A D : Nat → Int) (w : World) (hA : Byt A) (hD : Byt D) (hr : Rnd w) (h0 : 0 < w.heap.size) :
    Calls Tryd.prog 40 #[.agg (arr 32 (b8 A)), .agg (arr 32 (b8 D))] w fun e w' => e = .returned (.agg (arr 32 (b8 (sumD (dl A ++ dl D))))) ∧ Below w.heap.size w w' := by
  go_enter Tryd.func40, Tryd.ntmps40
  go_wp2_with fail
  have hz : (#[Value.int .u8 0, .int .u8 0, .int .u8 0, .int .u8 0, .int .u8 0, .int .u8 0, .int .u8 0, .int .u8 0, .int .u8 0, .int .u8 0, .int .u8 0, .int .u8 0, .int .u8 0, .int .u8 0, .int .u8 0, .int .u8 0, .int .u8 0, .int .u8 0, .int .u8 0, .int .u8 0, .int .u8 0, .int .u8 0, .int .u8 0, .int .u8 0, .int .u8 0, .int .u8 0, .int .u8 0, .int .u8 0, .int .u8 0, .int .u8 0, .int .u8 0, .int .u8 0] : Array Value) = arr 32 zb := by kernel_rfl
  rw [hz]
  clear hz
  have a1 : Row (w.alloc (.cells (arr 32 (b8 A)) 26)) w.heap.size 26 32 (b8 A) := Row.ofList w 26 _ _ 32 rfl
  have a2 : Row ((w.alloc (.cells (arr 32 (b8 A)) 26)).alloc (.cells (arr 32 (b8 D)) 26)) (w.heap.size + 1) 26 32 (b8 D) := Row.ofListAt _ _ 26 (by simp) _ _ 32 rfl
  have a3 : Row (((w.alloc (.cells (arr 32 (b8 A)) 26)).alloc (.cells (arr 32 (b8 D)) 26)).alloc (.cells (arr 32 zb) 26)) (w.heap.size + 1 + 1) 26 32 zb := Row.ofListAt _ _ 26 (by simp) _ _ 32 rfl
  have b1 := (a1.alloc (.cells (arr 32 (b8 D)) 26)).alloc (.cells (arr 32 zb) 26)
  have b2 := a2.alloc (.cells (arr 32 zb) 26)
  have hb : Below w.heap.size w (((w.alloc (.cells (arr 32 (b8 A)) 26)).alloc (.cells (arr 32 (b8 D)) 26)).alloc (.cells (arr 32 zb) 26)) := (((Below.refl _ _).alloc (Nat.le_refl _) _).alloc (by simp) _).alloc (by simp; omega) _
  clear a1 a2
  generalize ((w.alloc (.cells (arr 32 (b8 A)) 26)).alloc (.cells (arr 32 (b8 D)) 26)).alloc (.cells (arr 32 zb) 26) = W at a3 b1 b2 hb ⊢
  have c1 := dig_str hA b1.drew
  have c2 := dig_str hD b2.drew
  have hln : ¬ 9223372036854775807 < (dl A).length + (dl D).length := by rw [dl_len, dl_len]; omega
  have HR := Lib.hid (hr.below (hb.drew) h0)
  have hbW := hb.size
  go_still_tail 5, (by kernel_rfl)
  obtain ⟨S, hS⟩ : ∃ S : ByteArray, S = ({ data := (dl A).toArray } ++ { data := (dl D).toArray } : ByteArray) := ⟨_, rfl⟩
  have HSd : Hid (S.data.toList = dl A ++ dl D) := by rw [hS]; exact cat_data _ _
  have hSz : S.size ≤ 1073741824 := by rw [size_eq, HSd.out, List.length_append, dl_len, dl_len]; omega
  rw [← hS]
  clear hS c1 c2
  have A3 := Lib.hid a3.drew
  have HB := Lib.hid hb.drew
  clear a3 b1 b2 hb hr
  change wpList _ _ _ _ _ W.drew
  generalize W.drew = V at A3 HR HB ⊢
  go_wp2_with fail
  refine (sum_any S V hSz HR.out (by have := HB.out.size; omega)).mono ?_
  rintro e V2 ⟨rfl, hb2⟩
  rw [HSd.out]
  have A4 := Lib.hid (A3.out.below hb2 A3.out.lt)
  have hT := Lib.hid (Row.there A4.out)
  have HB2 := Lib.hid (bthen HB.out hb2)
  clear hb2
  go_wp2_with (refine wpList_store_mid rfl 26 _ _ rfl (w.heap.size + 1 + 1) 0 (arr 32 (b8 (sumD (dl A ++ dl D)))) rfl rfl (by exact hT.out) (by kernel_rfl) (by kernel_rfl) ?_)
  have hrow := Row.setWhole (u := b8 (sumD (dl A ++ dl D))) A4.out
  exact bodyPost_ret (v := .agg (arr 32 (b8 (sumD (dl A ++ dl D))))) (results_cell_row rfl _ _ (w.heap.size + 1 + 1) 26 (arr 32 (b8 (sumD (dl A ++ dl D)))) (0, 0) _ rfl hrow.arr Tryd.underlying26 rfl (by kernel_rfl)) rfl ⟨rfl, Below.setAll (by omega) _ _ _ HB2.out⟩
end Go.Proofs.YtndbbbkdpjkljaaDoor
