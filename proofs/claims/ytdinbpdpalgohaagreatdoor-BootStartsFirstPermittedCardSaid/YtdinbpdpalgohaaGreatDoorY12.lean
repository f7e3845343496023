/- SetEntry, SetNext, Order, Denied, Deny. Conditions: those that each theorem names. -/
import Derived.Test.YtdinbpdpalgohaaGreatDoorY11
import Derived.Test.YtdinbpdpalgohaaGreatDoorY10
import Derived.Test.YtdinbpdpalgohaaGreatDoorSk
namespace Go.Proofs.YtdinbpdpalgohaaGreatDoor
open Go.RowKit
attribute [local go_sem ↓] alloc34 load34 store34 build34 build34o
def setEntryB (b : BM) (i : Int) (d : Str) (a : Bool) (k : Int) : Int × BM := if isId i = true ∧ 1 ≤ k ∧ k ≤ 255 then setB b (nmE i.toNat) (entS d a k.toNat 0) else (1, b)
def setNextB (b : BM) (i : Int) : Int × BM := if isId i = true then setB b nmN [UInt8.ofNat i.toNat] else (1, b)
section
variable {w w' : World} {N M S L n : Nat} {O : Nat → Prop} {b : BM}
theorem MR.no (h : BW w' N O M S L n b) (hb : Below w.heap.size w w') : MR w N O M S L (n + 1) (1, b) (.returned (.int .i64 1)) w' :=
  ⟨rfl, MLeft.same (h.mono (Nat.le_succ _)) (Ch.of_below hb _)⟩
set_option maxRecDepth 100000 in
set_option maxHeartbeats 2000000 in
theorem setEntry_any (h : BW w N O M S L n b) (hb : b.st.blk < b.fl.B) (hn : n < 1000) (i : Int) {d : Str} (hd : d.length = 32) (a : Bool) (k : Int) :
    Calls Tryz.prog 13 #[fptr M, entA i d a k] w (MR w N O M S L (n + 1) (setEntryB b i d a k)) := by
  obtain ⟨cs, hcs⟩ : ∃ cs, cs = Ms.arr 35 (ecl i d a k) := ⟨_, rfl⟩
  have he : entA i d a k = .agg cs := by rw [hcs]; rfl
  have R0 : Row (w.alloc (.cells cs 34)) w.heap.size 34 35 (ecl i d a k) := by rw [hcs]; exact Row.ofList w _ _ _ 35 rfl
  have HB0 : Hid (Below w.heap.size w (w.alloc (.cells cs 34))) := (Below.refl _ _).alloc (Nat.le_refl _) _
  have HW1 := Lib.hid (h.below HB0.out)
  have c0 : (w.alloc (.cells cs 34)).cell? ⟨w.heap.size, 0, none⟩ = some (.int .i64 i) := R0.cell (i := 0) (by omega)
  have c34 : (w.alloc (.cells cs 34)).cell? ⟨w.heap.size, 34, none⟩ = some (.int .i64 k) := R0.cell (i := 34) (by omega)
  have hld := ld34 R0
  rw [← hcs] at hld
  have HI := Lib.hid (isid_any i (w.alloc (.cells cs 34)))
  have HP : Hid (isId i = true ∧ 1 ≤ k ∧ k ≤ 255 → Calls Tryz.prog 53 #[fptr M, .agg cs, .int .i64 0] (w.alloc (.cells cs 34)) (MR (w.alloc (.cells cs 34)) N O M S L (n + 1) (setB b (nmE i.toNat) (entS d a k.toNat 0)))) := fun ⟨h1, h2, h3⟩ => by
    have hi := isId_iff.1 h1
    obtain ⟨j, rfl⟩ : ∃ j : Nat, i = (j : Int) := ⟨i.toNat, by omega⟩
    obtain ⟨m, rfl⟩ : ∃ m : Nat, k = (m : Int) := ⟨k.toNat, by omega⟩
    rw [← he]
    exact bput_any HW1.out hb hn j (by omega) hd a m 0 (by omega) (by omega)
  rw [he]
  unfold setEntryB
  clear R0 hcs he h
  by_cases h1 : isId i = true
  · rw [h1] at HI
    by_cases h2 : k < 1
    · rw [if_neg (by omega)]
      clear HP
      go_enter Tryz.func13, Tryz.ntmps13
      go_wp2_with fail
      refine HI.out.mono ?_
      rintro e w1 ⟨rfl, rfl⟩
      go_wp2_with fail
      go_ret
      exact MR.no HW1.out HB0.out
    · by_cases h3 : k > 255
      · rw [if_neg (by omega)]
        clear HP
        go_enter Tryz.func13, Tryz.ntmps13
        go_wp2_with fail
        refine HI.out.mono ?_
        rintro e w1 ⟨rfl, rfl⟩
        go_wp2_with fail
        go_ret
        exact MR.no HW1.out HB0.out
      · rw [if_pos ⟨h1, by omega, by omega⟩]
        have HPP := Lib.hid (HP.out ⟨h1, by omega, by omega⟩)
        clear HP
        go_enter Tryz.func13, Tryz.ntmps13
        go_wp2_with fail
        refine HI.out.mono ?_
        rintro e w1 ⟨rfl, rfl⟩
        go_wp2_with fail
        refine HPP.out.mono ?_
        rintro e w2 ⟨rfl, hl⟩
        have HLf := Lib.hid hl
        clear hl HPP
        go_wp2_with fail
        go_ret
        exact ⟨rfl, HLf.out.after HB0.out⟩
  · have hf : isId i = false := by cases hq : isId i; rfl; exact absurd hq h1
    rw [if_neg (fun q => h1 q.1)]
    rw [hf] at HI
    clear HP
    go_enter Tryz.func13, Tryz.ntmps13
    go_wp2_with fail
    refine HI.out.mono ?_
    rintro e w1 ⟨rfl, rfl⟩
    go_wp2_with fail
    go_ret
    exact MR.no HW1.out HB0.out
set_option maxRecDepth 100000 in
set_option maxHeartbeats 2000000 in
theorem setNext_any (h : BW w N O M S L n b) (hb : b.st.blk < b.fl.B) (hn : n < 1000) (i : Int) :
    Calls Tryz.prog 29 #[fptr M, .int .i64 i] w (MR w N O M S L (n + 1) (setNextB b i)) := by
  have HI := Lib.hid (isid_any i w)
  have HW := Lib.hid h
  clear h
  unfold setNextB
  by_cases h1 : isId i = true
  · rw [if_pos h1]
    have hi := isId_iff.1 h1
    rw [h1] at HI
    obtain ⟨k, rfl⟩ : ∃ k : Nat, i = (k : Int) := ⟨i.toNat, by omega⟩
    have hk : k < 16 := by omega
    clear h1 hi
    have hwid : IntKind.u8.wrap (k : Int) = (k : Int) := by rw [IntKind.wrap_u8']; omega
    obtain ⟨kb, hkb⟩ : ∃ kb : ByteArray, kb = ⟨#[UInt8.ofNat k]⟩ := ⟨_, rfl⟩
    have HKB : Hid (kb.data.toList = [UInt8.ofNat k]) := by show _ = _; rw [hkb]
    have hkz : kb.size ≤ 1000000 := by rw [bsz, HKB.out]; simp
    have HB2 : Hid (Below w.heap.size w (w.alloc (.cells #[.int .u8 (k : Int)] 5)).drew) := ((Below.refl _ _).alloc (Nat.le_refl _) _).drew
    have HW2 := Lib.hid (HW.out.below HB2.out)
    have HST := Lib.hid (HW2.out.setB hb hn (ke := ⟨#[78, 101, 120, 116]⟩) (k := nmN) (v := [UInt8.ofNat k]) (by decide) hkz rfl HKB.out)
    have hob : (convert 99 9 (.slice (some ⟨w.heap.size, 0, none⟩) 1 1)).run Tryz.prog (w.alloc (.cells #[.int .u8 (k : Int)] 5)).drew = .ok (.string kb) (w.alloc (.cells #[.int .u8 (k : Int)] 5)).drew := by rw [hkb]; exact one_byte w.drew k (by omega)
    have S1 : Hid (w.drew.cell? ⟨M, 0, none⟩ = some (fptr S)) := HW.out.drew.c0
    have S2 : Hid ((w.alloc (.cells #[.int .u8 (k : Int)] 5)).drew.cell? ⟨M, 0, none⟩ = some (fptr S)) := HW2.out.c0
    have hkt : [UInt8.ofNat (k : Int).toNat] = [UInt8.ofNat k] := rfl
    rw [hkt]
    clear hkt
    clear hkb HW HW2 HKB
    go_enter Tryz.func29, Tryz.ntmps29
    go_wp2_with fail
    refine HI.out.mono ?_
    rintro e w1 ⟨rfl, rfl⟩
    clear HI
    go_wp2_with fail
    refine wp_region_pl (fun Y => Y.cell? ⟨M, 0, none⟩ = some (fptr S))
      ((0, 0) :: (1, 0) :: (2, 0) :: (3, 0) :: (4, 0) :: (5, 0) :: (6, 1) :: (7, 1) :: (8, 1) :: (9, 0) :: []) (by kernel_rfl) (by kernel_rfl) ?_
    iterate 6 (apply wpP_go; (focus rfl); (focus rfl); (focus exact S1.out); (focus (intro Y c0; go_simp; exact rfl)); intro K hK; go_simp; refine hK _ ?_; clear hK K)
    iterate 2 (apply wpP_one; (focus rfl); intro K hK; go_simp; refine hK _ _ S2.out ?_; clear hK K)
    apply wpP_one
    focus rfl
    intro K hK
    go_simp
    refine HST.out.mono ?_
    rintro e w6 ⟨rfl, hl⟩
    have HLf := Lib.hid hl
    have S3 : Hid (w6.cell? ⟨M, 0, none⟩ = some (fptr S)) := by
      obtain ⟨O', _, q2, q3⟩ := hl
      exact q2.c0
    refine hK _ _ S3.out ?_
    clear hK K hl hob
    iterate 1 (apply wpP_go; (focus rfl); (focus rfl); (focus exact S3.out); (focus (intro Y s0; go_simp; exact rfl)); intro K hK; go_simp; refine hK _ ?_; clear hK K)
    refine wpP_done ?_
    clear S1 S2 S3 HST
    go_wp2_with fail
    go_ret
    exact ⟨rfl, HLf.out.after HB2.out⟩
  · have hf : isId i = false := by cases hq : isId i; rfl; exact absurd hq h1
    rw [if_neg h1]
    rw [hf] at HI
    clear hf h1
    go_enter Tryz.func29, Tryz.ntmps29
    go_wp2_with fail
    refine HI.out.mono ?_
    rintro e w1 ⟨rfl, rfl⟩
    go_wp2_with fail
    go_ret
    exact MR.no HW.out (Below.refl _ _)
end
end Go.Proofs.YtdinbpdpalgohaaGreatDoor
namespace Go.Proofs.YtdinbpdpalgohaaGreatDoor
open Go.RowKit
theorem getV_in {V : Vars} {k v : Str} (h : getV V k = some v) : (k, v) ∈ V := by
  unfold getV at h
  obtain ⟨p, hp, e⟩ := Option.map_eq_some_iff.1 h
  have h1 := List.mem_of_find?_eq_some hp
  have h2 := List.find?_some hp
  have h3 : p.1 = k := by simpa using h2
  rw [← h3, ← e]
  exact h1
section
variable {w w' : World} {N M S L n : Nat} {O : Nat → Prop} {b : BM} {v : Value} {l : List Int}
theorem BW.hv (h : BW w N O M S L n b) : ∀ p ∈ b.st.V, p.1.length ≤ 24 ∧ p.2.length ≤ 128 := by obtain ⟨R, D, DS, X, m, y, ve, vc, vl, h⟩ := h; exact h.s.hv
theorem BW.glen (h : BW w N O M S L n b) {k v : Str} (hg : getV b.st.V k = some v) : v.length ≤ 128 := (h.hv _ (getV_in hg)).2
/-- A slice of these numbers in new memory. -/
def NewI (w : World) (l : List Int) (e : Ending) (w' : World) : Prop := ∃ v, e = .returned v ∧ RdI w' v l ∧ (∀ g, v.ownBlock = some g → w.heap.size ≤ g) ∧ Below w.heap.size w w'
theorem NewI.nil (h : Below w.heap.size w w') : NewI w [] (.returned (.slice none 0 0)) w' := ⟨_, rfl, RdI.nil _, (fun _ h => (by cases h)), h⟩
theorem Rg.rdI {B t k : Nat} (h : Rg w B t k (fun j => .int .i64 (l.getD j 0))) (hl : l.length = k) (hk : k ≤ maxLen) : RdI w (.slice (some ⟨B, 0, none⟩) k k) l := by
  subst hl
  refine ⟨_, _, rfl, Nat.le_refl _, hk, fun g hg => ?_, fun _ => ⟨B, 0, rfl, fun i x hx => ?_⟩⟩
  · have e : B = g := by simpa [Value.ownBlock] using hg
    rw [← e]; exact h.lt
  · have hi : i < l.length := (List.getElem?_eq_some_iff.1 hx).1
    rw [Nat.zero_add, h.cell hi, List.getD_eq_getElem?_getD, hx]
    rfl
/-- The first i of the numbers written. -/
def icell (v : Str) (i j : Nat) : Value := if j < i then .int .i64 ((v.getD j 0).toNat : Int) else .int .i64 0
theorem icell_set {B t k i : Nat} {v : Str} (h : Rg w B t k (icell v i)) (hi : i < k) : Rg (w.setCell ⟨B, i, none⟩ (.int .i64 ((v.getD i 0).toNat : Int))) B t k (icell v (i + 1)) :=
  (h.set hi _).congr fun j hj => by
    unfold icell
    by_cases ej : j = i
    · subst ej
      rw [upd_hit, if_pos (by omega)]
    · rw [upd_miss _ _ ej]
      by_cases h1 : j < i
      · rw [if_pos h1, if_pos (by omega)]
      · rw [if_neg h1, if_neg (by omega)]
theorem byI_len (v : Str) : (byI v).length = v.length := by simp [byI]
theorem byI_at (v : Str) (j : Nat) : (byI v).getD j 0 = ((v.getD j 0).toNat : Int) := by
  unfold byI
  by_cases h : j < v.length
  · simp [h]
  · simp [show v.length ≤ j by omega]
theorem Tryz.infoInt : (Tryz.prog.info? 3).map (fun i => (i.zero, i.size, i.bytes)) = some (some (.int .i64 0), 1, 8) := by kernel_rfl
set_option maxRecDepth 100000 in
theorem mk_int (W : World) (k : Nat) (hk : k ≤ 1000) : (Instr.makeSlice 36 (.int .i64 (k : Int)) (.int .i64 (k : Int))).run Tryz.prog W = .ok (.slice (some ⟨W.heap.size, 0, none⟩) k k) (W.alloc (.cells (madeCells (Value.int .i64 0).cells k) 3)) := by
  obtain ⟨i0, hi0, hx0, hx1, hx2⟩ := info_parts Tryz.infoInt
  have := run_make (P := Tryz.prog) W 36 3 i0 (.int .i64 0) Tryz.underlying36 hi0 hx0 .i64 .i64 (k : Int) (k : Int) (by omega) (by omega) (by rw [hx2]; omega) (by omega)
  rw [hx1] at this
  simpa using this
set_option maxRecDepth 100000 in
set_option maxHeartbeats 2000000 in
theorem order_any (h : BW w N O M S L n b) : Calls Tryz.prog 27 #[fptr M] w (NewI w (ordV b.st.V)) := by
  have c0 := h.c0
  have HG0 := h.get (k := ⟨#[79, 114, 100, 101, 114]⟩) (by decide)
  rw [show (⟨#[79, 114, 100, 101, 114]⟩ : ByteArray).data.toList = nmO from rfl] at HG0
  unfold ordV
  rcases hg : getV b.st.V nmO with _ | v
  · have HG : Hid (Calls Tryz.prog 56 #[fptr S, .string ⟨#[79, 114, 100, 101, 114]⟩] w fun e w' => e = .returned (.tuple #[.string ⟨#[]⟩, .int .i64 6]) ∧ w = w') := by
      unfold getS at HG0
      rw [hg] at HG0
      exact HG0
    show Calls _ _ _ _ (NewI w [])
    clear HG0 hg h
    go_enter Tryz.func27, Tryz.ntmps27
    go_wp2_with fail
    refine HG.out.mono ?_
    rintro e w' ⟨rfl, rfl⟩
    go_wp2_with fail
    go_ret
    exact NewI.nil (Below.refl _ _)
  · have hvl := h.glen hg
    obtain ⟨vb, hvb⟩ : ∃ vb : ByteArray, str v = .string vb := ⟨_, rfl⟩
    have HVB : Hid (vb.data.toList = v) := by
      show _ = _
      unfold str at hvb
      injection hvb with hvb
      rw [← hvb]
    have HG : Hid (Calls Tryz.prog 56 #[fptr S, .string ⟨#[79, 114, 100, 101, 114]⟩] w fun e w' => e = .returned (.tuple #[.string vb, .int .i64 0]) ∧ w = w') := by
      unfold getS at HG0
      rw [hg] at HG0
      rw [← hvb]
      exact HG0
    obtain ⟨k, hk⟩ : ∃ k, vb.size = k := ⟨_, rfl⟩
    have HVL : Hid (v.length = k) := by show _ = _; rw [← HVB.out, ← bsz]; exact hk
    have hk128 : k ≤ 128 := by have := HVL.out; omega
    have hmk := mk_int w k (by omega)
    have HR0 : Hid (Rg (w.alloc (.cells (madeCells (Value.int .i64 0).cells k) 3)) w.heap.size 3 k (icell v 0)) := (Rg.made w 3 k (.int .i64 0) rfl).congr fun j hj => by
      unfold icell; rw [if_neg (by omega)]
    have HB0 : Hid (Below w.heap.size w (w.alloc (.cells (madeCells (Value.int .i64 0).cells k) 3))) := (Below.refl _ _).alloc (Nat.le_refl _) _
    obtain ⟨W0, hW0⟩ : ∃ W0, w.alloc (.cells (madeCells (Value.int .i64 0).cells k) 3) = W0 := ⟨_, rfl⟩
    obtain ⟨B, hB⟩ : ∃ B, w.heap.size = B := ⟨_, rfl⟩
    have HBE := Lib.hid hB
    rw [hW0] at hmk HR0 HB0
    rw [hB] at hmk HR0
    obtain ⟨res, hres⟩ : ∃ res, (if okO (byI v) = true then byI v else []) = res := ⟨_, rfl⟩
    have HRES := Lib.hid hres
    show Calls _ _ _ _ (NewI w (if okO (byI v) = true then byI v else []))
    rw [hres]
    clear hres
    clear HG0 hg h hvb hvl hB hW0
    go_enter Tryz.func27, Tryz.ntmps27
    go_wp2_with fail
    refine HG.out.mono ?_
    rintro e w' ⟨rfl, rfl⟩
    go_wp2_with fail
    clear hmk c0 HG
    go_loopw [22] (fun z wr => ∃ i : Nat, i ≤ k ∧ z = .int .i64 (i : Int) ∧ Hid (Rg wr B 3 k (icell v i)) ∧ Hid (Below w.heap.size w wr)) (fun z _ => k - (intOf z).toNat)
    case atStart => exact ⟨0, by omega, rfl, HR0, HB0⟩
    case round =>
      clear HR0 HB0
      obtain ⟨i, hi, rfl, HR, HB⟩ := hrel
      by_cases hlt : i < k
      · have y0 : (i : Int) < k := by omega
        have hiv : i < vb.size := by omega
        obtain ⟨x, hx⟩ : ∃ x, (vb[i]'hiv).toNat = x := ⟨_, rfl⟩
        have hx2 : (v.getD i 0).toNat = x := by rw [← hx, ba_at, HVB.out]
        have hxb : x < 256 := by rw [← hx]; exact (vb[i]'hiv).toNat_lt
        have hwx : IntKind.i64.wrap (x : Int) = (x : Int) := IntWalk.i64_in _ ⟨by omega, by omega⟩
        have r2 := icell_set HR.out hlt
        rw [hx2] at r2
        have HR2 := Lib.hid r2
        have cb := HR.out.cell hlt
        have fb := HR.out.frozen i
        have HB2 : Hid (Below w.heap.size w (wr.setCell ⟨B, i, none⟩ (.int .i64 (x : Int)))) := HB.out.setCell (p := ⟨B, i, none⟩) (by rw [HBE.out]; exact Nat.le_refl _) _
        clear HB HR r2 hx2
        go_wp2_with fail
        go_roundw
        case rel => exact ⟨i + 1, by omega, by go_num, HR2, HB2⟩
        case measure => simp [intOf]; omega
      · have ei : i = k := by omega
        have y0 : ¬ (i : Int) < k := by omega
        subst ei
        have hrd : RdI wr (.slice (some ⟨B, 0, none⟩) i i) (byI v) := Rg.rdI (HR.out.congr fun j hj => by unfold icell; rw [if_pos hj, byI_at]) (by rw [byI_len, HVL.out]) (by unfold maxLen; omega)
        have HRD := Lib.hid hrd
        have HVA := Lib.hid (valid_any hrd.j)
        clear hrd
        go_wp2_with fail
        refine HVA.out.mono ?_
        rintro e w3 ⟨rfl, b3⟩
        have HRD3 := Lib.hid (HRD.out.below b3)
        have HB3 : Hid (Below w.heap.size w w3) := HB.out.trans (b3.mono HB.out.size)
        clear b3 HVA HRD HB HR
        cases hok : okO (byI v)
        · have e0 : res = [] := by rw [← HRES.out, if_neg (by rw [hok]; simp)]
          subst e0
          clear hok HRES
          go_wp2_with fail
          go_ret
          exact NewI.nil HB3.out
        · have e0 : res = byI v := by rw [← HRES.out, if_pos hok]
          subst e0
          clear hok HRES
          go_wp2_with fail
          go_ret
          refine ⟨_, rfl, HRD3.out, fun g hg => ?_, HB3.out⟩
          have e : B = g := by simpa [Value.ownBlock] using hg
          rw [← e, HBE.out]
          exact Nat.le_refl _
end
end Go.Proofs.YtdinbpdpalgohaaGreatDoor
namespace Go.Proofs.YtdinbpdpalgohaaGreatDoor
open Go.RowKit
/-- v reads as these digests. -/
def RdD (w : World) (v : Value) (l : List Str) : Prop := ∃ a c, v = .slice a l.length c ∧ l.length ≤ c ∧ c ≤ maxLen ∧ (∀ g, v.ownBlock = some g → g < w.heap.size) ∧ (l ≠ [] → ∃ g o, a = some ⟨g, o, none⟩ ∧ ∀ i d, l[i]? = some d → ∀ j, j < 32 → w.cell? ⟨g, o + i * 32 + j, none⟩ = some (.int .u8 ((d.getD j 0).toNat : Int)))
section
variable {w w' : World} {v : Value} {l : List Str}
theorem RdD.ch {C : Nat → Prop} (h : RdD w v l) (c : Ch C w w') (hC : ∀ g, v.ownBlock = some g → ¬ C g) : RdD w' v l := by
  obtain ⟨a, n, rfl, h1, h2, h3, h4⟩ := h
  refine ⟨a, n, rfl, h1, h2, fun g hg => Nat.lt_of_lt_of_le (h3 g hg) c.size, fun hne => ?_⟩
  obtain ⟨g, o, rfl, hx⟩ := h4 hne
  have hg : (Value.slice (some ⟨g, o, none⟩) l.length n).ownBlock = some g := rfl
  exact ⟨g, o, rfl, fun i x hi j hj => (c.cell ⟨g, o + i * 32 + j, none⟩ (h3 g hg) (hC g hg)).trans (hx i x hi j hj)⟩
theorem RdD.below (h : RdD w v l) (b : Below w.heap.size w w') : RdD w' v l := h.ch (Ch.of_below b (fun _ => False)) (fun _ _ h => h)
theorem RdD.nil (w : World) : RdD w (.slice none 0 0) [] := ⟨none, 0, rfl, Nat.le_refl _, by decide, (fun _ h => (by cases h)), fun h => absurd rfl h⟩
theorem RdD.shape (h : RdD w v l) : ∃ a c, v = .slice a l.length c ∧ l.length ≤ c ∧ c ≤ 9223372036854775807 := by
  obtain ⟨a, c, rfl, h1, h2, _⟩ := h
  exact ⟨a, c, rfl, h1, by unfold maxLen at h2; omega⟩
theorem RdD.at (h : RdD w v l) {i : Nat} (hi : i < l.length) : ∃ g o c, v = .slice (some ⟨g, o, none⟩) l.length c ∧ l.length ≤ c ∧ c ≤ maxLen ∧ Ms.ldN 32 w (.pointer (some ⟨g, o + i * 32, none⟩)) = some (Ms.arr 32 (Ms.b8 (dgF l[i]))) := by
  obtain ⟨a, c, rfl, h1, h2, h3, h4⟩ := h
  obtain ⟨g, o, rfl, hx⟩ := h4 (by intro e; rw [e] at hi; cases hi)
  refine ⟨g, o, c, rfl, h1, h2, Ms.ldN_of (fun j u hu => ?_) (Ms.arr_size _ _)⟩
  have hj : j < 32 := by have := (List.getElem?_eq_some_iff.1 hu).1; simpa [Ms.arr] using this
  have : u = Ms.b8 (dgF l[i]) j := by simpa [Ms.arr, hj] using hu.symm
  rw [this, hx i _ (List.getElem?_eq_getElem hi) j hj]
  rfl
end
/-- A row of these digests. -/
def OwD (w : World) (B : Nat) (v : Value) (l : List Str) : Prop := w.ownsRow B 31 32 v l.length (bys' l.flatten) ∧ (∀ d ∈ l, d.length = 32) ∧ l.length ≤ 1000
theorem flat32 : ∀ (l : List Str), (∀ d ∈ l, d.length = 32) → l.flatten.length = l.length * 32 := fun l h => (chunk_flat l h).1
theorem flat_at : ∀ (l : List Str), (∀ d ∈ l, d.length = 32) → ∀ i d, l[i]? = some d → ∀ j, j < 32 → l.flatten.getD (i * 32 + j) 0 = d.getD j 0
  | [], _, _, _, h, _, _ => (by cases h)
  | x :: r, hl, i, d, h, j, hj => by
    have hx := hl x (List.mem_cons_self ..)
    cases i with
    | zero =>
      have e : x = d := by simpa using h
      subst e
      rw [List.flatten_cons, List.getD_eq_getElem?_getD, List.getElem?_append_left (by omega), List.getD_eq_getElem?_getD]
      simp
    | succ i =>
      have ih := flat_at r (fun d hd => hl d (List.mem_cons_of_mem _ hd)) i d (by simpa using h) j hj
      rw [List.flatten_cons, List.getD_eq_getElem?_getD, List.getElem?_append_right (by omega), ← List.getD_eq_getElem?_getD, show (i + 1) * 32 + j - x.length = i * 32 + j by omega]
      exact ih
theorem chunk_all : ∀ (q : Nat) (v : Str), v.length = q * 32 → (chunk v).flatten = v
  | 0, v, h => by
    have e : v = [] := List.eq_nil_of_length_eq_zero (by omega)
    subst e; rfl
  | q + 1, v, h => by
    have hd : (v.drop 32).length = q * 32 := by rw [List.length_drop]; omega
    have ht : (v.take 32).length = 32 := by rw [List.length_take]; omega
    have ih := chunk_all q (v.drop 32) hd
    have e : v = (v.take 32 :: chunk (v.drop 32)).flatten := by rw [List.flatten_cons, ih, List.take_append_drop]
    have h2 := (chunk_flat (v.take 32 :: chunk (v.drop 32)) (fun d hm => by
      rcases List.mem_cons.1 hm with q | q
      · rw [q]; exact ht
      · exact chunk_32 d q)).2
    rw [← e] at h2
    rw [h2]
    exact e.symm
theorem OwD.rd {w : World} {B : Nat} {v : Value} {l : List Str} (h : OwD w B v l) : RdD w v l := by
  obtain ⟨⟨_, h1⟩, h2, h3⟩ := h
  rcases h1 with ⟨rfl, e⟩ | ⟨g, cap, cur, rfl, _, hh, h5, h6, _, h7⟩
  · have e : l = [] := by
      rcases l with _ | ⟨x, r⟩
      · rfl
      · cases e
    subst e
    exact RdD.nil w
  · refine ⟨_, _, rfl, h5, h6, fun k hk => ?_, fun _ => ⟨g, 0, rfl, fun i d hd j hj => ?_⟩⟩
    · have e : g = k := by simpa [Value.ownBlock] using hk
      rw [← e]; exact heap_lt hh
    · have hi := (List.getElem?_eq_some_iff.1 hd).1
      have hf := flat32 l h2
      have q := bys'_at l.flatten (i * 32 + j) (by omega)
      rw [flat_at l h2 i d hd j hj, ← h7, List.getElem?_take_of_lt (by omega), Array.getElem?_toList] at q
      rw [show 0 + i * 32 + j = i * 32 + j by omega, cell_of_row w g _ cur _ (0, 0) hh]
      exact q
theorem OwD.ch {w w' : World} {B : Nat} {v : Value} {l : List Str} {C : Nat → Prop} (h : OwD w B v l) (c : Ch C w w') (hC : ∀ g, v.ownBlock = some g → ¬ C g) : OwD w' B v l := ⟨ownN_ch h.1 c hC, h.2⟩
theorem OwD.below {w w' : World} {B : Nat} {v : Value} {l : List Str} (h : OwD w B v l) (c : Below w.heap.size w w') : OwD w' B v l := h.ch (Ch.of_below c (fun _ => False)) (fun _ _ h => h)
/-- A slice of these digests in new memory. -/
def NewD (w : World) (l : List Str) (e : Ending) (w' : World) : Prop := ∃ v, e = .returned v ∧ OwD w' w.heap.size v l ∧ Below w.heap.size w w'
theorem NewD.nil {w w' : World} (h : Below w.heap.size w w') : NewD w [] (.returned (.slice none 0 0)) w' := ⟨_, rfl, ⟨⟨rfl, .inl ⟨rfl, rfl⟩⟩, (fun _ h => by cases h), by simp⟩, h⟩
def dcell (v : Str) (i j : Nat) : Value := if j < i * 32 then .int .u8 ((v.getD j 0).toNat : Int) else .int .u8 0
set_option maxRecDepth 100000 in
theorem mk_dig (W : World) (q : Nat) (hq : q ≤ 4) : (Instr.makeSlice 47 (.int .i64 (q : Int)) (.int .i64 (q : Int))).run Tryz.prog W = .ok (.slice (some ⟨W.heap.size, 0, none⟩) q q) (W.alloc (.cells (Ms.arr (q * 32) Ms.zb) 31)) := by
  rcases (by omega : q = 0 ∨ q = 1 ∨ q = 2 ∨ q = 3 ∨ q = 4) with e | e | e | e | e <;> subst e <;> kernel_rfl
theorem dcell_set {w : World} {B t q i : Nat} {v : Str} (h : Row w B t (q * 32) (dcell v i)) (hi : i < q) (hv : v.length = q * 32) : Row (w.setCells B (i * 32) (bys' ((v.drop (i * 32)).take 32))) B t (q * 32) (dcell v (i + 1)) := by
  have hl : ((v.drop (i * 32)).take 32).length = 32 := by rw [List.length_take, List.length_drop]; omega
  refine Row.congr (Ms.Row.setAll _ (i * 32) w _ h (by rw [bys'_len, hl]; omega)) fun j hj => ?_
  rw [bys'_len, hl]
  by_cases e : i * 32 ≤ j ∧ j < i * 32 + 32
  · rw [if_pos e, List.getD_eq_getElem?_getD, bys'_at _ (j - i * 32) (by omega)]
    unfold dcell
    rw [if_pos (show j < (i + 1) * 32 by omega)]
    simp only [Option.getD_some]
    congr 2
    rw [List.getD_eq_getElem?_getD, List.getElem?_take_of_lt (by omega), List.getElem?_drop, show i * 32 + (j - i * 32) = j by omega, List.getD_eq_getElem?_getD]
  · rw [if_neg e]
    unfold dcell
    by_cases e2 : j < i * 32
    · rw [if_pos e2, if_pos (by omega)]
    · rw [if_neg e2, if_neg (by omega)]
theorem dcell_own {w : World} {B q : Nat} {v : Str} (h : Row w B 31 (q * 32) (dcell v q)) (hv : v.length = q * 32) (hq : q ≤ 4) : OwD w B (.slice (some ⟨B, 0, none⟩) q q) (chunk v) := by
  have hl : (chunk v).length = q := by rw [chunk_len]; omega
  obtain ⟨cs, hh, hs, hc⟩ := h
  refine ⟨⟨by rw [bys'_len, chunk_all q v hv, hl, hv], .inr ⟨B, q, cs, by rw [hl], Nat.le_refl _, hh, by omega, by unfold maxLen; omega, hs, ?_⟩⟩, fun d hd => chunk_32 d hd, by omega⟩
  rw [chunk_all q v hv, hl, List.take_of_length_le (by rw [Array.length_toList]; omega)]
  apply List.ext_getElem?
  intro j
  by_cases hj : j < q * 32
  · rw [Array.getElem?_toList, hc j hj, bys'_at v j (by omega)]
    unfold dcell
    rw [if_pos hj]
  · rw [List.getElem?_eq_none (by rw [Array.length_toList]; omega), List.getElem?_eq_none (by rw [bys'_len]; omega)]
section
variable {w w' : World} {N M S L n : Nat} {O : Nat → Prop} {b : BM}
set_option maxRecDepth 100000 in
set_option maxHeartbeats 2000000 in
theorem denied_any (h : BW w N O M S L n b) : Calls Tryz.prog 23 #[fptr M] w (NewD w (denV b.st.V)) := by
  have c0 := h.c0
  have HG0 := h.get (k := ⟨#[68, 101, 110, 105, 101, 100]⟩) (by decide)
  rw [show (⟨#[68, 101, 110, 105, 101, 100]⟩ : ByteArray).data.toList = nmD from rfl] at HG0
  unfold denV
  rcases hg : getV b.st.V nmD with _ | v
  · have HG : Hid (Calls Tryz.prog 56 #[fptr S, .string ⟨#[68, 101, 110, 105, 101, 100]⟩] w fun e w' => e = .returned (.tuple #[.string ⟨#[]⟩, .int .i64 6]) ∧ w = w') := by
      unfold getS at HG0
      rw [hg] at HG0
      exact HG0
    show Calls _ _ _ _ (NewD w [])
    clear HG0 hg h
    go_enter Tryz.func23, Tryz.ntmps23
    go_wp2_with fail
    refine HG.out.mono ?_
    rintro e w' ⟨rfl, rfl⟩
    go_wp2_with fail
    go_ret
    exact NewD.nil (Below.refl _ _)
  · have hvl := h.glen hg
    obtain ⟨vb, hvb⟩ : ∃ vb : ByteArray, str v = .string vb := ⟨_, rfl⟩
    have HVB : Hid (vb.data.toList = v) := by
      show _ = _
      unfold str at hvb
      injection hvb with hvb
      rw [← hvb]
    have HG : Hid (Calls Tryz.prog 56 #[fptr S, .string ⟨#[68, 101, 110, 105, 101, 100]⟩] w fun e w' => e = .returned (.tuple #[.string vb, .int .i64 0]) ∧ w = w') := by
      unfold getS at HG0
      rw [hg] at HG0
      rw [← hvb]
      exact HG0
    obtain ⟨k, hk⟩ : ∃ k, vb.size = k := ⟨_, rfl⟩
    have HVL : Hid (v.length = k) := by show _ = _; rw [← HVB.out, ← bsz]; exact hk
    have hk128 : k ≤ 128 := by have := HVL.out; omega
    have hkI : ¬ (k : Int) > 128 := by omega
    show Calls _ _ _ _ (NewD w (if v.length % 32 = 0 ∧ v.length ≤ 128 then chunk v else []))
    by_cases hm : k % 32 = 0
    · rw [if_pos ⟨by rw [HVL.out]; exact hm, by rw [HVL.out]; exact hk128⟩]
      obtain ⟨q, hq⟩ : ∃ q, k = q * 32 := ⟨k / 32, by omega⟩
      subst hq
      have hq4 : q ≤ 4 := by omega
      have hrem : ((q * 32 : Nat) : Int) % 32 = 0 := by omega
      have hquo : ((q * 32 : Nat) : Int) / 32 = (q : Int) := by omega
      have hmk := mk_dig w q hq4
      clear HG0 hg h hvb hvl
      go_enter Tryz.func23, Tryz.ntmps23
      go_wp2_with fail
      refine HG.out.mono ?_
      rintro e w' ⟨rfl, rfl⟩
      go_wp2_with fail
      clear hmk c0 HG
      have HR0 : Hid (Row (w.alloc (.cells (Ms.arr (q * 32) Ms.zb) 31)) w.heap.size 31 (q * 32) (dcell v 0)) := (Row.ofList w 31 (Ms.arr (q * 32) Ms.zb) Ms.zb (q * 32) rfl).congr fun j hj => by
        unfold dcell; rw [if_neg (by omega)]; rfl
      have HB0 : Hid (Below w.heap.size w (w.alloc (.cells (Ms.arr (q * 32) Ms.zb) 31))) := (Below.refl _ _).alloc (Nat.le_refl _) _
      generalize w.alloc (.cells (Ms.arr (q * 32) Ms.zb) 31) = W0 at *
      obtain ⟨B, hB⟩ : ∃ B, w.heap.size = B := ⟨_, rfl⟩
      have HBE := Lib.hid hB
      rw [hB] at HR0 ⊢
      clear hB
      go_loopw [34] (fun z wr => ∃ i : Nat, i ≤ q ∧ z = .int .i64 (i : Int) ∧ Hid (Row wr B 31 (q * 32) (dcell v i)) ∧ Hid (Below w.heap.size w wr)) (fun z _ => q - (intOf z).toNat)
      case atStart => exact ⟨0, by omega, rfl, HR0, HB0⟩
      case round =>
        clear HR0 HB0
        obtain ⟨i, hi, rfl, HR, HB⟩ := hrel
        by_cases hlt : i < q
        · have y0 : (i : Int) < q := by omega
          have hwi : IntKind.i64.wrap ((i : Int) * 32) = ((i * 32 : Nat) : Int) := by rw [IntWalk.i64_in _ ⟨by omega, by omega⟩]; omega
          have hsl : ((i * 32 : Nat) : Int) ≤ (vb.size : Int) := by omega
          go_wp2_with fail
          refine wp_region_pl (fun Y => True) ((0, 0) :: (1, 0) :: (2, 0) :: (3, 0) :: (4, 0) :: (5, 0) :: (6, 0) :: (7, 0) :: (8, 1) :: []) (by kernel_rfl) (by kernel_rfl) ?_
          iterate 8 (apply wpP_go; (focus rfl); (focus rfl); (focus exact trivial); (focus (intro Y s0; go_simp; exact rfl)); intro K hK; go_simp; refine hK _ ?_; clear hK K)
          have htd : (vb.extract ((i : Int) * 32).toNat (q * 32)).data.toList = v.drop (i * 32) := by
            rw [show ((i : Int) * 32).toNat = i * 32 by omega, ← hk, Lib.extract_to_end, HVB.out]
          generalize vb.extract ((i : Int) * 32).toNat (q * 32) = tb at htd ⊢
          have htz : tb.size = q * 32 - i * 32 := by rw [bsz, htd, List.length_drop, HVL.out]
          have hcp := copy32 (W := wr.drew) (g := B) (o := i * 32) (c := 32) (t := tb) (by omega) (fun j hj => ⟨by rw [HR.out.drew.cell (by omega)]; rfl, HR.out.drew.frozen _⟩)
          have HR2 : Hid (Row (wr.drew.setCells B (i * 32) (bys' (tb.data.toList.take 32))) B 31 (q * 32) (dcell v (i + 1))) := by rw [htd]; exact dcell_set HR.out.drew hlt HVL.out
          have HB2 : Hid (Below w.heap.size w (wr.drew.setCells B (i * 32) (bys' (tb.data.toList.take 32)))) := Ms.Below.setAll (by rw [HBE.out]; exact Nat.le_refl _) _ _ _ HB.out.drew
          clear htd HR HB
          iterate 1 (apply wpP_one; (focus rfl); intro K hK; go_simp; refine hK _ _ trivial ?_; clear hK K)
          refine wpP_done ?_
          clear hcp
          go_wp2_with fail
          go_roundw
          case rel => exact ⟨i + 1, by omega, by go_num, HR2, HB2⟩
          case measure => simp [intOf]; omega
        · have ei : i = q := by omega
          have y0 : ¬ (i : Int) < q := by omega
          subst ei
          have HRD := Lib.hid (dcell_own HR.out HVL.out hq4)
          have HRE : Hid (OwD wr w.heap.size (.slice (some ⟨B, 0, none⟩) i i) (chunk v)) := by rw [HBE.out]; exact HRD
          go_wp2_with fail
          go_ret
          exact ⟨_, rfl, HRE.out, HB.out⟩
    · rw [if_neg (fun e => hm (by rw [← HVL.out]; exact e.1))]
      have hrem : ¬ ((k : Nat) : Int) % 32 = 0 := by omega
      have hremN : (((k : Nat) : Int) % 32 != 0) = true := by rw [bne_iff_ne]; exact hrem
      clear HG0 hg h hvb hvl hm
      go_enter Tryz.func23, Tryz.ntmps23
      go_wp2_with fail
      refine HG.out.mono ?_
      rintro e w' ⟨rfl, rfl⟩
      go_wp2_with fail
      go_ret
      exact NewD.nil (Below.refl _ _)
end
end Go.Proofs.YtdinbpdpalgohaaGreatDoor
namespace Go.Proofs.YtdinbpdpalgohaaGreatDoor
open Go.RowKit
attribute [local go_sem ↓] Ms.alloc26 Ms.load26n Ms.store26n
theorem eqDg {d e : Str} (hd : d.length = 32) (he : e.length = 32) (w : World) : (binOp .eql 31 (.agg (Ms.arr 32 (Ms.b8 (dgF d)))) (.agg (Ms.arr 32 (Ms.b8 (dgF e))))).run Tryz.prog w = .ok (.bool (decide (d = e))) w := by
  rw [Ms.eqD (dgF_byt d) (dgF_byt e), dgF_dl hd, dgF_dl he]
  congr 2
  rw [Bool.eq_iff_iff]; simp
theorem neDg {d e : Str} (hd : d.length = 32) (he : e.length = 32) (w : World) : (binOp .neq 31 (.agg (Ms.arr 32 (Ms.b8 (dgF d)))) (.agg (Ms.arr 32 (Ms.b8 (dgF e))))).run Tryz.prog w = .ok (.bool (!decide (d = e))) w := by
  rw [Ms.neD (dgF_byt d) (dgF_byt e), dgF_dl hd, dgF_dl he]
  congr 2
  rw [Bool.eq_iff_iff]; simp
theorem dg_row (w : World) (d : Str) : Row (w.alloc (.cells (Ms.arr 32 (Ms.b8 (dgF d))) 31)) w.heap.size 31 32 (Ms.b8 (dgF d)) := Row.ofList w _ _ _ 32 rfl
theorem ld26 {W : World} {g t : Nat} {f : Nat → Value} (h : Row W g t 32 f) : Ms.ldN 32 W (.pointer (some ⟨g, 0, none⟩)) = some (Ms.arr 32 f) :=
  Ms.ldN_of (fun j u hu => by
    have hj : j < 32 := by have := (List.getElem?_eq_some_iff.1 hu).1; simpa [Ms.arr] using this
    have : u = f j := by simpa [Ms.arr, hj] using hu.symm
    rw [this, Nat.zero_add, h.cell hj]) (Ms.arr_size _ _)
section
variable {w w' : World} {v : Value} {l : List Str} {d : Str}
set_option maxRecDepth 100000 in
set_option maxHeartbeats 2000000 in
theorem indexD_any (h : RdD w v l) (hl : ∀ e ∈ l, e.length = 32) (hd : d.length = 32) : Calls Tryz.prog 118 #[v, dgA d] w fun e w' => (∃ x : Int, e = .returned (.int .i64 x) ∧ decide (x ≥ 0) = decide (d ∈ l)) ∧ Below w.heap.size w w' := by
  obtain ⟨a, c, rfl, h1, h2⟩ := h.shape
  obtain ⟨cs, hcs⟩ : ∃ cs, cs = Ms.arr 32 (Ms.b8 (dgF d)) := ⟨_, rfl⟩
  have he : dgA d = .agg cs := by rw [hcs]; rfl
  have HB0 : Hid (Below w.heap.size w (w.alloc (.cells cs 31))) := (Below.refl _ _).alloc (Nat.le_refl _) _
  have HR0 : Hid (Row (w.alloc (.cells cs 31)) w.heap.size 31 32 (Ms.b8 (dgF d))) := by rw [hcs]; exact dg_row w d
  have H0 := Lib.hid (h.below HB0.out)
  have HCS := Lib.hid hcs
  obtain ⟨len, hlen⟩ : ∃ len, l.length = len := ⟨_, rfl⟩
  have HL := Lib.hid hlen
  have HLL := Lib.hid hl
  have HD := Lib.hid hd
  rw [hlen] at H0 h1 ⊢
  rw [he]
  clear h hlen hl hd he hcs
  go_enter Tryz.func118, Tryz.ntmps118
  go_wp2_with fail
  generalize w.alloc (.cells cs 31) = W0 at *
  obtain ⟨B, hB⟩ : ∃ B, w.heap.size = B := ⟨_, rfl⟩
  have HBE := Lib.hid hB
  rw [hB] at HR0 ⊢
  clear hB
  go_loopw [8] (fun z wr => ∃ i : Nat, i ≤ len ∧ z = .int .i64 (i : Int) ∧ Hid (d ∉ l.take i) ∧ Hid (RdD wr (.slice a len c) l) ∧ Hid (Row wr B 31 32 (Ms.b8 (dgF d))) ∧ Hid (Below w.heap.size w wr)) (fun z _ => len - (intOf z).toNat)
  case atStart => exact ⟨0, by omega, rfl, (fun h => by cases h), H0, HR0, HB0⟩
  case round =>
    clear HR0 HB0 H0
    obtain ⟨i, hi, rfl, HN, H, HR, HB⟩ := hrel
    by_cases hlt : i < len
    · have y0 : (i : Int) < len := by omega
      have hil : i < l.length := by rw [HL.out]; exact hlt
      obtain ⟨g, o, c', e, _, _, hc⟩ := H.out.at hil
      rw [HL.out] at e
      injection e with e1 _ e3
      subst e1 e3
      have hld := ld26 HR.out
      rw [← HCS.out] at hld
      have heq : ∀ Y, (binOp .eql 31 (.agg cs) (.agg (Ms.arr 32 (Ms.b8 (dgF l[i]))))).run Tryz.prog Y = .ok (.bool (decide (d = l[i]))) Y := fun Y => by rw [HCS.out]; exact eqDg HD.out (HLL.out _ (List.getElem_mem hil)) Y
      have HST : Hid (∀ q, decide (d = l[i]) = q → (q = false → d ∉ l.take (i + 1)) ∧ (q = true → d ∈ l)) := by
        rintro q rfl
        refine ⟨fun hq => ?_, fun hq => ?_⟩
        · rw [List.take_succ_eq_append_getElem hil, List.mem_append]
          rintro (h | h)
          · exact HN.out h
          · rw [List.mem_singleton] at h; simp [h] at hq
        · have : d = l[i] := by simpa using hq
          rw [this]; exact List.getElem_mem hil
      generalize decide (d = l[i]) = q at *
      generalize Ms.arr 32 (Ms.b8 (dgF l[i])) = ds at *
      have S1 : Hid (Ms.ldN 32 wr.drew (.pointer (some ⟨B, 0, none⟩)) = some cs ∧ Ms.ldN 32 wr.drew (.pointer (some ⟨g, o + i * 32, none⟩)) = some ds) := ⟨by rw [Ms.ldN_drew]; exact hld, by rw [Ms.ldN_drew]; exact hc⟩
      clear hld hc hil
      go_wp2_with fail
      refine wp_region_pl (fun Y => Ms.ldN 32 Y (.pointer (some ⟨B, 0, none⟩)) = some cs ∧ Ms.ldN 32 Y (.pointer (some ⟨g, o + i * 32, none⟩)) = some ds) ((0, 0) :: (1, 0) :: (2, 0) :: (3, 0) :: (4, 0) :: (5, 0) :: []) (by kernel_rfl) (by kernel_rfl) ?_
      iterate 6 (apply wpP_go; (focus rfl); (focus rfl); (focus exact S1.out); (focus (rintro Y ⟨s0, s1⟩; go_simp; exact rfl)); intro K hK; go_simp; refine hK _ ?_; clear hK K)
      refine wpP_done ?_
      clear S1 heq
      have H2 : Hid (RdD wr.drew (.slice (some ⟨g, o, none⟩) len c) l) := H.out
      have HR2 : Hid (Row wr.drew B 31 32 (Ms.b8 (dgF d))) := HR.out
      have HB2 : Hid (Below w.heap.size w wr.drew) := HB.out.drew
      clear H HR HB
      generalize wr.drew = wn at *
      cases q
      · have HN2 := Lib.hid ((HST.out _ rfl).1 rfl)
        clear HST
        go_wp2_with fail
        go_roundw
        case rel => exact ⟨i + 1, by omega, by go_num, HN2, H2, HR2, HB2⟩
        case measure => simp [intOf]; omega
      · have HM := Lib.hid ((HST.out _ rfl).2 rfl)
        clear HST
        go_wp2_with fail
        go_ret
        exact ⟨⟨_, rfl, by have := HM.out; simp [this]⟩, HB2.out⟩
    · have y0 : ¬ (i : Int) < len := by omega
      have HF : Hid (d ∉ l) := by
        have := HN.out
        rw [List.take_of_length_le (by rw [HL.out]; omega)] at this
        exact this
      go_wp2_with fail
      go_ret
      exact ⟨⟨_, rfl, by have := HF.out; simp [this]⟩, HB.out⟩
set_option maxRecDepth 100000 in
set_option maxHeartbeats 2000000 in
theorem containsD_any (h : RdD w v l) (hl : ∀ e ∈ l, e.length = 32) (hd : d.length = 32) : Calls Tryz.prog 61 #[v, dgA d] w fun e w' => e = .returned (.bool (decide (d ∈ l))) ∧ Below w.heap.size w w' := by
  obtain ⟨cs, hcs⟩ : ∃ cs, cs = Ms.arr 32 (Ms.b8 (dgF d)) := ⟨_, rfl⟩
  have he : dgA d = .agg cs := by rw [hcs]; rfl
  have HB0 : Hid (Below w.heap.size w (w.alloc (.cells cs 31))) := (Below.refl _ _).alloc (Nat.le_refl _) _
  have hld : Ms.ldN 32 (w.alloc (.cells cs 31)) (.pointer (some ⟨w.heap.size, 0, none⟩)) = some cs := by rw [hcs]; exact ld26 (dg_row w d)
  have HI := Lib.hid (indexD_any (h.below HB0.out) hl hd)
  rw [he] at HI ⊢
  obtain ⟨a, c, rfl, h1, h2⟩ := h.shape
  clear h hl hd he hcs h1 h2
  generalize decide (d ∈ l) = q at *
  go_enter Tryz.func61, Tryz.ntmps61
  go_wp2_with fail
  refine HI.out.mono ?_
  rintro e w1 ⟨⟨x, rfl, hx⟩, b1⟩
  have HB1 : Hid (Below w.heap.size w w1) := HB0.out.trans (b1.mono HB0.out.size)
  clear b1 HI HB0 hld
  go_wp2_with fail
  go_ret
  exact ⟨rfl, HB1.out⟩
end
end Go.Proofs.YtdinbpdpalgohaaGreatDoor
namespace Go.Proofs.YtdinbpdpalgohaaGreatDoor
open Go.RowKit
attribute [local go_sem ↓] Ms.alloc26 Ms.load26n Ms.store26n
attribute [local go_sem] Ms.set_new
def denyB (b : BM) (d : Str) : Int × BM := if d ∈ denV b.st.V then (0, b) else if 4 ≤ (denV b.st.V).length then (8, b) else setB b nmD (denV b.st.V ++ [d]).flatten
theorem Tryz.infoDg : (Tryz.prog.info? 31).map (fun i => (i.zero, i.size, i.bytes)) = some (some (.agg (Ms.arr 32 Ms.zb)), 32, 32) := by kernel_rfl
theorem dg_bys {d : Str} (hd : d.length = 32) : (Ms.arr 32 (Ms.b8 (dgF d))).toList = bys' d := by
  apply List.ext_getElem?
  intro j
  by_cases hj : j < 32
  · rw [bys'_at d j (by omega)]
    simp [Ms.arr, hj, Ms.b8, dgF]
  · rw [List.getElem?_eq_none (by simp [Ms.arr]; omega), List.getElem?_eq_none (by rw [bys'_len]; omega)]
def slcD (x : Value) : Option (Array Value) := match x with
  | .agg cs => if cs.size = 32 then some cs else none
  | _ => none
set_option maxRecDepth 100000 in
theorem slice47a (f : Nat → Value) (w : World) : Sem.run Tryz.prog (Instr.buildSlice 47 1 #[(0, .agg (Ms.arr 32 f))]) w = .ok (.slice (some ⟨w.heap.size, 0, none⟩) 1 1) (w.alloc (.cells (Ms.arr 32 f) 31)) := by kernel_rfl
set_option maxRecDepth 100000 in
theorem slice47 (ρ : Operand → Value) (d : Option Tmp) (x : Operand) (ty : TypeId) (p : String) (af : Array Edge) (g : Option (Nat × Bool)) (w : World) :
    Sem.run Tryz.prog (execOp ρ { dst := d, op := .buildSlice 47 1 #[(0, x)], type := ty, pos := p, after := af, guard := g }) w =
      match slcD (ρ x) with
      | some cs => .ok (.value (.slice (some ⟨w.heap.size, 0, none⟩) 1 1)) (w.alloc (.cells cs 31))
      | none => Sem.run Tryz.prog (Instr.buildSlice 47 1 #[(0, ρ x)] >>= fun v => pure (Next.value v)) w := by
  have e : execOp ρ { dst := d, op := .buildSlice 47 1 #[(0, x)], type := ty, pos := p, after := af, guard := g } = Instr.buildSlice 47 1 #[(0, ρ x)] >>= fun v => pure (Next.value v) := by simp [execOp]
  rw [e]
  clear e
  generalize ρ x = X
  unfold slcD
  split
  · next h =>
    split at h
    · split at h
      · next cs hs =>
        injection h with h
        subst h
        rw [Ms.arr_of hs, Sem.run_bind, slice47a]
        rfl
      · cases h
    · cases h
  · rfl
theorem flatten_take_succ {D : List Str} {i : Nat} (h : i < D.length) : (D.take (i + 1)).flatten = (D.take i).flatten ++ D[i] := by
  rw [List.take_succ_eq_append_getElem h, List.flatten_append, List.flatten_cons, List.flatten_nil, List.append_nil]
theorem bys'_app (a b : Str) : bys' (a ++ b) = bys' a ++ bys' b := by simp [bys']
section
attribute [local go_sem ↓] slice47
attribute [local go_sem] slcD Ms.stN_b8 Ms.set_new
variable {w w' : World} {N M S L n : Nat} {O : Nat → Prop} {b : BM}
set_option maxRecDepth 100000 in
set_option maxHeartbeats 2000000 in
theorem deny_any (h : BW w N O M S L n b) (hb : b.st.blk < b.fl.B) (hn : n < 1000) {d : Str} (hd : d.length = 32) : Calls Tryz.prog 21 #[fptr M, dgA d] w (MR w N O M S L (n + 1) (denyB b d)) := by
  obtain ⟨cs, hcs⟩ : ∃ cs, cs = Ms.arr 32 (Ms.b8 (dgF d)) := ⟨_, rfl⟩
  have he : dgA d = .agg cs := by rw [hcs]; rfl
  have hB0 : Below w.heap.size w (w.alloc (.cells cs 31)) := (Below.refl _ _).alloc (Nat.le_refl _) _
  have hR0 : Row (w.alloc (.cells cs 31)) w.heap.size 31 32 (Ms.b8 (dgF d)) := by rw [hcs]; exact dg_row w d
  have HW0 := Lib.hid (h.below hB0)
  have HDN := Lib.hid (denied_any HW0.out)
  have HB0 := Lib.hid hB0
  have HR0 := Lib.hid hR0
  have HCS := Lib.hid hcs
  have HD := Lib.hid hd
  have HE := Lib.hid he
  have HWW := Lib.hid h
  rw [he]
  clear h hB0 hR0 hcs hd he
  obtain ⟨E, hE⟩ : ∃ E, w.heap.size = E := ⟨_, rfl⟩
  have HEE := Lib.hid hE
  rw [hE] at HR0
  have hsz : w.heap.size ≤ (w.alloc (.cells cs 31)).heap.size := HB0.out.size
  obtain ⟨r, hr⟩ : ∃ r, denyB b d = r := ⟨_, rfl⟩
  have HRE := Lib.hid hr
  rw [hr]
  clear hr
  go_enter Tryz.func21, Tryz.ntmps21
  go_wp2_with fail
  generalize w.alloc (.cells cs 31) = W0 at *
  refine HDN.out.mono ?_
  rintro e w1 ⟨v, rfl, ho, b1⟩
  have HO1 := Lib.hid ho
  have HB1 : Hid (Below w.heap.size w w1) := HB0.out.trans (b1.mono HB0.out.size)
  have HW1 := Lib.hid (HW0.out.below b1)
  have HR1 := Lib.hid (HR0.out.ch (Ch.of_below b1 (fun _ => False)) id)
  have hl32 : ∀ e ∈ denV b.st.V, e.length = 32 := denV_32
  have hlen4 := denV_len b.st.V
  have hld := ld26 HR1.out
  rw [← HCS.out] at hld
  have HCT : Hid (Calls Tryz.prog 61 #[v, .agg cs] w1 fun e w' => e = .returned (.bool (decide (d ∈ denV b.st.V))) ∧ Below w1.heap.size w1 w') := by
    rw [← HE.out]; exact containsD_any ho.rd hl32 HD.out
  obtain ⟨a, c, rfl, hac, hcm⟩ := ho.rd.shape
  unfold denyB at HRE
  generalize denV b.st.V = dn at *
  have HL32 := Lib.hid hl32
  have hz1 : W0.heap.size ≤ w1.heap.size := b1.size
  clear ho b1 HDN HW0 HR0 HB0 hl32 hE
  go_wp2_with fail
  refine HCT.out.mono ?_
  rintro e w2 ⟨rfl, b2⟩
  have HB2 : Hid (Below w.heap.size w w2) := HB1.out.trans (b2.mono HB1.out.size)
  have HW2 := Lib.hid (HW1.out.below b2)
  have HR2 := Lib.hid (HR1.out.ch (Ch.of_below b2 (fun _ => False)) id)
  have HO2 := Lib.hid (HO1.out.below b2)
  have hZ : W0.heap.size ≤ w2.heap.size := Nat.le_trans hz1 b2.size
  clear hz1
  clear b2 HCT HB1 HW1 HR1 HO1 hld
  by_cases hm : d ∈ dn
  · have e0 : r = (0, b) := by rw [← HRE.out, if_pos hm]
    subst e0
    have hmd : decide (d ∈ dn) = true := decide_eq_true hm
    rw [hmd]
    clear hm hmd HRE
    go_wp2_with fail
    go_ret
    exact ⟨rfl, MLeft.same (HW2.out.mono (Nat.le_succ _)) (Ch.of_below HB2.out _)⟩
  have hmd : decide (d ∈ dn) = false := decide_eq_false hm
  rw [hmd]
  by_cases h4 : 4 ≤ dn.length
  · have e0 : r = (8, b) := by rw [← HRE.out, if_neg hm, if_pos h4]
    subst e0
    have h4I : ((dn.length : Nat) : Int) ≥ 4 := by omega
    clear hm hmd HRE
    go_wp2_with fail
    go_ret
    exact ⟨rfl, MLeft.same (HW2.out.mono (Nat.le_succ _)) (Ch.of_below HB2.out _)⟩
  obtain ⟨F, hF⟩ : ∃ F, (dn ++ [d]).flatten = F := ⟨_, rfl⟩
  have HF := Lib.hid hF
  have e0 : r = setB b nmD F := by rw [← HRE.out, if_neg hm, if_neg h4, hF]
  clear hF
  subst e0
  have h4I : ¬ ((dn.length : Nat) : Int) ≥ 4 := by omega
  have hld := ld26 HR2.out
  rw [← HCS.out] at hld
  clear hm hmd HRE
  obtain ⟨i0, hi0, hz0, hz1, hz2⟩ := info_parts Tryz.infoDg
  have hcs32 : cs.size = 32 := by rw [HCS.out, Ms.arr_size]
  have hcl : cs.toList = bys' d := by rw [HCS.out]; exact dg_bys HD.out
  have HOA : Hid ((w2.alloc (.cells cs 31)).ownsRow W0.heap.size 31 32 (.slice a dn.length c) dn.length (bys' dn.flatten)) := ownN_ch HO2.out.1 ((Ch.refl (fun _ => False) w2).alloc _) (fun _ _ h => h)
  have HNW : Hid (∀ j u, (bys' d)[j]? = some u → (w2.alloc (.cells cs 31)).cell? ((⟨w2.heap.size, 0, none⟩ : Addr).add j) = some u) := World.news_of_block (heap_alloc_new w2 _) |> fun h => by rw [← hcl]; exact h
  have HB3 : Hid (Below w.heap.size w (w2.alloc (.cells cs 31))) := HB2.out.alloc HB2.out.size _
  have hdl := HD.out
  clear hcl
  go_wp2_with (at_builtin; refine wpList_append_lies _ rfl _ _ 47 rfl W0.heap.size 31 i0 _ 32 32 Tryz.underlying47 hi0 hz0 hz1 hz2 (by kernel_rfl) (by omega) _ dn.length (bys' dn.flatten) rfl (by exact HOA.out) ⟨w2.heap.size, 0, none⟩ 1 1 (bys' d) rfl (by rw [bys'_len, hdl]) (by exact HNW.out) (bys'_one d) (by omega) (by simp only [maxLen]; omega) (by omega) (by simp; omega) (w2.heap.size + 1) (by simp) ?_)
  intro g cap w4 hown4 hgrow4 hat4 hlt4
  have HB4 : Hid (Below w.heap.size w w4) := Below.grown HB3.out hgrow4 (by simp; have := HB2.out.size; omega) (fun k hk => Nat.le_trans hsz (HOA.out.lt k hk).1)
  have HGW : Hid (W0.heap.size ≤ g) := by
    rcases hat4 with e | e
    · exact (HOA.out.lt g e).1
    · rw [e]; show _ ≤ _; omega
  obtain ⟨D, hD⟩ : ∃ D, dn ++ [d] = D := ⟨_, rfl⟩
  obtain ⟨m, hm⟩ : ∃ m, dn.length + 1 = m := ⟨_, rfl⟩
  have HDm : Hid (D.length = m) := by show _ = _; rw [← hD, ← hm]; simp
  have HD32 : Hid (∀ e ∈ D, e.length = 32) := by
    rw [← hD]
    intro e he
    rcases List.mem_append.1 he with h | h
    · exact HL32.out e h
    · rw [List.mem_singleton.1 h]; exact hdl
  have HO4 : Hid (OwD w4 W0.heap.size (.slice (some ⟨g, 0, none⟩) m cap) D) := by
    refine ⟨?_, HD32.out, by rw [HDm.out]; omega⟩
    rw [HDm.out, ← hm, ← hD, List.flatten_append, List.flatten_cons, List.flatten_nil, List.append_nil, bys'_app]
    exact hown4
  have HFF : Hid (F = D.flatten) := by show _ = _; rw [← HF.out, hD]
  have hm4 : m ≤ 4 := by omega
  have HDp : Hid (1 ≤ m) := by show _ ≤ _; omega
  have HWk : Hid (BW w N O M S L n b ∧ w.heap.size ≤ W0.heap.size) := ⟨HWW.out, hsz⟩
  obtain ⟨Z, hZz⟩ : ∃ Z, W0.heap.size = Z := ⟨_, rfl⟩
  rw [hZz] at HO4 HGW HWk
  obtain ⟨j0, hj0, hy0, hy1, hy2⟩ := info_parts Tryz.infoU
  rw [hm]
  clear hown4 hgrow4 hat4 hlt4 HOA HNW HB3 HO2 HR2 HW2 HB2 HL32 hld hcs32 HCS HE HEE hZ hsz hi0 hz0 hz1 hz2 hdl h4 h4I hac hcm hlen4 HF hZz
  clear hm hD
  go_wp2_with fail
  have HU0 : Hid (w4.ownsRow w.heap.size 5 1 (.slice none 0 0) 0 (bys' (D.take 0).flatten)) := ⟨rfl, .inl ⟨rfl, rfl⟩⟩
  go_loopw [6, 22] (fun x z wr => ∃ (i : Nat), i ≤ m ∧ z = .int .i64 (i : Int) ∧ Hid (wr.ownsRow w.heap.size 5 1 x (i * 32) (bys' (D.take i).flatten)) ∧ Hid (OwD wr Z (.slice (some ⟨g, 0, none⟩) m cap) D) ∧ Hid (Below w.heap.size w wr)) (fun _ z _ => m - (intOf z).toNat)
  case atStart => exact ⟨0, by omega, rfl, HU0, HO4, HB4⟩
  case round =>
    clear HU0 HO4 HB4
    obtain ⟨i, hi, rfl, HU, HO, HB⟩ := hrel
    obtain ⟨xa, xc, rfl⟩ := Ms.own_len HU.out
    by_cases hlt : i < m
    · have y0 : (i : Int) < m := by omega
      have hil : i < D.length := by rw [HDm.out]; exact hlt
      obtain ⟨g', o, c', e, hmc, _, hc⟩ := HO.out.rd.at hil
      rw [HDm.out] at e hmc
      injection e with e1 _ e3
      injection e1 with e1
      injection e1 with e1 e2 _
      subst e1 e2 e3
      rw [Nat.zero_add] at hc
      have HE1 : Hid ((D[i]).length = 32) := HD32.out _ (List.getElem_mem hil)
      have HTS : Hid ((D.take (i + 1)).flatten = (D.take i).flatten ++ D[i]) := flatten_take_succ hil
      have HFL : Hid ((D.take i).flatten.length = i * 32) := by
        show _ = _
        rw [flat32 _ (fun e he => HD32.out e (List.mem_of_mem_take he)), List.length_take]
        omega
      generalize D[i] = d1 at *
      have HR1 := Lib.hid (dg_row wr d1)
      have HU1 : Hid ((wr.alloc (.cells (Ms.arr 32 (Ms.b8 (dgF d1))) 31)).ownsRow w.heap.size 5 1 (.slice xa (i * 32) xc) (i * 32) (bys' (D.take i).flatten)) := ownN_ch HU.out ((Ch.refl (fun _ => False) wr).alloc _) (fun _ _ h => h)
      have HO1 : Hid (OwD (wr.alloc (.cells (Ms.arr 32 (Ms.b8 (dgF d1))) 31)) Z (.slice (some ⟨g, 0, none⟩) m cap) D) := HO.out.ch ((Ch.refl (fun _ => False) wr).alloc _) (fun _ _ h => h)
      have HN1 : Hid (∀ j u, (bys' d1)[j]? = some u → (wr.alloc (.cells (Ms.arr 32 (Ms.b8 (dgF d1))) 31)).cell? ((⟨wr.heap.size, 0, none⟩ : Addr).add j) = some u) := World.news_of_block (heap_alloc_new wr _) |> fun h => by rw [← dg_bys HE1.out]; exact h
      have HB1 : Hid (Below w.heap.size w (wr.alloc (.cells (Ms.arr 32 (Ms.b8 (dgF d1))) 31))) := HB.out.alloc HB.out.size _
      have hsw : w.heap.size ≤ wr.heap.size := HB.out.size
      have hd1 := HE1.out
      clear HU HO HB
      go_wp2_with (at_builtin; refine wpList_append_lies _ rfl _ _ 99 rfl w.heap.size 5 j0 _ 1 1 Tryz.underlying99 hj0 hy0 hy1 hy2 (by kernel_rfl) (by omega) _ (i * 32) (bys' (D.take i).flatten) rfl (by exact HU1.out) ⟨wr.heap.size, 0, none⟩ 32 32 (bys' d1) rfl (by rw [bys'_len, hd1]) (by exact HN1.out) (bys'_one d1) (by omega) (by simp only [maxLen]; omega) (by omega) (by simp; omega) (wr.heap.size + 1) (by simp) ?_)
      intro g2 cap2 w5 hown5 hgrow5 hat5 hlt5
      have hne : ∀ k, (Value.slice xa (i * 32) xc).ownBlock = some k → k ≠ g := fun k hk => (ownN_rg HU1.out hk).1.ty (ownN_rg HO1.out.1 rfl).1 (by decide)
      have HB5 : Hid (Below w.heap.size w w5) := Below.grown HB1.out hgrow5 (by simp; omega) (fun k hk => (HU1.out.lt k hk).1)
      have HO5 : Hid (OwD w5 Z (.slice (some ⟨g, 0, none⟩) m cap) D) := HO1.out.ch (Ch.of_grown (C := fun k => k ≠ g) hgrow5 (fun k hk _ => hne k hk)) (fun k hk q => by
        have e : g = k := by simpa [Value.ownBlock] using hk
        exact q e.symm)
      have HU5 : Hid (w5.ownsRow w.heap.size 5 1 (.slice (some ⟨g2, 0, none⟩) (i * 32 + 32) cap2) ((i + 1) * 32) (bys' (D.take (i + 1)).flatten)) := by
        rw [HTS.out, bys'_app, show (i + 1) * 32 = i * 32 + 32 by omega]
        exact hown5
      clear hown5 hgrow5 hat5 hlt5 hne HB1 HO1 HU1 HN1 HTS HFL HE1 hd1 HR1 hc
      go_wp2_with fail
      go_roundw
      case rel => exact ⟨i + 1, by omega, by go_num, HU5, HO5, HB5⟩
      case measure => simp [intOf]; omega
    · have ei : i = m := by omega
      have y0 : ¬ (i : Int) < m := by omega
      subst ei
      have hD : D.take i = D := List.take_of_length_le (by rw [HDm.out]; exact Nat.le_refl _)
      have hU := HU.out
      rw [hD, ← HFF.out] at hU
      have hFl : F.length = i * 32 := by rw [HFF.out, flat32 _ HD32.out, HDm.out]
      have hFl2 := hFl
      rcases hU.2 with ⟨_, q0⟩ | ⟨g2, cap2, cur, e, hb2, hh, q3, q4, q5, q6⟩
      · exfalso
        have := HDm.out
        have := HDp.out
        omega
      injection e with e1 _ e3
      subst e1 e3
      have HG : Hid (Rg wr g2 5 (i * 32) (fun j => .int .u8 ((F.getD j 0).toNat : Int))) := own_bys hU hFl
      obtain ⟨vb, hvb⟩ : ∃ vb : ByteArray, vb = ⟨F.toArray⟩ := ⟨_, rfl⟩
      have HVB : Hid (vb.data.toList = F) := by show _ = _; rw [hvb]
      have hvz : vb.size ≤ 1000000 := by rw [bsz, HVB.out, hFl]; omega
      have HCV : Hid (∀ Y, Rg Y g2 5 (i * 32) (fun j => .int .u8 ((F.getD j 0).toNat : Int)) → (convert 99 9 (.slice (some ⟨g2, 0, none⟩) (i * 32) xc)).run Tryz.prog Y = .ok (.string vb) Y) := fun Y h => by rw [hvb]; exact conv_rg h hFl2
      have HWr := Lib.hid (HWW.out.below HB.out)
      have HST := Lib.hid (HWr.out.drew.setB hb hn (ke := ⟨#[68, 101, 110, 105, 101, 100]⟩) (k := nmD) (v := F) (by decide) hvz rfl HVB.out)
      have HnO : Hid (¬ O g2) := fun ho => by have := (HWW.out.oN g2 ho).2; omega
      have S1 : Hid (wr.drew.cell? ⟨M, 0, none⟩ = some (fptr S) ∧ Rg wr.drew g2 5 (i * 32) (fun j => .int .u8 ((F.getD j 0).toNat : Int))) := ⟨HWr.out.c0, HG.out⟩
      have HBr : Hid (Below w.heap.size w wr.drew) := HB.out.drew
      clear hvb hFl hFl2 hU hD HU HO HB HG hh q6
      go_wp2_with fail
      refine wp_region_pl (fun Y => Y.cell? ⟨M, 0, none⟩ = some (fptr S) ∧ Rg Y g2 5 (i * 32) (fun j => .int .u8 ((F.getD j 0).toNat : Int)))
        ((0, 0) :: (1, 0) :: (2, 0) :: (3, 0) :: (4, 0) :: (5, 0) :: (6, 1) :: (7, 0) :: []) (by kernel_rfl) (by kernel_rfl) ?_
      iterate 6 (apply wpP_go; (focus rfl); (focus rfl); (focus exact S1.out); (focus (rintro Y ⟨c0, s2⟩; have cv := HCV.out Y s2; go_simp; exact rfl)); intro K hK; go_simp; refine hK _ ?_; clear hK K)
      apply wpP_one
      focus rfl
      intro K hK
      go_simp
      refine HST.out.mono ?_
      rintro e w6 ⟨rfl, hl⟩
      have HLf := Lib.hid hl
      have S3 : Hid (w6.cell? ⟨M, 0, none⟩ = some (fptr S) ∧ Rg w6 g2 5 (i * 32) (fun j => .int .u8 ((F.getD j 0).toNat : Int))) := by
        obtain ⟨O', _, q2, q3⟩ := hl
        exact ⟨q2.c0, S1.out.2.ch q3 HnO.out⟩
      refine hK _ _ S3.out ?_
      clear hK K hl
      iterate 1 (apply wpP_go; (focus rfl); (focus rfl); (focus exact S3.out); (focus (intro Y s0; go_simp; exact rfl)); intro K hK; go_simp; refine hK _ ?_; clear hK K)
      refine wpP_done ?_
      clear S1 S3 HST
      go_wp2_with fail
      go_ret
      exact ⟨rfl, HLf.out.after HBr.out⟩
end
end Go.Proofs.YtdinbpdpalgohaaGreatDoor
namespace Go.Proofs.YtdinbpdpalgohaaGreatDoor
open Go.RowKit
def beginB (b : BM) : Int × BM := match getV b.st.V nmN with
  | some _ => if (delB b nmN).1 ≠ 0 then delB b nmN else (0, { (delB b nmN).2 with cand := cndV b.st.V, log := [], last := -1 })
  | none => (0, { b with cand := cndV b.st.V, log := [], last := -1 })
def ints (l : List Int) : List Value := l.map fun x => .int .i64 x
theorem ints_len (l : List Int) : (ints l).length = l.length := by simp [ints]
theorem ints_one (l : List Int) : ∀ u ∈ ints l, u.oneCell' = true := fun u hu => by obtain ⟨x, _, rfl⟩ := List.mem_map.1 hu; rfl
theorem ints_snoc (l : List Int) (x : Int) : ints (l ++ [x]) = ints l ++ [.int .i64 x] := by simp [ints]
/-- A row of these numbers. -/
def OwI (w : World) (B : Nat) (v : Value) (l : List Int) : Prop := w.ownsRow B 3 1 v l.length (ints l)
theorem OwI.rd {w : World} {B : Nat} {v : Value} {l : List Int} (h : OwI w B v l) : RdI w v l := by
  obtain ⟨_, h1⟩ := h
  rcases h1 with ⟨rfl, e⟩ | ⟨g, cap, cur, rfl, _, hh, h5, h6, _, h7⟩
  · have e : l = [] := List.eq_nil_of_length_eq_zero e
    subst e
    exact RdI.nil w
  · refine ⟨_, _, rfl, h5, h6, fun k hk => ?_, fun _ => ⟨g, 0, rfl, fun i x hx => ?_⟩⟩
    · have e : g = k := by simpa [Value.ownBlock] using hk
      rw [← e]; exact heap_lt hh
    · have hi := (List.getElem?_eq_some_iff.1 hx).1
      have q : (ints l)[i]? = some (.int .i64 x) := by unfold ints; rw [List.getElem?_map, hx]; rfl
      rw [← h7, List.getElem?_take_of_lt (by omega), Array.getElem?_toList] at q
      rw [Nat.zero_add, cell_of_row w g _ cur _ (0, 0) hh]
      exact q
theorem OwI.ch {w w' : World} {B : Nat} {v : Value} {l : List Int} {C : Nat → Prop} (h : OwI w B v l) (c : Ch C w w') (hC : ∀ g, v.ownBlock = some g → ¬ C g) : OwI w' B v l := ownN_ch h c hC
theorem OwI.below {w w' : World} {B : Nat} {v : Value} {l : List Int} (h : OwI w B v l) (c : Below w.heap.size w w') : OwI w' B v l := h.ch (Ch.of_below c (fun _ => False)) (fun _ _ h => h)
theorem containsI_any {w : World} {v : Value} {l : List Int} (h : RdI w v l) (x : Int) : Calls Tryz.prog 57 #[v, .int .i64 x] w fun e w' => e = .returned (.bool (decide (x ∈ l))) ∧ w' = w := by
  obtain ⟨a, c, rfl, h1, h2, h3, h4⟩ := h
  by_cases hl : l = []
  · subst hl
    have := Tryz.slices_Contains_int_empty a c x w
    simpa using this
  · obtain ⟨g, o, rfl, hx⟩ := h4 hl
    have := Tryz.slices_Contains_int g o l.length c l x w (Nat.le_refl _) (by unfold maxLen at h2; omega) (fun j hj => by rw [hx j l[j] (List.getElem?_eq_getElem hj), List.getD_eq_getElem?_getD, List.getElem?_eq_getElem hj]; rfl)
    rw [List.take_length] at this
    refine this.mono ?_
    rintro e w' ⟨he, hw⟩
    refine ⟨?_, hw⟩
    rw [he]
    congr 2
    rw [Bool.eq_iff_iff]; simp
/-- The candidates behind the first i of the order. -/
def cdI (nx ord : List Int) (i : Nat) : List Int := nx ++ (ord.take i).filter (fun x => !nx.contains x)
theorem cdI_step {nx ord : List Int} (hn : ord.Nodup) {i : Nat} (hi : i < ord.length) :
    (ord[i] ∈ cdI nx ord i → cdI nx ord (i + 1) = cdI nx ord i) ∧ (ord[i] ∉ cdI nx ord i → cdI nx ord (i + 1) = cdI nx ord i ++ [ord[i]]) := by
  have hni : ord[i] ∉ ord.take i := by
    have h1 : (ord.take (i + 1)).Nodup := hn.sublist (List.take_sublist _ _)
    rw [List.take_succ_eq_append_getElem hi, List.nodup_append] at h1
    intro hm
    exact h1.2.2 _ hm _ (List.mem_singleton.2 rfl) rfl
  unfold cdI
  rw [List.take_succ_eq_append_getElem hi, List.filter_append]
  constructor
  · intro hm
    have hx : ord[i] ∈ nx := by
      rcases List.mem_append.1 hm with h | h
      · exact h
      · exact absurd (List.mem_filter.1 h).1 hni
    rw [show [ord[i]].filter (fun x => !nx.contains x) = [] by simp [hx], List.append_nil]
  · intro hm
    have hx : ord[i] ∉ nx := fun h => hm (List.mem_append.2 (.inl h))
    rw [show [ord[i]].filter (fun x => !nx.contains x) = [ord[i]] by simp [hx], List.append_assoc]
theorem cdI_len (nx ord : List Int) (i : Nat) : (cdI nx ord i).length ≤ nx.length + ord.length := by
  unfold cdI
  rw [List.length_append]
  have := List.length_filter_le (fun x => !nx.contains x) (ord.take i)
  have := List.length_take_le i ord
  have : (ord.take i).length ≤ ord.length := by rw [List.length_take]; omega
  omega
section
variable {w w' : World} {N M S L n : Nat} {O : Nat → Prop} {b : BM}
theorem BW.begun (h : BW w N O M S L n b) {u : Value} {l' : List Int} (hu : RdI w u l') (ho : ∀ g, u.ownBlock = some g → ¬ O g ∧ N ≤ g) :
    ∃ O', (∀ k, O' k → O k ∨ u.ownBlock = some k) ∧ BW (((w.setCell ⟨M, 2, none⟩ u).setCell ⟨M, 3, none⟩ (.slice none 0 0)).setCell ⟨M, 4, none⟩ (.int .i64 (-1))) N O' M S L n { b with cand := l', log := [], last := -1 } := by
  have h1 := h.takeCand hu ho
  have h2 := h1.takeLog (u := .slice none 0 0) (l' := []) ⟨rfl, .inl ⟨rfl, rfl⟩⟩ (fun _ h => (by cases h))
  exact ⟨_, fun k hk => hk.elim id (fun h => (by cases h)), h2.setLast (-1)⟩
end
end Go.Proofs.YtdinbpdpalgohaaGreatDoor
