/- program: a record written page by page. No condition but sizes. -/
import Derived.Test.YtfglopkglnpokaaL
namespace Go.Proofs.Ytfglopkglnpokaa
open Go.RowKit
def pad (d : Str) : Str := d ++ List.replicate (pgs d.length * 64 - d.length) 255
def chunks (n : Nat) (d : Str) : List Str := (List.range n).map fun i => (d.drop (64 * i)).take 64
/-- The pages of a record. -/
def pagesR (d : Str) : List Str := chunks (pgs d.length) (pad d)
def wrL : FL → Nat → Nat → List Str → Int × FL
  | fl, _, _, [] => (0, fl)
  | fl, b, p, c :: r => if (progF fl b p c).1 = 0 then wrL (progF fl b p c).2 b (p + 1) r else progF fl b p c
theorem pgs_le (n : Nat) : n ≤ pgs n * 64 := by unfold pgs; omega
theorem pad_len (d : Str) : (pad d).length = pgs d.length * 64 := by
  have := pgs_le d.length
  simp [pad]; omega
theorem progF_same (fl : FL) (b p : Nat) (s : Str) : (progF fl b p s).2.B = fl.B ∧ (progF fl b p s).2.P = fl.P := by
  have h := intF_same fl
  unfold progF
  split
  · exact ⟨rfl, rfl⟩
  · split
    · exact ⟨rfl, rfl⟩
    · split
      · exact ⟨h.1, h.2.1⟩
      · exact ⟨h.1, h.2.1⟩
theorem ext_toList (t : ByteArray) (a e : Nat) : (t.extract a e).data.toList = (t.data.toList.drop a).take (e - a) := by
  rw [ByteArray.data_extract, Array.toList_extract, List.extract_eq_take_drop]
theorem ext_end (t : ByteArray) (a : Nat) : (t.extract a t.size).data.toList = t.data.toList.drop a := by
  rw [ext_toList, List.take_of_length_le]
  rw [List.length_drop, Array.length_toList]
  exact Nat.le_refl _
theorem ext_size (t : ByteArray) (a e : Nat) (h : e ≤ t.size) : (t.extract a e).size = e - a := by
  rw [ByteArray.size_extract]; omega
theorem not_empty {t : ByteArray} (h : 0 < t.size) : (!t.toList.isEmpty) = true := by
  rw [ByteArray.toList_eq]
  rcases h2 : t.data.toList with _ | ⟨a, b⟩
  · have : t.data.toList.length = 0 := by rw [h2]; rfl
    rw [Array.length_toList] at this
    have : t.size = 0 := this
    omega
  · rfl
theorem is_empty {t : ByteArray} (h : t.size = 0) : (!t.toList.isEmpty) = false := by
  rw [ByteArray.toList_eq]
  have : t.data.toList.length = 0 := by rw [Array.length_toList]; exact h
  rw [List.eq_nil_of_length_eq_zero this]; rfl
theorem repeatL_byte (x : UInt8) : ∀ c, Lib.repeatL [x] c = List.replicate c x
  | 0 => rfl
  | c + 1 => by rw [Lib.repeatL, repeatL_byte x c, List.replicate_succ]; rfl
theorem chunks_drop (n k : Nat) (d : Str) (h : k < n) : (chunks n d).drop k = (d.drop (64 * k)).take 64 :: (chunks n d).drop (k + 1) := by
  have hl : k < (chunks n d).length := by simpa [chunks] using h
  rw [List.drop_eq_getElem_cons hl]
  congr 1
  simp [chunks]
section
variable {w : World} {D : Nat → Prop} {X : Nat} {y : FLay} {fl : FL}
set_option maxRecDepth 100000 in
set_option maxHeartbeats 2000000 in
theorem write_any (h : FW w D X y fl) {b p : Nat} (hb : b < fl.B) {d : ByteArray} (hd : d.size ≤ 1000) (hp : p + pgs d.size ≤ fl.P) :
    Calls Try.prog 47 #[fptr X, .int .i64 b, .int .i64 p, .string d] w fun e w' => e = .returned (.int .i64 (wrL fl b p (pagesR d.data.toList)).1) ∧ FW w' D X y (wrL fl b p (pagesR d.data.toList)).2 ∧ Ch D w w' := by
  obtain ⟨n, hn⟩ : ∃ n, pgs d.size = n := ⟨_, rfl⟩
  have hpl := pgs_le d.size
  have hP := h.hP
  rw [hn] at hp hpl
  have HPG := Lib.hid (pagesOf_any d.size w (by omega))
  rw [hn] at HPG
  have hrl : (⟨#[255]⟩ : ByteArray).size * (n * 64 - d.size) ≤ 140737488355328 := by show 1 * _ ≤ _; omega
  have HRP := Lib.hid (Try.strings_Repeat ⟨#[255]⟩ (n * 64 - d.size) w (by omega) hrl)
  obtain ⟨rp, hrp⟩ : ∃ rp : ByteArray, rp = ⟨(Lib.repeatL (⟨#[255]⟩ : ByteArray).data.toList (n * 64 - d.size)).toArray⟩ := ⟨_, rfl⟩
  rw [← hrp] at HRP
  have hcast : (n : Int) * 64 - (d.size : Int) = ((n * 64 - d.size : Nat) : Int) := by omega
  have hnl : n ≤ 32 := by omega
  have H := Lib.hid h
  clear h
  go_enter Try.func47, Try.ntmps47
  go_wp2_with fail
  refine HPG.out.mono ?_
  rintro e w1 ⟨rfl, rfl⟩
  go_wp2_with fail
  refine HRP.out.mono ?_
  rintro e w2 ⟨rfl, b2⟩
  have hrs : rp.size = n * 64 - d.size := by
    rw [hrp]
    show (Lib.repeatL [255] (n * 64 - d.size)).toArray.size = _
    rw [repeatL_byte]; simp
  have hq : ¬ 9223372036854775807 < d.size + (n * 64 - d.size) := by omega
  obtain ⟨da, hda⟩ : ∃ da : ByteArray, d ++ rp = da := ⟨_, rfl⟩
  have hdl : da.data.toList = pad d.data.toList := by
    rw [← hda, ByteArray.data_append, Array.toList_append]
    unfold pad
    rw [Array.length_toList, show d.data.size = d.size from rfl, hn, hrp]
    show _ ++ (Lib.repeatL [255] (n * 64 - d.size)).toArray.toList = _
    rw [repeatL_byte]
  have hds : da.size = n * 64 := by
    rw [← hda, ByteArray.size_append, hrs]; omega
  have H2 := Lib.hid (H.out.below b2)
  have K2 : Hid (Ch D w w2) := Ch.of_below b2 _
  have hpg : pagesR d.data.toList = chunks n da.data.toList := by
    unfold pagesR
    rw [hdl, Array.length_toList, show d.data.size = d.size from rfl, hn]
  have HPL := Lib.hid hpg
  clear hpg hdl b2 HRP HPG H hrp
  go_wp2_with fail
  clear hrs hda
  obtain ⟨dl, hdl⟩ : ∃ dl, da.data.toList = dl := ⟨_, rfl⟩
  rw [hdl] at HPL
  have hdll : dl.length = n * 64 := by rw [← hdl, Array.length_toList]; exact hds
  have HLL := Lib.hid hdll
  have HW0 : Hid (∃ f, FW w2 D X y f ∧ f.B = fl.B ∧ f.P = fl.P ∧ wrL fl b p (chunks n dl) = wrL f b (p + 0) ((chunks n dl).drop 0)) := ⟨fl, H2.out, rfl, rfl, rfl⟩
  clear H2 hdll
  go_loopw [2, 3] (fun t2 t3 wr => ∃ (k : Nat) (dk : ByteArray), k ≤ n ∧ t2 = .int .i64 ((p + k : Nat) : Int) ∧ t3 = .string dk ∧ dk.size = (n - k) * 64 ∧ Hid (dk.data.toList = dl.drop (64 * k)) ∧ Hid (∃ f, FW wr D X y f ∧ f.B = fl.B ∧ f.P = fl.P ∧ wrL fl b p (chunks n dl) = wrL f b (p + k) ((chunks n dl).drop k)) ∧ Hid (Ch D w wr)) (fun t2 _ _ => p + n - (intOf t2).toNat)
  case atStart => exact ⟨0, da, by omega, rfl, rfl, by omega, by rw [hdl]; rfl, HW0, K2⟩
  case round =>
    clear HW0 K2
    obtain ⟨k, dk, hk, rfl, rfl, hdk, HDK, HW, HC⟩ := hrel
    by_cases hkn : k < n
    · have hd0 : 64 ≤ dk.size := by
        rw [hdk]
        have : 1 ≤ n - k := by omega
        omega
      have hE := not_empty (t := dk) (by omega)
      obtain ⟨f, hf, fB, fP, hwr⟩ := HW.out
      have hx1 := ext_toList dk 0 64
      have hx2 := ext_end dk 64
      have hs1 := ext_size dk 0 64 hd0
      have hs2 := ext_size dk 64 dk.size (Nat.le_refl _)
      have HPR := Lib.hid (program_any hf (b := b) (p := p + k) (by omega) (by omega) (d := dk.extract 0 64) hs1)
      rw [hx1, HDK.out] at HPR
      have hch := chunks_drop n k dl hkn
      rw [hch] at hwr
      have hc0 : ((dl.drop (64 * k)).drop 0).take (64 - 0) = (dl.drop (64 * k)).take 64 := rfl
      rw [hc0] at HPR
      have hsame := progF_same f b (p + k) ((dl.drop (64 * k)).take 64)
      by_cases hr : (progF f b (p + k) ((dl.drop (64 * k)).take 64)).1 = 0
      · have HW2 : Hid (∀ V, FW V D X y (progF f b (p + k) ((dl.drop (64 * k)).take 64)).2 → ∃ f, FW V D X y f ∧ f.B = fl.B ∧ f.P = fl.P ∧ wrL fl b p (chunks n dl) = wrL f b (p + (k + 1)) ((chunks n dl).drop (k + 1))) := fun V hV =>
          ⟨_, hV, by rw [hsame.1, fB], by rw [hsame.2, fP], by rw [hwr, wrL, if_pos hr]; rfl⟩
        rw [hr] at HPR
        have HD2 : Hid ((dk.extract 64 ((n - k) * 64)).data.toList = dl.drop (64 * (k + 1))) := by
          show _ = _
          rw [← hdk, hx2, HDK.out, List.drop_drop]
          rfl
        have hs3 : (dk.extract 64 ((n - k) * 64)).size = (n - (k + 1)) * 64 := by rw [← hdk, hs2, hdk]; omega
        generalize (progF f b (p + k) ((dl.drop (64 * k)).take 64)).2 = f2 at *
        clear hx1 hx2 hs1 hs2 hch hwr hc0 hsame hr hf HW HDK
        go_wp2_with fail
        refine HPR.out.mono ?_
        rintro e w4 ⟨rfl, h4, k4⟩
        have HW4 := Lib.hid (HW2.out w4 h4)
        have HC4 : Hid (Ch D w w4) := HC.out.trans k4
        clear h4 k4 HPR HC HW2
        go_wp2_with fail
        exact ⟨⟨k + 1, _, by omega, by go_num, rfl, hs3, HD2, HW4, HC4⟩, by simp [intOf]; omega⟩
      · have HW2 : Hid (wrL fl b p (chunks n dl) = progF f b (p + k) ((dl.drop (64 * k)).take 64)) := by
          show _ = _
          rw [hwr, wrL, if_neg hr]
        obtain ⟨r, hrr⟩ : ∃ r, (progF f b (p + k) ((dl.drop (64 * k)).take 64)).1 = r := ⟨_, rfl⟩
        rw [hrr] at HPR hr
        have hrd : (r == 0) = false := by simpa using hr
        have HRR := Lib.hid hrr
        clear hx1 hx2 hs1 hs2 hch hwr hc0 hsame hf HW HDK hrr
        go_wp2_with fail
        refine HPR.out.mono ?_
        rintro e w4 ⟨rfl, h4, k4⟩
        have H4 := Lib.hid h4
        have HC4 : Hid (Ch D w w4) := HC.out.trans k4
        clear h4 k4 HPR HC
        go_wp2_with fail
        go_ret
        rw [HPL.out, HW2.out, HRR.out]
        exact ⟨rfl, H4.out, HC4.out⟩
    · have hd0 : dk.size = 0 := by
        have : n - k = 0 := by omega
        rw [hdk, this]
      have hE := is_empty hd0
      have ek : k = n := by omega
      have HF : Hid (FW wr D X y (wrL fl b p (pagesR d.data.toList)).2 ∧ (wrL fl b p (pagesR d.data.toList)).1 = 0) := by
        obtain ⟨f, hf, fB, fP, hwr⟩ := HW.out
        have : (chunks n dl).drop k = [] := by rw [ek]; exact List.drop_of_length_le (by simp [chunks])
        rw [this, wrL] at hwr
        show _ ∧ _
        rw [HPL.out, hwr]
        exact ⟨hf, rfl⟩
      go_wp2_with fail
      go_ret
      rw [HF.out.2]
      exact ⟨rfl, HF.out.1, HC.out⟩
end
end Go.Proofs.Ytfglopkglnpokaa
