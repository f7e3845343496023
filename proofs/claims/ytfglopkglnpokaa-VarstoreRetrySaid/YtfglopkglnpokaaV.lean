/- Format. No condition but that the flash lies in memory. -/
import Derived.Test.YtfglopkglnpokaaU
namespace Go.Proofs.Ytfglopkglnpokaa
open Go.RowKit
def fmt1 : Nat → Nat → FL → Int × FL
  | 0, _, fl => (0, fl)
  | r + 1, b, fl => if fl.off = true then (16, fl) else if blankP (pgsF fl b) = true then fmt1 r (b + 1) fl else if (eraseF fl b).1 ≠ 0 then eraseF fl b else fmt1 r (b + 1) (eraseF fl b).2
def least (fl : FL) (k : Nat) : Nat := (List.range k).foldl (fun l b => if fl.er b < fl.er l then b else l) 0
theorem least_succ (fl : FL) (k : Nat) : least fl (k + 1) = if fl.er k < fl.er (least fl k) then k else least fl k := by
  unfold least
  rw [List.range_succ, List.foldl_append]
  rfl
def fmtF (fl : FL) : Int × FL :=
  if (decide (2 ≤ fl.B) && decide (2 ≤ fl.P)) = false then (1, fl) else
  if (fmt1 fl.B 0 fl).1 ≠ 0 then fmt1 fl.B 0 fl else wrL (fmt1 fl.B 0 fl).2 (least (fmt1 fl.B 0 fl).2 fl.B) 0 (pagesR (hdr 1))
section
variable {w w' : World} {D : Nat → Prop} {X : Nat} {y : FLay} {fl : FL}
set_option maxRecDepth 100000 in
set_option maxHeartbeats 2000000 in
theorem format_any (h : FW w D X y fl) : Calls Try.prog 28 #[fptr X] w fun e w' => e = .returned (.int .i64 (fmtF fl).1) ∧ FW w' D X y (fmtF fl).2 ∧ Ch D w w' := by
  have HUS := Lib.hid (usable_any h)
  have H := Lib.hid h
  have hB := h.hB
  have hP := h.hP
  obtain ⟨us, hus⟩ : ∃ us, (decide (2 ≤ fl.B) && decide (2 ≤ fl.P)) = us := ⟨_, rfl⟩
  rw [hus] at HUS
  have HU := Lib.hid hus
  clear h hus
  cases us
  · have HE : Hid (fmtF fl = (1, fl)) := by show _ = _; unfold fmtF; rw [if_pos HU.out]
    go_enter Try.func28, Try.ntmps28
    go_wp2_with fail
    refine HUS.out.mono ?_
    rintro e w1 ⟨rfl, b1⟩
    have HF1 := Lib.hid (H.out.below b1)
    have HC1 : Hid (Ch D w w1) := Ch.of_below b1 D
    clear b1
    go_wp2_with fail
    go_ret
    rw [HE.out]
    exact ⟨rfl, HF1.out, HC1.out⟩
  · have hB2 : 2 ≤ fl.B := by have := HU.out; simp at this; exact this.1
    have hP2 : 2 ≤ fl.P := by have := HU.out; simp at this; exact this.2
    go_enter Try.func28, Try.ntmps28
    go_wp2_with fail
    refine HUS.out.mono ?_
    rintro e w1 ⟨rfl, b1⟩
    have HSH := Lib.hid (shape_any (H.out.below b1))
    have HF1 := Lib.hid (H.out.below b1)
    have HC1 : Hid (Ch D w w1) := Ch.of_below b1 D
    clear b1 HUS
    go_wp2_with fail
    refine HSH.out.mono ?_
    rintro e w2 ⟨rfl, b2⟩
    have hfb := field_B (.int .i64 fl.B) (.int .i64 fl.P) (.int .i64 fl.E) w2
    have HW0 : Hid (∃ f, FW w2 D X y f ∧ f.B = fl.B ∧ f.P = fl.P ∧ fmt1 fl.B 0 fl = fmt1 (fl.B - 0) 0 f) := ⟨fl, HF1.out.below b2, rfl, rfl, rfl⟩
    have HC2 : Hid (Ch D w w2) := HC1.out.trans (Ch.of_below b2 D)
    clear b2 HF1 HC1 HSH
    go_wp2_with fail
    clear hfb
    go_loopw [15] (fun z wr => ∃ k : Nat, k ≤ fl.B ∧ z = .int .i64 (k : Int) ∧ Hid (∃ f, FW wr D X y f ∧ f.B = fl.B ∧ f.P = fl.P ∧ fmt1 fl.B 0 fl = fmt1 (fl.B - k) k f) ∧ Hid (Ch D w wr)) (fun z _ => fl.B - (intOf z).toNat)
    case atStart => exact ⟨0, by omega, rfl, HW0, HC2⟩
    case round =>
      clear HW0 HC2
      obtain ⟨k, hk, rfl, HF, HC⟩ := hrel
      by_cases hlt : k < fl.B
      · have y0 : (k : Int) < fl.B := by omega
        obtain ⟨f, hf, fB, fP, hfm⟩ := HF.out
        have hkf : k < f.B := by rw [fB]; exact hlt
        rw [show fl.B - k = (fl.B - (k + 1)) + 1 by omega, fmt1] at hfm
        have HRB := Lib.hid (readBlock_any hf hkf)
        have HFF := Lib.hid hf
        have HEQ : Hid (f.B = fl.B ∧ f.P = fl.P) := ⟨fB, fP⟩
        clear HF hf
        cases ho : f.off
        · rw [ho, if_neg (by simp)] at hfm
          have HFM := Lib.hid hfm
          clear hfm
          go_wp2_with fail
          refine HRB.out.mono ?_
          rintro e w3 ⟨b3, ⟨h1, _⟩ | ⟨_, g, rfl, hg, hps⟩⟩
          · rw [ho] at h1; cases h1
          have HF3 := Lib.hid (HFF.out.below b3)
          have HC3 : Hid (Ch D w w3) := HC.out.trans (Ch.of_below b3 D)
          have HIB := Lib.hid (isBlank_any hps (pgsF_len f k) (fun p hp => by
            unfold pgsF at hp
            obtain ⟨j, hj, rfl⟩ := List.mem_map.1 hp
            rw [HF3.out.len k j hkf (by simpa using hj)]
            omega) (by rw [fP]; omega))
          have HER := Lib.hid (erase_any HF3.out hkf)
          obtain ⟨bl, hbl⟩ : ∃ bl, blankP (pgsF f k) = bl := ⟨_, rfl⟩
          rw [hbl] at HIB
          have HBL := Lib.hid hbl
          obtain ⟨e3, f3, he3⟩ : ∃ e f', eraseF f k = (e, f') := ⟨_, _, rfl⟩
          have hsame := eraseF_same f k
          rw [he3] at HER hsame
          have HE3 := Lib.hid he3
          have HSM : Hid (f3.B = fl.B ∧ f3.P = fl.P) := ⟨hsame.1.trans fB, hsame.2.trans fP⟩
          clear hbl b3 hps HRB HC HFF he3 hsame fB fP hg
          cases bl
          · by_cases he : e3 = 0
            · subst he
              have HN : Hid (fmt1 fl.B 0 fl = fmt1 (fl.B - (k + 1)) (k + 1) f3) := by
                show _ = _
                rw [HFM.out, HBL.out, HE3.out, if_neg (by simp), if_neg (by simp)]
              go_wp2_with fail
              refine HIB.out.mono ?_
              rintro e w' ⟨rfl, rfl⟩
              go_wp2_with fail
              refine HER.out.mono ?_
              rintro e w5 ⟨rfl, h5, c5⟩
              have HF5 := Lib.hid h5
              have HC5 : Hid (Ch D w w5) := HC3.out.trans c5
              clear h5 c5
              go_wp2_with fail
              go_roundw
              case rel => exact ⟨k + 1, by omega, by go_num, ⟨f3, HF5.out, HSM.out.1, HSM.out.2, HN.out⟩, HC5⟩
              case measure => simp [intOf]; omega
            · have hed : (e3 == 0) = false := by simpa using he
              have HN : Hid (fmtF fl = (e3, f3)) := by
                have h9 : fmt1 fl.B 0 fl = (e3, f3) := by rw [HFM.out, HBL.out, HE3.out, if_neg (by simp), if_pos he]
                show _ = _
                unfold fmtF
                rw [if_neg (by rw [HU.out]; simp), h9, if_pos he]
              go_wp2_with fail
              refine HIB.out.mono ?_
              rintro e w' ⟨rfl, rfl⟩
              go_wp2_with fail
              refine HER.out.mono ?_
              rintro e w5 ⟨rfl, h5, c5⟩
              have HF5 := Lib.hid h5
              have HC5 : Hid (Ch D w w5) := HC3.out.trans c5
              clear h5 c5
              go_wp2_with fail
              go_ret
              rw [HN.out]
              exact ⟨rfl, HF5.out, HC5.out⟩
          · have HN : Hid (fmt1 fl.B 0 fl = fmt1 (fl.B - (k + 1)) (k + 1) f) := by
              show _ = _
              rw [HFM.out, HBL.out, if_pos rfl]
            go_wp2_with fail
            refine HIB.out.mono ?_
            rintro e w' ⟨rfl, rfl⟩
            go_wp2_with fail
            go_roundw
            case rel => exact ⟨k + 1, by omega, by go_num, ⟨f, HF3.out, HEQ.out.1, HEQ.out.2, HN.out⟩, HC3⟩
            case measure => simp [intOf]; omega
        · rw [ho, if_pos rfl] at hfm
          have HN : Hid (fmtF fl = (16, f)) := by
            show _ = _
            unfold fmtF
            rw [if_neg (by rw [HU.out]; simp), hfm, if_pos (by simp)]
          clear hfm
          go_wp2_with fail
          refine HRB.out.mono ?_
          rintro e w3 ⟨b3, ⟨_, rfl⟩ | ⟨h1, _⟩⟩
          · have HF3 := Lib.hid (HFF.out.below b3)
            have HC3 : Hid (Ch D w w3) := HC.out.trans (Ch.of_below b3 D)
            clear b3
            go_wp2_with fail
            go_ret
            rw [HN.out]
            exact ⟨rfl, HF3.out, HC3.out⟩
          · rw [ho] at h1; cases h1
      · have ek : k = fl.B := by omega
        obtain ⟨f, hf, fB, fP, hfm⟩ := HF.out
        rw [ek, Nat.sub_self, fmt1] at hfm
        have HFM := Lib.hid hfm
        have HSH := Lib.hid (shape_any hf)
        have HFF := Lib.hid hf
        have HEQ : Hid (f.B = fl.B ∧ f.P = fl.P) := ⟨fB, fP⟩
        rw [fB] at HSH
        clear HF hf hfm fB fP
        go_wp2_with fail
        refine HSH.out.mono ?_
        rintro e w3 ⟨rfl, b3⟩
        have hfb := field_B (.int .i64 fl.B) (.int .i64 f.P) (.int .i64 f.E) w3
        have HF3 := Lib.hid (HFF.out.below b3)
        have HC3 : Hid (Ch D w w3) := HC.out.trans (Ch.of_below b3 D)
        have HL0 : Hid (0 = least f 0) := rfl
        clear b3 HFF HC HSH
        go_wp2_with fail
        clear hfb
        go_loopw [7, 39] (fun x7 z wr => ∃ j l : Nat, j ≤ fl.B ∧ l < fl.B ∧ x7 = .int .i64 (l : Int) ∧ z = .int .i64 (j : Int) ∧ Hid (l = least f j) ∧ Hid (FW wr D X y f) ∧ Hid (Ch D w wr)) (fun _ z _ => fl.B - (intOf z).toNat)
        case atStart => exact ⟨0, 0, by omega, by omega, rfl, rfl, HL0, HF3, HC3⟩
        case round =>
          clear HL0 HF3 HC3
          obtain ⟨j, l, hj, hl, rfl, rfl, HL, HF, HC⟩ := hrel
          by_cases hlt2 : j < fl.B
          · have y0 : (j : Int) < fl.B := by omega
            have HE1 := Lib.hid (erases_any HF.out (b := j) (by rw [HEQ.out.1]; exact hlt2))
            have HE2 := Lib.hid (erases_any HF.out (b := l) (by rw [HEQ.out.1]; exact hl))
            have hle1 : f.er j ≤ 1000000000 := by have := HF.out.her j (by rw [HEQ.out.1]; exact hlt2); have := HF.out.hE; omega
            by_cases hless : f.er j < f.er l
            · have hI : (f.er j : Int) < (f.er l : Int) := by omega
              have HL2 : Hid (j = least f (j + 1)) := by show _ = _; rw [least_succ, ← HL.out, if_pos hless]
              go_wp2_with fail
              refine HE1.out.mono ?_
              rintro e w' ⟨rfl, rfl⟩
              go_wp2_with fail
              refine HE2.out.mono ?_
              rintro e w' ⟨rfl, rfl⟩
              go_wp2_with fail
              go_roundw
              case rel => exact ⟨j + 1, j, by omega, hlt2, rfl, by go_num, HL2, HF, HC⟩
              case measure => simp [intOf]; omega
            · have hI : ¬ (f.er j : Int) < (f.er l : Int) := by omega
              have HL2 : Hid (l = least f (j + 1)) := by show _ = _; rw [least_succ, ← HL.out, if_neg hless]
              go_wp2_with fail
              refine HE1.out.mono ?_
              rintro e w' ⟨rfl, rfl⟩
              go_wp2_with fail
              refine HE2.out.mono ?_
              rintro e w' ⟨rfl, rfl⟩
              go_wp2_with fail
              go_roundw
              case rel => exact ⟨j + 1, l, by omega, hl, rfl, by go_num, HL2, HF, HC⟩
              case measure => simp [intOf]; omega
          · have ej : j = fl.B := by omega
            have HLL : Hid (l = least f fl.B) := by show _ = _; rw [← ej]; exact HL.out
            obtain ⟨hd, hhd⟩ : ∃ s : ByteArray, s = ⟨(hdr 1).toArray⟩ := ⟨_, rfl⟩
            have hdl : hd.data.toList = hdr 1 := by rw [hhd]
            have hdz : hd.size = 13 := by rw [bsz, hdl]; unfold hdr; rw [recd_len]; simp [be8]
            have HHD : Hid (Calls Try.prog 48 #[.int .u64 1] wr fun e w' => e = .returned (str (hdr 1)) ∧ Below wr.heap.size wr w') := header_any 1 wr
            rw [show str (hdr 1) = .string hd by rw [hhd]] at HHD
            obtain ⟨e3, f3, he3⟩ : ∃ e f', wrL f l 0 (pagesR (hdr 1)) = (e, f') := ⟨_, _, rfl⟩
            have HWR : Hid (∀ V1, FW V1 D X y f → Calls Try.prog 47 #[fptr X, .int .i64 l, .int .i64 0, .string hd] V1 fun e w' => e = .returned (.int .i64 e3) ∧ FW w' D X y f3 ∧ Ch D V1 w') := fun V1 hV1 => by
              have := write_any hV1 (b := l) (p := 0) (d := hd) (by rw [HEQ.out.1]; exact hl) (by omega) (by rw [HEQ.out.2, hdz]; unfold pgs; omega)
              rw [hdl, he3] at this
              exact this
            have HN : Hid (fmtF fl = (e3, f3)) := by
              show _ = _
              unfold fmtF
              rw [if_neg (by rw [HU.out]; simp), HFM.out, if_neg (by simp)]
              show wrL f (least f fl.B) 0 _ = _
              rw [← HLL.out]
              exact he3
            clear hhd hdl he3
            go_wp2_with fail
            refine HHD.out.mono ?_
            rintro e w5 ⟨rfl, b5⟩
            have HF5 := Lib.hid (HF.out.below b5)
            have HC5 : Hid (Ch D w w5) := HC.out.trans (Ch.of_below b5 D)
            clear b5 HF HC
            go_wp2_with fail
            refine (HWR.out w5 HF5.out).mono ?_
            rintro e w6 ⟨rfl, h6, c6⟩
            have HF6 := Lib.hid h6
            have HC6 : Hid (Ch D w w6) := HC5.out.trans c6
            clear h6 c6
            go_wp2_with fail
            go_ret
            rw [HN.out]
            exact ⟨rfl, HF6.out, HC6.out⟩
end
end Go.Proofs.Ytfglopkglnpokaa
