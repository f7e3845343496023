/- Set and Delete. Condition: sizes. -/
import Derived.Test.YtfglopkglnpokaaT
namespace Go.Proofs.Ytfglopkglnpokaa
open Go.RowKit
def setF (fl : FL) (st : ST) (n v : Str) : Int × FL × ST :=
  if okLens 1 n.length v.length = false then (1, fl, st) else if getV st.V n = some v then (0, fl, st) else chgF fl st 1 n v
def delF (fl : FL) (st : ST) (n : Str) : Int × FL × ST :=
  if okLens 2 n.length 0 = false then (1, fl, st) else if getV st.V n = none then (6, fl, st) else chgF fl st 2 n []
theorem okLens_le {k n v : Nat} (h : okLens k n v = true) : n ≤ 24 ∧ v ≤ 128 := by
  simp only [okLens, Bool.or_eq_true, Bool.and_eq_true, decide_eq_true_eq, beq_iff_eq] at h
  omega
section
variable {w w' : World} {D DS : Nat → Prop} {S X m n : Nat} {st : ST} {y : FLay} {fl : FL}
set_option maxRecDepth 100000 in
set_option maxHeartbeats 2000000 in
theorem set_any (hs : SW w DS S X m n st) (h : FW w D X y fl) (hdis : ∀ k, D k → ¬ DS k) (hb : st.blk < fl.B) (hn : n < 1000) {ke ve : ByteArray} (hke : ke.size ≤ 1000000) (hve : ve.size ≤ 1000000) :
    Calls Try.prog 29 #[fptr S, .string ke, .string ve] w fun e w' => e = .returned (.int .i64 (setF fl st ke.data.toList ve.data.toList).1) ∧ Left w w' D DS S X n y (setF fl st ke.data.toList ve.data.toList) := by
  have H := Lib.hid h
  have HS := Lib.hid hs
  have HPM : Hid (Calls Try.prog 49 #[.int .i64 1, .int .i64 (ke.size : Int), .int .i64 (ve.size : Int)] w fun e w' => e = .returned (.bool (okLens 1 ke.size ve.size)) ∧ w = w') := permitted_any 1 ke.size ve.size w (by omega) (by omega)
  have hlk := hs.map.look (s := ke) (by unfold maxLen; omega)
  have c1 := hs.c1
  have HLS : Hid (Left w w D DS S X n y (0, fl, st) ∧ Left w w D DS S X n y (1, fl, st)) := ⟨Left.same rfl h (Ch.refl D w) hs hdis, Left.same rfl h (Ch.refl D w) hs hdis⟩
  obtain ⟨ok, hok⟩ : ∃ ok, okLens 1 ke.size ve.size = ok := ⟨_, rfl⟩
  rw [hok] at HPM
  have HOK := Lib.hid hok
  clear h hs hok
  cases ok
  · have HE : Hid (setF fl st ke.data.toList ve.data.toList = (1, fl, st)) := by show _ = _; unfold setF; rw [if_pos]; exact HOK.out
    go_enter Try.func29, Try.ntmps29
    go_wp2_with fail
    refine HPM.out.mono ?_
    rintro e w' ⟨rfl, rfl⟩
    go_wp2_with fail
    go_ret
    rw [HE.out]
    exact ⟨rfl, HLS.out.2⟩
  · have hle := okLens_le HOK.out
    have HCG : Hid (Calls Try.prog 50 #[fptr S, .int .i64 1, .string ke, .string ve] w fun e w' => e = .returned (.int .i64 (chgF fl st 1 ke.data.toList ve.data.toList).1) ∧ Left w w' D DS S X n y (chgF fl st 1 ke.data.toList ve.data.toList)) := change_any HS.out H.out hdis hb hn (.inl rfl) hle.1 hle.2
    cases hgv : getV st.V ke.data.toList
    · have HE : Hid (setF fl st ke.data.toList ve.data.toList = chgF fl st 1 ke.data.toList ve.data.toList) := by
        show _ = _; unfold setF; rw [if_neg (by show ¬ okLens 1 ke.size ve.size = false; rw [HOK.out]; simp), hgv, if_neg (by simp)]
      rw [hgv] at hlk
      simp only [Option.getD_none, Option.isSome_none] at hlk
      clear hgv
      go_enter Try.func29, Try.ntmps29
      go_wp2_with fail
      refine HPM.out.mono ?_
      rintro e w' ⟨rfl, rfl⟩
      go_wp2_with fail
      refine HCG.out.mono ?_
      rintro e w5 ⟨rfl, hl⟩
      have HL := Lib.hid hl
      clear hl HCG
      go_wp2_with fail
      go_ret
      rw [HE.out]
      exact ⟨rfl, HL.out⟩
    · rename_i ov
      rw [hgv] at hlk
      simp only [Option.getD_some, Option.isSome_some] at hlk
      obtain ⟨oe, hoe⟩ : ∃ s : ByteArray, s = ⟨ov.toArray⟩ := ⟨_, rfl⟩
      have hol : oe.data.toList = ov := by rw [hoe]
      rw [show str ov = .string oe by rw [hoe]] at hlk
      by_cases heq : oe = ve
      · have HE : Hid (setF fl st ke.data.toList ve.data.toList = (0, fl, st)) := by
          show _ = _; unfold setF; rw [if_neg (by show ¬ okLens 1 ke.size ve.size = false; rw [HOK.out]; simp), hgv, if_pos (by rw [← hol, heq])]
        have hd1 : (oe.toList == ve.toList) = true := by rw [heq]; simp
        have HEQ := Lib.hid heq
        clear hgv hoe hol heq
        go_enter Try.func29, Try.ntmps29
        go_wp2_with fail
        refine HPM.out.mono ?_
        rintro e w' ⟨rfl, rfl⟩
        go_wp2_with fail
        go_ret
        rw [HE.out]
        exact ⟨rfl, HLS.out.1⟩
      · have HE : Hid (setF fl st ke.data.toList ve.data.toList = chgF fl st 1 ke.data.toList ve.data.toList) := by
          show _ = _; unfold setF; rw [if_neg (by show ¬ okLens 1 ke.size ve.size = false; rw [HOK.out]; simp), hgv, if_neg (by
            intro h9
            apply heq
            have h8 := Option.some.inj h9
            rw [hoe, h8])]
        have hd1 : (oe.toList == ve.toList) = false := by
          rw [beq_eq_false_iff_ne]
          intro h9
          rw [ByteArray.toList_eq, ByteArray.toList_eq] at h9
          exact heq (by cases oe; cases ve; congr 1; exact Array.toList_inj.1 h9)
        clear hgv hoe hol
        go_enter Try.func29, Try.ntmps29
        go_wp2_with fail
        refine HPM.out.mono ?_
        rintro e w' ⟨rfl, rfl⟩
        go_wp2_with fail
        refine HCG.out.mono ?_
        rintro e w5 ⟨rfl, hl⟩
        have HL := Lib.hid hl
        clear hl HCG
        go_wp2_with fail
        go_ret
        rw [HE.out]
        exact ⟨rfl, HL.out⟩
set_option maxRecDepth 100000 in
set_option maxHeartbeats 2000000 in
theorem delete_any (hs : SW w DS S X m n st) (h : FW w D X y fl) (hdis : ∀ k, D k → ¬ DS k) (hb : st.blk < fl.B) (hn : n < 1000) {ke : ByteArray} (hke : ke.size ≤ 1000000) :
    Calls Try.prog 31 #[fptr S, .string ke] w fun e w' => e = .returned (.int .i64 (delF fl st ke.data.toList).1) ∧ Left w w' D DS S X n y (delF fl st ke.data.toList) := by
  have H := Lib.hid h
  have HS := Lib.hid hs
  have HPM : Hid (Calls Try.prog 49 #[.int .i64 2, .int .i64 (ke.size : Int), .int .i64 0] w fun e w' => e = .returned (.bool (okLens 2 ke.size 0)) ∧ w = w') := permitted_any 2 ke.size 0 w (by omega) (by omega)
  have hlk := hs.map.look (s := ke) (by unfold maxLen; omega)
  have c1 := hs.c1
  have HLS : Hid (Left w w D DS S X n y (6, fl, st) ∧ Left w w D DS S X n y (1, fl, st)) := ⟨Left.same rfl h (Ch.refl D w) hs hdis, Left.same rfl h (Ch.refl D w) hs hdis⟩
  obtain ⟨ok, hok⟩ : ∃ ok, okLens 2 ke.size 0 = ok := ⟨_, rfl⟩
  rw [hok] at HPM
  have HOK := Lib.hid hok
  clear h hs hok
  cases ok
  · have HE : Hid (delF fl st ke.data.toList = (1, fl, st)) := by show _ = _; unfold delF; rw [if_pos]; exact HOK.out
    go_enter Try.func31, Try.ntmps31
    go_wp2_with fail
    refine HPM.out.mono ?_
    rintro e w' ⟨rfl, rfl⟩
    go_wp2_with fail
    go_ret
    rw [HE.out]
    exact ⟨rfl, HLS.out.2⟩
  · have hle := okLens_le HOK.out
    have HCG : Hid (Calls Try.prog 50 #[fptr S, .int .i64 2, .string ke, .string ⟨#[]⟩] w fun e w' => e = .returned (.int .i64 (chgF fl st 2 ke.data.toList []).1) ∧ Left w w' D DS S X n y (chgF fl st 2 ke.data.toList [])) := change_any HS.out H.out hdis hb hn (.inr rfl) hle.1 (ve := ⟨#[]⟩) hle.2
    cases hgv : getV st.V ke.data.toList
    · have HE : Hid (delF fl st ke.data.toList = (6, fl, st)) := by
        show _ = _; unfold delF; rw [if_neg (by show ¬ okLens 2 ke.size 0 = false; rw [HOK.out]; simp), hgv, if_pos rfl]
      rw [hgv] at hlk
      simp only [Option.getD_none, Option.isSome_none] at hlk
      clear hgv
      go_enter Try.func31, Try.ntmps31
      go_wp2_with fail
      refine HPM.out.mono ?_
      rintro e w' ⟨rfl, rfl⟩
      go_wp2_with fail
      go_ret
      rw [HE.out]
      exact ⟨rfl, HLS.out.1⟩
    · have HE : Hid (delF fl st ke.data.toList = chgF fl st 2 ke.data.toList []) := by
        show _ = _; unfold delF; rw [if_neg (by show ¬ okLens 2 ke.size 0 = false; rw [HOK.out]; simp), hgv, if_neg (by simp)]
      rw [hgv] at hlk
      simp only [Option.getD_some, Option.isSome_some] at hlk
      clear hgv
      go_enter Try.func31, Try.ntmps31
      go_wp2_with fail
      refine HPM.out.mono ?_
      rintro e w' ⟨rfl, rfl⟩
      go_wp2_with fail
      refine HCG.out.mono ?_
      rintro e w5 ⟨rfl, hl⟩
      have HL := Lib.hid hl
      clear hl HCG
      go_wp2_with fail
      go_ret
      rw [HE.out]
      exact ⟨rfl, HL.out⟩
end
end Go.Proofs.Ytfglopkglnpokaa
