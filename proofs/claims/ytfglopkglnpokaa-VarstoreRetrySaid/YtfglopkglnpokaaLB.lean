/- awake. No condition. -/
import Derived.Test.YtfglopkglnpokaaLA
namespace Go.Proofs.Ytfglopkglnpokaa
open Go.RowKit
section
variable {w w' : World} {N S X n : Nat} {y : FLay} {D : Nat → Prop} {fl : FL} {st : ST}
theorem AT.left {r : Int × FL × ST} (h : AT w N S X y D n fl st) {DS : Nat → Prop} (hl : Left w w' D DS S X n y r) (h2 : ∀ k, D k → ¬ DS k) (h3 : ∀ k, DS k → N ≤ k) : AT w' N S X y D (n + 1) r.2.1 r.2.2 ∧ Below N w w' := by
  obtain ⟨k1, k2, D', m', k3, k4⟩ := hl
  have hN := h.N_le
  refine ⟨⟨k1, h.dN, D', m', k4, fun i hi hD => ?_, fun i hi => ?_⟩, k2.below hN (fun i hi => hi.elim (h.dN i) (h3 i))⟩
  · rcases k3 i hD with e | e
    · exact h2 i hi e
    · have := h.f.fin i hi; omega
  · rcases k3 i hi with e | e
    · exact h3 i e
    · omega
theorem AT.set (h : AT w N S X y D n fl st) (hb : st.blk < fl.B) (hn : n < 1000) {ke ve : ByteArray} (hke : ke.size ≤ 1000000) (hve : ve.size ≤ 1000000) :
    Calls Try.prog 29 #[fptr S, .string ke, .string ve] w fun e w' => e = .returned (.int .i64 (setF fl st ke.data.toList ve.data.toList).1) ∧ AT w' N S X y D (n + 1) (setF fl st ke.data.toList ve.data.toList).2.1 (setF fl st ke.data.toList ve.data.toList).2.2 ∧ Below N w w' := by
  obtain ⟨DS, m, h1, h2, h3⟩ := h.s
  refine (set_any h1 h.f h2 hb hn hke hve).mono ?_
  rintro e w' ⟨he, hl⟩
  exact ⟨he, h.left hl h2 h3⟩
theorem AT.del (h : AT w N S X y D n fl st) (hb : st.blk < fl.B) (hn : n < 1000) {ke : ByteArray} (hke : ke.size ≤ 1000000) :
    Calls Try.prog 31 #[fptr S, .string ke] w fun e w' => e = .returned (.int .i64 (delF fl st ke.data.toList).1) ∧ AT w' N S X y D (n + 1) (delF fl st ke.data.toList).2.1 (delF fl st ke.data.toList).2.2 ∧ Below N w w' := by
  obtain ⟨DS, m, h1, h2, h3⟩ := h.s
  refine (delete_any h1 h.f h2 hb hn hke).mono ?_
  rintro e w' ⟨he, hl⟩
  exact ⟨he, h.left hl h2 h3⟩
end
def pgA : Str := pad (recd 1 [97] [49])
theorem pgA_pages : pagesR (recd 1 [97] [49]) = [pgA] := by decide +kernel
theorem set_new {f1 : FL} (hI : Inv f1 st0) (hP : f1.P = 4) (hc : f1.cut = false) : ∃ g, setF f1 st0 [97] [49] = (0, g, ⟨[([97], [49])], 0, 1, 2, false⟩) ∧ g.off = false ∧ g.B = f1.B ∧ g.P = 4 ∧ g.pg 0 1 = pgA := by
  have hl : (recd 1 [97] [49]).length = 7 := rfl
  rcases wrL_cases (pagesR (recd 1 [97] [49])) f1 0 1 hI.off (fun i hi => by
    rw [pagesR_len, hl] at hi
    have : i = 0 := by have : pgs 7 = 1 := rfl; omega
    subst this
    exact hI.stp rfl 1 (Nat.le_refl _) (by omega)) (pagesR_64 _) with ⟨g, q1, q2, q3, q4, q5, q6⟩ | ⟨k, _⟩
  · refine ⟨g, ?_, q2, q3.1, by rw [q3.2.1, hP], ?_⟩
    · have hn : ¬ (st0.clo = true ∨ f1.P < st0.nxt + pgs (recd 1 [97] [49]).length) := by
        rw [hl, hP]
        rintro (k | k)
        · cases k
        · exact absurd k (by decide)
      have := chg4 (fl := f1) (st := st0) (k := 1) (nm := [97]) (v := [49]) hI.off hn q1
      unfold setF
      rw [if_neg (by decide), if_neg (by decide), this]
      rfl
    · rw [q5]
      exact (updP_in (f := f1.pg) (b := 0) (p := 1) (i := 0) (cs := pagesR (recd 1 [97] [49])) (by rw [pagesR_len, hl]; decide)).trans (by rw [pgA_pages]; rfl)
  · rw [hc] at k; cases k
set_option maxRecDepth 100000 in
set_option maxHeartbeats 1000000 in
theorem awake_any (w : World) : Calls Try.prog 9 #[] w fun e w' => e = .returned (.bool true) ∧ Below w.heap.size w w' := by
  obtain ⟨f1, q1, q2, q3, q4, q5, q6⟩ := fmt_new (B := 2) (P := 4) (E := 9) (by omega) (by omega)
  obtain ⟨g, k1, k2, k3, k4, k5⟩ := set_new q2 q3.2.1 q5
  have HK : Hid (g.off = false ∧ g.B = 2 ∧ g.P = 4 ∧ g.pg 0 1 = pgA) := ⟨k2, k3.trans q3.1, k4, k5⟩
  have HK1 := Lib.hid k1
  have HQ2 := Lib.hid q2
  have HQB : Hid (f1.B = 2) := q3.1
  have HQ1 := Lib.hid q1
  clear q1 q2 q3 q4 q5 q6 k1 k2 k3 k4 k5
  have HNW : Hid (Calls Try.prog 27 #[.agg #[.int .i64 2, .int .i64 4, .int .i64 9]] w fun e w' => ∃ X y, e = .returned (.tuple #[fptr X, .int .i64 0]) ∧ FW w' (fun k => w.heap.size ≤ k ∧ k < w'.heap.size) X y (newF 2 4 9) ∧ Below w.heap.size w w') := new_any w 2 4 9 ⟨by omega, by omega⟩ ⟨by omega, by omega⟩ (by omega)
  go_enter Try.func9, Try.ntmps9
  go_wp2_with fail
  refine HNW.out.mono ?_
  rintro e w1 ⟨X, y, rfl, hf, b1⟩
  have HB1 := Lib.hid b1
  have HFM : Hid (Calls Try.prog 28 #[fptr X] w1 fun e w' => e = .returned (.int .i64 0) ∧ FW w' (fun k => w.heap.size ≤ k ∧ k < w1.heap.size) X y f1 ∧ Ch (fun k => w.heap.size ≤ k ∧ k < w1.heap.size) w1 w') := by
    have := format_any hf
    rw [HQ1.out] at this
    exact this
  clear hf b1 HNW
  go_wp2_with fail
  refine HFM.out.mono ?_
  rintro e w2 ⟨rfl, hf, c2⟩
  have HOP := Lib.hid (at_open (N := w.heap.size) hf (fun k hk => hk.1) HQ2.out)
  have HB2 : Hid (Below w.heap.size w w2) := HB1.out.trans (c2.below HB1.out.size (fun i hi => hi.1))
  clear hf c2 HFM HB1
  go_wp2_with fail
  refine HOP.out.mono ?_
  rintro e w3 ⟨S, rfl, ha, b3⟩
  have HB3 : Hid (Below w.heap.size w w3) := HB2.out.trans (b3.mono HB2.out.size)
  have HST : Hid (Calls Try.prog 29 #[fptr S, .string ⟨#[97]⟩, .string ⟨#[49]⟩] w3 fun e w' => e = .returned (.int .i64 0) ∧ AT w' w.heap.size S X y (fun k => w.heap.size ≤ k ∧ k < w1.heap.size) 33 g ⟨[([97], [49])], 0, 1, 2, false⟩ ∧ Below w.heap.size w3 w') := by
    have := ha.set (ke := ⟨#[97]⟩) (ve := ⟨#[49]⟩) (by rw [HQB.out]; decide) (by omega) (by decide) (by decide)
    rw [show (⟨#[97]⟩ : ByteArray).data.toList = [97] from rfl, show (⟨#[49]⟩ : ByteArray).data.toList = [49] from rfl, HK1.out] at this
    exact this
  clear ha b3 HOP HB2
  go_wp2_with fail
  refine HST.out.mono ?_
  rintro e w4 ⟨rfl, ha, b4⟩
  have HB4 : Hid (Below w.heap.size w w4) := HB3.out.trans b4
  have HG1 : Hid (Calls Try.prog 20 #[fptr S, .string ⟨#[97]⟩] w4 fun e w' => e = .returned (.tuple #[.string ⟨#[49]⟩, .int .i64 0]) ∧ w4 = w') := ha.get (k := ⟨#[97]⟩) (by decide)
  have HG2 : Hid (Calls Try.prog 20 #[fptr S, .string ⟨#[98]⟩] w4 fun e w' => e = .returned (.tuple #[.string ⟨#[]⟩, .int .i64 6]) ∧ w4 = w') := ha.get (k := ⟨#[98]⟩) (by decide)
  have HGN : Hid (Calls Try.prog 12 #[fptr S] w4 fun e w' => e = .returned (.int .u64 1) ∧ w4 = w') := ha.gen
  obtain ⟨pe, hpe⟩ : ∃ s : ByteArray, s = ⟨pgA.toArray⟩ := ⟨_, rfl⟩
  have HRD : Hid (Calls Try.prog 30 #[fptr X, .int .i64 0, .int .i64 1] w4 fun e w' => e = .returned (.tuple #[.string pe, .int .i64 0]) ∧ w4 = w') := by
    have := read_any ha.f (b := 0) (p := 1) (by rw [HK.out.2.1]; omega) (by rw [HK.out.2.2.1]; omega)
    unfold readF at this
    rw [HK.out.1, if_neg (by simp), HK.out.2.2.2] at this
    rw [hpe]
    exact this
  have hps : pe.size = 64 := by rw [hpe]; decide +kernel
  have h8 : (pe.extract 0 8).toList = [1, 1, 1, 0, 31, 97, 49, 255] := by
    rw [ByteArray.toList_eq, ext_toList, hpe]
    decide +kernel
  clear ha b4 HST HB3 hpe
  go_wp2_with fail
  refine HG1.out.mono ?_
  rintro e w' ⟨rfl, rfl⟩
  go_wp2_with fail
  refine HG2.out.mono ?_
  rintro e w' ⟨rfl, rfl⟩
  go_wp2_with fail
  refine HRD.out.mono ?_
  rintro e w' ⟨rfl, rfl⟩
  go_wp2_with fail
  refine HGN.out.mono ?_
  rintro e w' ⟨rfl, rfl⟩
  go_wp2_with fail
  go_ret
  exact ⟨by simp, HB4.out⟩
end Go.Proofs.Ytfglopkglnpokaa
