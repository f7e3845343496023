/- Plain law 8: a new store; what a call of Set or Delete leaves. No condition, no program. -/
import Derived.Test.YtfglopkglnpokaaPG
namespace Go.Proofs.Ytfglopkglnpokaa
open Go.RowKit
abbrev st0 : ST := ⟨[], 0, 1, 1, false⟩
theorem fmt1_blank {fl : FL} (ho : fl.off = false) (h : ∀ b, blankP (pgsF fl b) = true) : ∀ r b, fmt1 r b fl = (0, fl)
  | 0, _ => rfl
  | r + 1, b => by
    unfold fmt1
    rw [if_neg (by simp [ho]), if_pos (h b)]
    exact fmt1_blank ho h r (b + 1)
theorem least_zero {fl : FL} (h : ∀ b, fl.er b = 0) : ∀ k, least fl k = 0
  | 0 => rfl
  | k + 1 => by rw [least_succ, if_neg (by rw [h, h]; omega), least_zero h k]
/-- A formatted flash that was new. -/
theorem fmt_new {B P E : Nat} (hB : 2 ≤ B) (hP : 2 ≤ P) : ∃ f1, fmtF (newF B P E) = (0, f1) ∧ Inv f1 st0 ∧ Same (newF B P E) f1 ∧ (∀ b, f1.er b = 0) ∧ f1.cut = false ∧ ∀ b, b ≠ 0 → blankP (pgsF f1 b) = true := by
  have hbl : ∀ b, blankP (pgsF (newF B P E) b) = true := fun b => pages_blank fun q _ => rfl
  have h1 := fmt1_blank (fl := newF B P E) rfl hbl B 0
  have h2 := least_zero (fl := newF B P E) (fun _ => rfl) B
  have h3 := hdr_pages 1
  rcases wrL_cases [pad (hdr 1)] (newF B P E) 0 0 rfl (fun i _ => rfl) (fun p hp => by rw [List.mem_singleton.1 hp]; exact hdr_pad_len 1) with ⟨g, q1, q2, q3, q4, q5, q6⟩ | ⟨hc, _⟩
  · have hpg : ∀ b q, ¬ (b = 0 ∧ q = 0) → g.pg b q = blank := fun b q hn => by
      rw [q5]
      unfold updP
      rw [if_neg (fun k => hn ⟨k.1, by have := k.2.2; simp at this; omega⟩)]
      rfl
    have h00 : g.pg 0 0 = pad (hdr 1) := by rw [q5]; exact updP_in (f := (newF B P E).pg) (b := 0) (p := 0) (i := 0) (cs := [pad (hdr 1)]) (by simp)
    refine ⟨g, ?_, ?_, q3, fun b => by rw [q4]; rfl, q6 rfl, fun b hb => pages_blank fun q _ => hpg b q (fun k => hb k.1)⟩
    · unfold fmtF
      show (if (decide (2 ≤ B) && decide (2 ≤ P)) = false then _ else _) = _
      rw [if_neg (by simp; omega)]
      show (if (fmt1 B 0 (newF B P E)).1 ≠ 0 then _ else wrL (fmt1 B 0 (newF B P E)).2 (least (fmt1 B 0 (newF B P E)).2 B) 0 (pagesR (hdr 1))) = _
      rw [h1]
      show wrL (newF B P E) (least (newF B P E) B) 0 _ = _
      rw [h2, h3, q1]
    · obtain ⟨s1, s2, s3, s4⟩ := q3
      have s1' : g.B = B := s1
      have s2' : g.P = P := s2
      refine ⟨by omega, by omega, fun b q _ _ => ?_, q2, by show 0 < g.B; omega, by show 1 < _; omega, h00, .refl _ _, by show 1 ≤ g.P; omega, fun _ q k1 _ => hpg 0 q (fun k => by have : 1 ≤ q := k1; omega), (fun k => by cases k), by show 1 + 0 ≤ 1; omega, fun b _ hne => ⟨0, by omega, ?_, fun k => ?_⟩, List.Pairwise.nil, (fun p hp => by cases hp), fun b _ => by rw [q4]; exact Nat.zero_le _⟩
      · by_cases e : b = 0 ∧ q = 0
        · rw [e.1, e.2, h00]; exact hdr_pad_len 1
        · rw [hpg b q e]; rfl
      · rw [hpg b 0 (fun k => hne k.1)]; exact blank_sup 0
      · rw [hpg b 0 (fun k => hne k.1)] at k
        exact absurd k.symm (hdr_blank 0)
  · cases hc
def isDel (kd : Int) : Prop := mo kd 8 = 5 ∨ mo kd 8 = 6
instance (kd : Int) : Decidable (isDel kd) := inferInstanceAs (Decidable (_ ∨ _))
/-- The variables after a call. -/
def doV (V : Vars) (kd nm ln : Int) (fill : UInt8) : Vars := if isDel kd then delV V (nameOf nm) else setV V (nameOf nm) (valOf ln fill)
/-- What a call of Set or Delete may come to. -/
inductive DoR (fl : FL) (st : ST) (kd nm ln : Int) (fill : UInt8) : Int × FL × ST → Prop
  | same : ¬ isDel kd → doV st.V kd nm ln fill = st.V → getV st.V (nameOf nm) = some (valOf ln fill) → DoR fl st kd nm ln fill (0, fl, st)
  | none : isDel kd → getV st.V (nameOf nm) = none → DoR fl st kd nm ln fill (6, fl, st)
  | done {r : Int × FL × ST} : (isDel kd → getV st.V (nameOf nm) ≠ Option.none) → Done fl st (doV st.V kd nm ln fill) r → DoR fl st kd nm ln fill r
  | full : (isDel kd → getV st.V (nameOf nm) ≠ Option.none) → (fl.P < 1 + sumP (recs (doV st.V kd nm ln fill)) ∨ ∀ d, d < fl.B → d ≠ st.blk → ¬ elig fl d) → DoR fl st kd nm ln fill (8, fl, st)
  | lost {r : Int × FL × ST} : (isDel kd → getV st.V (nameOf nm) ≠ Option.none) → Lost fl st (doV st.V kd nm ln fill) r → DoR fl st kd nm ln fill r
theorem doF_cases {fl : FL} {st : ST} (h : Inv fl st) (hg : st.gen + 1 < 18446744073709551616) (kd nm ln : Int) (fill : UInt8) : DoR fl st kd nm ln fill (doF fl st kd nm ln fill) := by
  have hn := nameOf_len nm
  have hv : (valOf ln fill).length ≤ 128 := by rw [valOf_len]; exact valLen_le ln
  by_cases hd : isDel kd
  · have hV : doV st.V kd nm ln fill = delV st.V (nameOf nm) := if_pos hd
    have hok : okLens 2 (nameOf nm).length ([] : Str).length = true := by
      unfold okLens
      simp
      omega
    have e : doF fl st kd nm ln fill = delF fl st (nameOf nm) := if_pos (show mo kd 8 = 5 ∨ mo kd 8 = 6 from hd)
    rw [e]
    unfold delF
    rw [if_neg (by have : okLens 2 (nameOf nm).length 0 = true := hok; rw [this]; simp)]
    by_cases hg0 : getV st.V (nameOf nm) = none
    · rw [if_pos hg0]; exact .none hd hg0
    · rw [if_neg hg0]
      have hVc : doV st.V kd nm ln fill = chgV st.V 2 (nameOf nm) [] := hV
      rcases chgF_cases h (.inr rfl) hok hg with k | ⟨k1, k2⟩ | k
      · rw [← hVc] at k; exact .done (fun _ => hg0) k
      · rw [k1]; rw [← hVc] at k2; exact .full (fun _ => hg0) k2
      · rw [← hVc] at k; exact .lost (fun _ => hg0) k
  · have hV : doV st.V kd nm ln fill = setV st.V (nameOf nm) (valOf ln fill) := if_neg hd
    have hok : okLens 1 (nameOf nm).length (valOf ln fill).length = true := by
      unfold okLens
      simp
      omega
    have e : doF fl st kd nm ln fill = setF fl st (nameOf nm) (valOf ln fill) := if_neg (show ¬ (mo kd 8 = 5 ∨ mo kd 8 = 6) from hd)
    rw [e]
    unfold setF
    rw [if_neg (by rw [hok]; simp)]
    by_cases hg0 : getV st.V (nameOf nm) = some (valOf ln fill)
    · rw [if_pos hg0]; exact .same hd (by rw [hV]; exact setV_same h.srt hg0) hg0
    · rw [if_neg hg0]
      have hVc : doV st.V kd nm ln fill = chgV st.V 1 (nameOf nm) (valOf ln fill) := hV
      rcases chgF_cases h (.inl rfl) hok hg with k | ⟨k1, k2⟩ | k
      · rw [← hVc] at k; exact .done (fun x => absurd x hd) k
      · rw [k1]; rw [← hVc] at k2; exact .full (fun x => absurd x hd) k2
      · rw [← hVc] at k; exact .lost (fun x => absurd x hd) k
/-- Without a planned loss of power. -/
theorem DoR.calm {fl : FL} {st : ST} {kd nm ln : Int} {fill : UInt8} {r : Int × FL × ST} (h : Inv fl st) (hc : fl.cut = false) (k : DoR fl st kd nm ln fill r) :
    Inv r.2.1 r.2.2 ∧ r.2.1.cut = false ∧ Same fl r.2.1 ∧ r.2.2.gen ≤ st.gen + 1 ∧ (∀ c, r.2.1.er c ≤ fl.er c + 1) := by
  cases k with
  | same => exact ⟨h, hc, Same.refl _, Nat.le_succ _, fun c => Nat.le_succ _⟩
  | none => exact ⟨h, hc, Same.refl _, Nat.le_succ _, fun c => Nat.le_succ _⟩
  | full => exact ⟨h, hc, Same.refl _, Nat.le_succ _, fun c => Nat.le_succ _⟩
  | done _ hd =>
    obtain ⟨g, st', rfl, h1, _, h3, h4, _, h6⟩ := hd
    refine ⟨h1, h4 hc, h3, ?_, fun c => ?_⟩
    · rcases h6 with ⟨_, e, _⟩ | ⟨_, _, e, _⟩
      · show st'.gen ≤ _; omega
      · show st'.gen ≤ _; omega
    · rcases h6 with ⟨_, _, e⟩ | ⟨bl, _, _, e⟩
      · show g.er c ≤ _; rw [e]; omega
      · show g.er c ≤ _; rw [e]
        cases bl
        · exact bump_le _ _ _
        · exact Nat.le_succ _
  | lost _ hl => obtain ⟨k, _⟩ := hl; rw [hc] at k; cases k
end Go.Proofs.Ytfglopkglnpokaa
