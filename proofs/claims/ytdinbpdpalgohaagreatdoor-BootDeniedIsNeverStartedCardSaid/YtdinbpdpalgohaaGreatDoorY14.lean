/- examine, Succeeded, Log, New, Try. Conditions: those that each theorem names. -/
import Derived.Test.YtdinbpdpalgohaaGreatDoorY12
namespace Go.Proofs.YtdinbpdpalgohaaGreatDoor
open Go.RowKit
attribute [local go_sem ↓] alloc34 load34 store34 build34 build34o Ms.alloc26 Ms.load26n Ms.store26n
attribute [local go_sem] Ms.set_new
/-- v reads as these strings. -/
def RdT (w : World) (v : Value) (l : List ByteArray) : Prop := ∃ a c, v = .slice a l.length c ∧ l.length ≤ c ∧ c ≤ maxLen ∧ (∀ g, v.ownBlock = some g → g < w.heap.size) ∧ (l ≠ [] → ∃ g o, a = some ⟨g, o, none⟩ ∧ ∀ i x, l[i]? = some x → w.cell? ⟨g, o + i, none⟩ = some (.string x))
section
variable {w w' : World} {v : Value} {l : List ByteArray}
theorem RdT.ch {C : Nat → Prop} (h : RdT w v l) (c : Ch C w w') (hC : ∀ g, v.ownBlock = some g → ¬ C g) : RdT w' v l := by
  obtain ⟨a, n, rfl, h1, h2, h3, h4⟩ := h
  refine ⟨a, n, rfl, h1, h2, fun g hg => Nat.lt_of_lt_of_le (h3 g hg) c.size, fun hne => ?_⟩
  obtain ⟨g, o, rfl, hx⟩ := h4 hne
  have hg : (Value.slice (some ⟨g, o, none⟩) l.length n).ownBlock = some g := rfl
  exact ⟨g, o, rfl, fun i x hi => (c.cell ⟨g, o + i, none⟩ (h3 g hg) (hC g hg)).trans (hx i x hi)⟩
theorem RdT.below (h : RdT w v l) (b : Below w.heap.size w w') : RdT w' v l := h.ch (Ch.of_below b (fun _ => False)) (fun _ _ h => h)
theorem RdT.nil (w : World) : RdT w (.slice none 0 0) [] := ⟨none, 0, rfl, Nat.le_refl _, by decide, (fun _ h => (by cases h)), fun h => absurd rfl h⟩
theorem RdT.cellAt (h : RdT w v l) {i : Nat} (hi : i < l.length) : ∃ g o c, v = .slice (some ⟨g, o, none⟩) l.length c ∧ l.length ≤ c ∧ c ≤ maxLen ∧ g < w.heap.size ∧ w.cell? ⟨g, o + i, none⟩ = some (.string l[i]) := by
  obtain ⟨a, c, rfl, h1, h2, h3, h4⟩ := h
  obtain ⟨g, o, rfl, hx⟩ := h4 (by intro e; rw [e] at hi; cases hi)
  exact ⟨g, o, c, rfl, h1, h2, h3 g rfl, hx i _ (List.getElem?_eq_getElem hi)⟩
theorem RdT.shape (h : RdT w v l) : ∃ a c, v = .slice a l.length c ∧ l.length ≤ c ∧ c ≤ 9223372036854775807 := by
  obtain ⟨a, c, rfl, h1, h2, _⟩ := h
  exact ⟨a, c, rfl, h1, by unfold maxLen at h2; omega⟩
end
def exE (V : Vars) (i : Int) : En := (entO V i).getD ⟨0, [], false, 0, 0⟩
/-- The digest of an image. -/
def sumS (s : ByteArray) : Str := Ms.dl (Ms.sumD s.data.toList)
theorem sumS_len (s : ByteArray) : (sumS s).length = 32 := Ms.dl_len _
def exC (V : Vars) (i : Nat) (l : List ByteArray) : Int := match entO V i with
  | none => 6
  | some e => if l.length ≤ i ∨ (l.getD i ⟨#[]⟩).size = 0 then 6 else if e.a = false then 9 else if sumS (l.getD i ⟨#[]⟩) ≠ e.d then 21 else if e.d ∈ denV V then 13 else if e.n ≤ e.u then 14 else 0
theorem entT_ex (V : Vars) (i : Int) : entT V i = .tuple #[enV (exE V i), .int .i64 ((exE V i).u : Int), .int .i64 (if (entO V i).isSome = true then 0 else 6)] := by
  unfold entT exE
  rcases entO V i with _ | e <;> rfl
theorem entO_some {V : Vars} {i : Int} {e : En} (h : entO V i = some e) : e.i = i ∧ isId i = true ∧ e.d.length = 32 ∧ e.n ≤ 255 ∧ e.u ≤ 255 := by
  unfold entO at h
  obtain ⟨v, hv, rfl⟩ := Option.map_eq_some_iff.1 h
  obtain ⟨h1, _, h3⟩ := entV_some hv
  have h4 := okE_len h3
  have h5 := (v.getD 33 0).toNat_lt
  have h6 := (v.getD 34 0).toNat_lt
  refine ⟨rfl, h1, ?_, ?_, ?_⟩
  · show (v.take 32).length = 32
    rw [List.length_take]; omega
  · show (v.getD 33 0).toNat ≤ 255
    omega
  · show (v.getD 34 0).toNat ≤ 255
    omega
theorem sum_str (s : ByteArray) (w : World) (hs : s.size ≤ 1073741824) (hr : Ms.Rnd w) (h0 : 0 < w.heap.size) : Calls Tryz.prog 14 #[.string s] w fun e w' => e = .returned (.agg (Ms.arr 32 (Ms.b8 (dgF (sumS s))))) ∧ Below w.heap.size w w' := by
  have h := Ms.sum_any s w hs hr h0
  have e := sumD_dg s.data.toList
  unfold dgA at e
  show Calls _ _ _ _ fun e w' => e = .returned (.agg (Ms.arr 32 (Ms.b8 (dgF (Ms.dl (Ms.sumD s.data.toList)))))) ∧ _
  rw [e]
  exact h
theorem ld_dg {W : World} {g t : Nat} {i : Int} {d : Str} {a : Bool} {n : Int} (h : Row W g t 35 (ecl i d a n)) : Ms.ldN 32 W (.pointer (some ⟨g, 1, none⟩)) = some (Ms.arr 32 (Ms.b8 (dgF d))) :=
  Ms.ldN_of (fun j u hu => by
    have hj : j < 32 := by have := (List.getElem?_eq_some_iff.1 hu).1; simpa [Ms.arr] using this
    have : u = Ms.b8 (dgF d) j := by simpa [Ms.arr, hj] using hu.symm
    rw [this, h.cell (i := 1 + j) (by omega), ecl_mid _ _ _ _ _ hj]
    rfl) (Ms.arr_size _ _)
section
variable {w w' : World} {N M S L n : Nat} {O : Nat → Prop} {b : BM} {v : Value} {l : List ByteArray}
set_option maxRecDepth 100000 in
set_option maxHeartbeats 4000000 in
theorem examine_any (h : BW w N O M S L n b) (i : Nat) (hv : RdT w v l) (hs : ∀ x ∈ l, x.size ≤ 1073741824) : Calls Tryz.prog 59 #[fptr M, .int .i64 (i : Int), v] w fun e w' => e = .returned (.tuple #[enV (exE b.st.V i), .int .i64 ((exE b.st.V i).u : Int), .int .i64 (exC b.st.V i l)]) ∧ Below w.heap.size w w' := by
  obtain ⟨ce, hce⟩ : ∃ c, exC b.st.V i l = c := ⟨_, rfl⟩
  obtain ⟨en, hen⟩ : ∃ e, exE b.st.V (i : Int) = e := ⟨_, rfl⟩
  have HCE := Lib.hid hce
  have HEN := Lib.hid hen
  rw [hce, hen]
  have HW0 := Lib.hid (h.below ((Below.refl w.heap.size w).alloc (Nat.le_refl _) (.cells (Ms.arr 35 (ecl 0 [] false 0)) 34)))
  have hbe := bentry_any HW0.out (i : Int)
  rw [entT_ex, hen] at hbe
  obtain ⟨c0, hc0⟩ : ∃ c : Int, (if (entO b.st.V (i : Int)).isSome = true then (0 : Int) else 6) = c := ⟨_, rfl⟩
  rw [hc0] at hbe
  have HBE := Lib.hid hbe
  have HR0 := Lib.hid (nE_row w)
  have HB0 : Hid (Below w.heap.size w (w.alloc (.cells (Ms.arr 35 (ecl 0 [] false 0)) 34))) := (Below.refl _ _).alloc (Nat.le_refl _) _
  obtain ⟨E, hE⟩ : ∃ E, w.heap.size = E := ⟨_, rfl⟩
  have HE := Lib.hid hE
  obtain ⟨a, c, rfl, hac, hcm⟩ := hv.shape
  have HV := Lib.hid hv
  have HS := Lib.hid hs
  have HWW := Lib.hid h
  obtain ⟨ei, ed, ea, en', eu, rfl⟩ : ∃ a b c d e, en = ⟨a, b, c, d, e⟩ := ⟨en.i, en.d, en.a, en.n, en.u, rfl⟩
  have hev : enV ⟨ei, ed, ea, en', eu⟩ = .agg (Ms.arr 35 (ecl ei ed ea en')) := rfl
  rw [hev] at HBE ⊢
  have hst9 := fun (W : World) => st34 (nE_row W) ei ed ea en'
  rw [hE] at HR0
  clear hbe hev h hv hs hce hen hE
  go_enter Tryz.func59, Tryz.ntmps59
  go_wp2_with fail
  rw [HE.out]
  generalize w.alloc (.cells (Ms.arr 35 (ecl 0 [] false 0)) 34) = W0 at *
  refine HBE.out.mono ?_
  rintro e w1 ⟨rfl, b1⟩
  have HB1 : Hid (Below w.heap.size w w1) := HB0.out.trans (b1.mono HB0.out.size)
  have HR1 := Lib.hid (HR0.out.ch (Ch.of_below b1 (fun _ => False)) id)
  have HR6 : Hid (Row (w1.alloc (.cells (Ms.arr 35 (ecl ei ed ea en')) 34)) E 34 35 (ecl 0 [] false 0)) := HR1.out.alloc _
  have HR9 : Hid (Row (w1.alloc (.cells (Ms.arr 35 (ecl ei ed ea en')) 34)) w1.heap.size 34 35 (ecl ei ed ea en')) := Row.ofList w1 _ _ _ 35 rfl
  have HB2 : Hid (Below w.heap.size w (w1.alloc (.cells (Ms.arr 35 (ecl ei ed ea en')) 34))) := HB1.out.alloc HB1.out.size _
  have hne : E ≠ w1.heap.size := by have := HR1.out.lt; omega
  clear b1 HBE HW0 HR0 HB0 HR1 HB1
  rcases hO : entO b.st.V (i : Int) with _ | e
  · have hcc : ce = 6 := by rw [← HCE.out]; unfold exC; rw [hO]
    have e1 : c0 = 6 := by rw [← hc0, hO]; rfl
    subst e1
    clear hO hc0 HCE
    go_upto_if 19 with fail
    generalize w1.heap.size = E9 at *
    generalize w1.alloc (.cells (Ms.arr 35 (ecl ei ed ea en')) 34) = W at *
    clear hst9
    subst hcc
    have hst6 := st34 (W := W) HR6.out ei ed ea en'
    have hld9 := ld34 (W := W) HR9.out
    have HRF : Hid (Row ((W).setCells E 0 (Ms.arr 35 (ecl ei ed ea en')).toList) E 34 35 (ecl ei ed ea en')) := Ms.Row.setWhole (w := W) HR6.out
    have HBF : Hid (Below w.heap.size w ((W).setCells E 0 (Ms.arr 35 (ecl ei ed ea en')).toList)) := Ms.Below.setAll (by rw [HE.out]; exact Nat.le_refl _) _ _ _ HB2.out
    go_wp2_with fail
    exact bodyPost_ret (v := .tuple #[.agg (Ms.arr 35 (ecl ei ed ea en')), .int .i64 (eu : Int), .int .i64 6]) (res3 rfl _ _ E (Ms.arr 35 (ecl ei ed ea en')) _ _ rfl rfl rfl (ret34 HRF.out)) rfl ⟨rfl, HBF.out⟩
  have HIMG : Hid (ce = if l.length ≤ i ∨ (l.getD i ⟨#[]⟩).size = 0 then 6 else if ea = false then 9 else if sumS (l.getD i ⟨#[]⟩) ≠ ed then 21 else if ed ∈ denV b.st.V then 13 else if en' ≤ eu then 14 else 0) := by
    have h1 := HEN.out
    unfold exE at h1
    rw [hO] at h1
    have h2 : e = ⟨ei, ed, ea, en', eu⟩ := h1
    show _ = _
    rw [← HCE.out]
    unfold exC
    rw [hO, h2]
  have HED : Hid (ed.length = 32) := by
    have h1 := HEN.out
    unfold exE at h1
    rw [hO] at h1
    have h2 : e = ⟨ei, ed, ea, en', eu⟩ := h1
    have := (entO_some hO).2.2.1
    rw [h2] at this
    exact this
  have e1 : c0 = 0 := by rw [← hc0, hO]; rfl
  subst e1
  clear hO hc0 HCE HEN
  by_cases hlt : i < l.length
  · have hil := hlt
    obtain ⟨g, o, c', e, _, _, hgl, hc⟩ := (HV.out.below HB2.out).cellAt hlt
    injection e with e1 _ e3
    subst e1 e3
    have hgw : g < w.heap.size := by obtain ⟨_, _, e, _, _, h3, _⟩ := HV.out; exact h3 g rfl
    have HGW := Lib.hid hgw
    have HSZ := Lib.hid (HS.out _ (List.getElem_mem hlt))
    have hgd : l.getD i ⟨#[]⟩ = l[i] := by rw [List.getD_eq_getElem?_getD, List.getElem?_eq_getElem hlt]; rfl
    rw [hgd] at HIMG
    generalize l[i] = img at *
    have HC := Lib.hid hc
    have y0 : ¬ l.length ≤ i := by omega
    obtain ⟨em, hem⟩ : ∃ b, (img.toList == []) = b := ⟨_, rfl⟩
    have HEM : Hid (em = true ↔ img.size = 0) := by
      show _ ↔ _
      rw [← hem, ByteArray.toList_eq, bsz, beq_iff_eq, List.length_eq_zero_iff]
    clear hgd hgw hgl
    rcases em with _ | _
    · have hne0 : img.size ≠ 0 := fun q => by have := HEM.out.2 q; cases this
      have HII : Hid (ce = if ea = false then 9 else if sumS img ≠ ed then 21 else if ed ∈ denV b.st.V then 13 else if en' ≤ eu then 14 else 0) := by
        show _ = _
        rw [HIMG.out, if_neg (fun q => q.elim y0 hne0)]
      clear HIMG HEM hne0
      go_upto_if 19 with fail
      clear hst9 hc
      generalize w1.heap.size = E9 at *
      generalize w1.alloc (.cells (Ms.arr 35 (ecl ei ed ea en')) 34) = W at *
      have c33 : W.cell? ⟨E9, 33, none⟩ = some (.bool ea) := HR9.out.cell (i := 33) (by omega)
      rcases ea with _ | _
      · have hcc : ce = 9 := by rw [HII.out, if_pos rfl]
        clear HII
        subst hcc
        have hst6 := st34 (W := W) HR6.out ei ed false en'
        have hld9 := ld34 (W := W) HR9.out
        have HRF : Hid (Row ((W).setCells E 0 (Ms.arr 35 (ecl ei ed false en')).toList) E 34 35 (ecl ei ed false en')) := Ms.Row.setWhole (w := W) HR6.out
        have HBF : Hid (Below w.heap.size w ((W).setCells E 0 (Ms.arr 35 (ecl ei ed false en')).toList)) := Ms.Below.setAll (by rw [HE.out]; exact Nat.le_refl _) _ _ _ HB2.out
        go_wp2_with fail
        exact bodyPost_ret (v := .tuple #[.agg (Ms.arr 35 (ecl ei ed false en')), .int .i64 (eu : Int), .int .i64 9]) (res3 rfl _ _ E (Ms.arr 35 (ecl ei ed false en')) _ _ rfl rfl rfl (ret34 HRF.out)) rfl ⟨rfl, HBF.out⟩
      have HI2 : Hid (ce = if sumS img ≠ ed then 21 else if ed ∈ denV b.st.V then 13 else if en' ≤ eu then 14 else 0) := by
        show _ = _
        rw [HII.out, if_neg (by simp)]
      have HWb := Lib.hid (HWW.out.below HB2.out)
      have HSM := Lib.hid (sum_str img W.drew HSZ.out HWb.out.rnd HWb.out.pos)
      have hsl := sumS_len img
      generalize sumS img = sd at *
      have hne2 : ∀ Y, (binOp .neq 31 (.agg (Ms.arr 32 (Ms.b8 (dgF sd)))) (.agg (Ms.arr 32 (Ms.b8 (dgF ed))))).run Tryz.prog Y = .ok (.bool (!decide (sd = ed))) Y := fun Y => neDg hsl HED.out Y
      have S1 : Hid (W.drew.cell? ⟨g, o + i, none⟩ = some (.string img) ∧ Ms.ldN 32 W.drew (.pointer (some ⟨E9, 1, none⟩)) = some (Ms.arr 32 (Ms.b8 (dgF ed)))) := ⟨HC.out, by rw [Ms.ldN_drew]; exact ld_dg HR9.out⟩
      clear HII
      go_wp2_with fail
      clear c33
      refine wp_region_pl (fun Y => Y.cell? ⟨g, o + i, none⟩ = some (.string img) ∧ Ms.ldN 32 Y (.pointer (some ⟨E9, 1, none⟩)) = some (Ms.arr 32 (Ms.b8 (dgF ed)))) ((0, 0) :: (1, 0) :: (2, 0) :: (3, 0) :: (5, 0) :: (6, 0) :: (4, 1) :: (7, 0) :: (8, 0) :: []) (by kernel_rfl) (by kernel_rfl) ?_
      iterate 6 (apply wpP_go; (focus rfl); (focus rfl); (focus exact S1.out); (focus (rintro Y ⟨s0, s1⟩; go_simp; exact rfl)); intro K hK; go_simp; refine hK _ ?_; clear hK K)
      apply wpP_one
      focus rfl
      intro K hK
      go_simp
      refine HSM.out.mono ?_
      rintro e W2 ⟨rfl, b2⟩
      have HR62 := Lib.hid ((show Row W.drew _ _ _ _ from HR6.out).ch (Ch.of_below b2 (fun _ => False)) id)
      have HR92 := Lib.hid ((show Row W.drew _ _ _ _ from HR9.out).ch (Ch.of_below b2 (fun _ => False)) id)
      have HB3 : Hid (Below w.heap.size w W2) := HB2.out.drew.trans (b2.mono HB2.out.size)
      have S2 : Hid (W2.cell? ⟨g, o + i, none⟩ = some (.string img) ∧ Ms.ldN 32 W2 (.pointer (some ⟨E9, 1, none⟩)) = some (Ms.arr 32 (Ms.b8 (dgF ed)))) := ⟨(b2.cell (p := ⟨g, o + i, none⟩) (Nat.lt_of_lt_of_le HGW.out HB2.out.size)).trans S1.out.1, ld_dg HR92.out⟩
      refine hK _ _ S2.out ?_
      clear hK K
      iterate 2 (apply wpP_go; (focus rfl); (focus rfl); (focus exact S2.out); (focus (rintro Y ⟨s0, s1⟩; go_simp; exact rfl)); intro K hK; go_simp; refine hK _ ?_; clear hK K)
      refine wpP_done ?_
      clear S1 HR6 HR9 HB2 b2 HSM HWb hne2 HC HSZ hsl
      have HR6 := HR62
      have HR9 := HR92
      have HB2 := HB3
      clear HR62 HR92 HB3
      by_cases hsd : sd = ed
      · have hds : decide (sd = ed) = true := decide_eq_true hsd
        rw [hds]
        have HI3 : Hid (ce = if ed ∈ denV b.st.V then 13 else if en' ≤ eu then 14 else 0) := by
          show _ = _
          rw [HI2.out, if_neg (fun q => q hsd)]
        clear hsd hds HI2
        have HWb := Lib.hid (HWW.out.below HB2.out)
        have HDN := Lib.hid (denied_any HWb.out.drew)
        have hl32 : ∀ e ∈ denV b.st.V, e.length = 32 := denV_32
        have HL32 := Lib.hid hl32
        generalize denV b.st.V = dn at *
        have S3 : Hid (Ms.ldN 32 W2.drew (.pointer (some ⟨E9, 1, none⟩)) = some (Ms.arr 32 (Ms.b8 (dgF ed)))) := by show _ = _; rw [Ms.ldN_drew]; exact S2.out.2
        clear hl32 S2
        go_wp2_with fail
        refine wp_region_pl (fun Y => Ms.ldN 32 Y (.pointer (some ⟨E9, 1, none⟩)) = some (Ms.arr 32 (Ms.b8 (dgF ed)))) ((0, 0) :: (2, 0) :: (3, 0) :: (1, 1) :: (4, 1) :: (5, 0) :: []) (by kernel_rfl) (by kernel_rfl) ?_
        iterate 3 (apply wpP_go; (focus rfl); (focus rfl); (focus exact S3.out); (focus (rintro Y s1; go_simp; exact rfl)); intro K hK; go_simp; refine hK _ ?_; clear hK K)
        apply wpP_one
        focus rfl
        intro K hK
        go_simp
        refine HDN.out.mono ?_
        rintro e W3 ⟨dv, rfl, hdo, b3⟩
        have HR63 := Lib.hid ((show Row W2.drew _ _ _ _ from HR6.out).ch (Ch.of_below b3 (fun _ => False)) id)
        have HR93 := Lib.hid ((show Row W2.drew _ _ _ _ from HR9.out).ch (Ch.of_below b3 (fun _ => False)) id)
        have HB3 : Hid (Below w.heap.size w W3) := HB2.out.drew.trans (b3.mono HB2.out.size)
        have S4 : Hid (Ms.ldN 32 W3 (.pointer (some ⟨E9, 1, none⟩)) = some (Ms.arr 32 (Ms.b8 (dgF ed)))) := ld_dg HR93.out
        have HCT := Lib.hid (containsD_any hdo.rd HL32.out HED.out)
        unfold dgA at HCT
        refine hK _ _ S4.out ?_
        clear hK K hdo b3
        apply wpP_one
        focus rfl
        intro K hK
        go_simp
        refine HCT.out.mono ?_
        rintro e W4 ⟨rfl, b4⟩
        have HR64 := Lib.hid (HR63.out.ch (Ch.of_below b4 (fun _ => False)) id)
        have HR94 := Lib.hid (HR93.out.ch (Ch.of_below b4 (fun _ => False)) id)
        have HB4 : Hid (Below w.heap.size w W4) := HB3.out.trans (b4.mono HB3.out.size)
        have S5 : Hid (Ms.ldN 32 W4 (.pointer (some ⟨E9, 1, none⟩)) = some (Ms.arr 32 (Ms.b8 (dgF ed)))) := ld_dg HR94.out
        refine hK _ _ S5.out ?_
        clear hK K b4
        iterate 1 (apply wpP_go; (focus rfl); (focus rfl); (focus exact S5.out); (focus (rintro Y s1; go_simp; exact rfl)); intro K hK; go_simp; refine hK _ ?_; clear hK K)
        refine wpP_done ?_
        clear S3 S4 S5 HR6 HR9 HB2 HR63 HR93 HB3 HDN HCT HWb
        have HR6 := HR64
        have HR9 := HR94
        have HB2 := HB4
        clear HR64 HR94 HB4
        by_cases hmem : ed ∈ dn
        · have hd : decide (ed ∈ dn) = true := decide_eq_true hmem
          rw [hd]
          have hcc : ce = 13 := by rw [HI3.out, if_pos hmem]
          clear HI3 hmem hd
          subst hcc
          have hst6 := st34 (W := W4) HR6.out ei ed true en'
          have hld9 := ld34 (W := W4) HR9.out
          have HRF : Hid (Row ((W4).setCells E 0 (Ms.arr 35 (ecl ei ed true en')).toList) E 34 35 (ecl ei ed true en')) := Ms.Row.setWhole (w := W4) HR6.out
          have HBF : Hid (Below w.heap.size w ((W4).setCells E 0 (Ms.arr 35 (ecl ei ed true en')).toList)) := Ms.Below.setAll (by rw [HE.out]; exact Nat.le_refl _) _ _ _ HB2.out
          go_wp2_with fail
          exact bodyPost_ret (v := .tuple #[.agg (Ms.arr 35 (ecl ei ed true en')), .int .i64 (eu : Int), .int .i64 13]) (res3 rfl _ _ E (Ms.arr 35 (ecl ei ed true en')) _ _ rfl rfl rfl (ret34 HRF.out)) rfl ⟨rfl, HBF.out⟩
        · have hd : decide (ed ∈ dn) = false := decide_eq_false hmem
          rw [hd]
          have c34 : W4.cell? ⟨E9, 34, none⟩ = some (.int .i64 (en' : Int)) := HR9.out.cell (i := 34) (by omega)
          by_cases hu : en' ≤ eu
          · have hcc : ce = 14 := by rw [HI3.out, if_neg hmem, if_pos hu]
            have huI : (eu : Int) ≥ (en' : Int) := by omega
            clear HI3 hmem hd
            subst hcc
            have hst6 := st34 (W := W4) HR6.out ei ed true en'
            have hld9 := ld34 (W := W4) HR9.out
            have HRF : Hid (Row ((W4).setCells E 0 (Ms.arr 35 (ecl ei ed true en')).toList) E 34 35 (ecl ei ed true en')) := Ms.Row.setWhole (w := W4) HR6.out
            have HBF : Hid (Below w.heap.size w ((W4).setCells E 0 (Ms.arr 35 (ecl ei ed true en')).toList)) := Ms.Below.setAll (by rw [HE.out]; exact Nat.le_refl _) _ _ _ HB2.out
            go_wp2_with fail
            exact bodyPost_ret (v := .tuple #[.agg (Ms.arr 35 (ecl ei ed true en')), .int .i64 (eu : Int), .int .i64 14]) (res3 rfl _ _ E (Ms.arr 35 (ecl ei ed true en')) _ _ rfl rfl rfl (ret34 HRF.out)) rfl ⟨rfl, HBF.out⟩
          · have hcc : ce = 0 := by rw [HI3.out, if_neg hmem, if_neg hu]
            have huI : ¬ (eu : Int) ≥ (en' : Int) := by omega
            clear HI3 hmem hd
            subst hcc
            have hst6 := st34 (W := W4) HR6.out ei ed true en'
            have hld9 := ld34 (W := W4) HR9.out
            have HRF : Hid (Row ((W4).setCells E 0 (Ms.arr 35 (ecl ei ed true en')).toList) E 34 35 (ecl ei ed true en')) := Ms.Row.setWhole (w := W4) HR6.out
            have HBF : Hid (Below w.heap.size w ((W4).setCells E 0 (Ms.arr 35 (ecl ei ed true en')).toList)) := Ms.Below.setAll (by rw [HE.out]; exact Nat.le_refl _) _ _ _ HB2.out
            go_wp2_with fail
            exact bodyPost_ret (v := .tuple #[.agg (Ms.arr 35 (ecl ei ed true en')), .int .i64 (eu : Int), .int .i64 0]) (res3 rfl _ _ E (Ms.arr 35 (ecl ei ed true en')) _ _ rfl rfl rfl (ret34 HRF.out)) rfl ⟨rfl, HBF.out⟩
      · have hds : decide (sd = ed) = false := decide_eq_false hsd
        rw [hds]
        have hcc : ce = 21 := by rw [HI2.out, if_pos hsd]
        clear HI2 hsd hds
        subst hcc
        have hst6 := st34 (W := W2) HR6.out ei ed true en'
        have hld9 := ld34 (W := W2) HR9.out
        have HRF : Hid (Row ((W2).setCells E 0 (Ms.arr 35 (ecl ei ed true en')).toList) E 34 35 (ecl ei ed true en')) := Ms.Row.setWhole (w := W2) HR6.out
        have HBF : Hid (Below w.heap.size w ((W2).setCells E 0 (Ms.arr 35 (ecl ei ed true en')).toList)) := Ms.Below.setAll (by rw [HE.out]; exact Nat.le_refl _) _ _ _ HB2.out
        go_wp2_with fail
        exact bodyPost_ret (v := .tuple #[.agg (Ms.arr 35 (ecl ei ed true en')), .int .i64 (eu : Int), .int .i64 21]) (res3 rfl _ _ E (Ms.arr 35 (ecl ei ed true en')) _ _ rfl rfl rfl (ret34 HRF.out)) rfl ⟨rfl, HBF.out⟩
    · have hcc : ce = 6 := by rw [HIMG.out, if_pos (.inr (HEM.out.1 rfl))]
      clear HIMG HEM
      go_upto_if 19 with fail
      clear hst9 hc
      generalize w1.heap.size = E9 at *
      generalize w1.alloc (.cells (Ms.arr 35 (ecl ei ed ea en')) 34) = W at *
      subst hcc
      have hst6 := st34 (W := W) HR6.out ei ed ea en'
      have hld9 := ld34 (W := W) HR9.out
      have HRF : Hid (Row ((W).setCells E 0 (Ms.arr 35 (ecl ei ed ea en')).toList) E 34 35 (ecl ei ed ea en')) := Ms.Row.setWhole (w := W) HR6.out
      have HBF : Hid (Below w.heap.size w ((W).setCells E 0 (Ms.arr 35 (ecl ei ed ea en')).toList)) := Ms.Below.setAll (by rw [HE.out]; exact Nat.le_refl _) _ _ _ HB2.out
      go_wp2_with fail
      exact bodyPost_ret (v := .tuple #[.agg (Ms.arr 35 (ecl ei ed ea en')), .int .i64 (eu : Int), .int .i64 6]) (res3 rfl _ _ E (Ms.arr 35 (ecl ei ed ea en')) _ _ rfl rfl rfl (ret34 HRF.out)) rfl ⟨rfl, HBF.out⟩
  · have y0 : (i : Int) ≥ (l.length : Int) := by omega
    have hcc : ce = 6 := by rw [HIMG.out, if_pos (.inl (by omega))]
    clear HIMG
    go_upto_if 19 with fail
    generalize w1.heap.size = E9 at *
    generalize w1.alloc (.cells (Ms.arr 35 (ecl ei ed ea en')) 34) = W at *
    clear hst9
    subst hcc
    have hst6 := st34 (W := W) HR6.out ei ed ea en'
    have hld9 := ld34 (W := W) HR9.out
    have HRF : Hid (Row ((W).setCells E 0 (Ms.arr 35 (ecl ei ed ea en')).toList) E 34 35 (ecl ei ed ea en')) := Ms.Row.setWhole (w := W) HR6.out
    have HBF : Hid (Below w.heap.size w ((W).setCells E 0 (Ms.arr 35 (ecl ei ed ea en')).toList)) := Ms.Below.setAll (by rw [HE.out]; exact Nat.le_refl _) _ _ _ HB2.out
    go_wp2_with fail
    exact bodyPost_ret (v := .tuple #[.agg (Ms.arr 35 (ecl ei ed ea en')), .int .i64 (eu : Int), .int .i64 6]) (res3 rfl _ _ E (Ms.arr 35 (ecl ei ed ea en')) _ _ rfl rfl rfl (ret34 HRF.out)) rfl ⟨rfl, HBF.out⟩
end
end Go.Proofs.YtdinbpdpalgohaaGreatDoor
namespace Go.Proofs.YtdinbpdpalgohaaGreatDoor
open Go.RowKit
attribute [local go_sem ↓] alloc34 load34 store34 build34 build34o
attribute [local go_sem] Ms.set_new
def succB (b : BM) : Int × BM := match entO b.st.V b.last with
  | none => (9, b)
  | some e => setB b (nmE e.i.toNat) (entS e.d e.a e.n 0)
section
variable {w w' : World} {N M S L n : Nat} {O : Nat → Prop} {b : BM}
theorem MR.err (h : BW w' N O M S L n b) (hb : Below w.heap.size w w') (c : Int) : MR w N O M S L (n + 1) (c, b) (.returned (.int .i64 c)) w' :=
  ⟨rfl, MLeft.same (h.mono (Nat.le_succ _)) (Ch.of_below hb _)⟩
set_option maxRecDepth 100000 in
set_option maxHeartbeats 2000000 in
theorem succeeded_any (h : BW w N O M S L n b) (hb : b.st.blk < b.fl.B) (hn : n < 1000) : Calls Tryz.prog 18 #[fptr M] w (MR w N O M S L (n + 1) (succB b)) := by
  have c4 := h.c4
  have hbe := bentry_any h b.last
  have HWW := Lib.hid h
  obtain ⟨r, hr⟩ : ∃ r, succB b = r := ⟨_, rfl⟩
  have HRE := Lib.hid hr
  rw [hr]
  unfold succB at HRE
  clear h hr
  have hst9 := fun (W : World) (i : Int) (d : Str) (a : Bool) (k : Int) => st34 (nE_row W) i d a k
  rcases hO : entO b.st.V b.last with _ | e
  · have he : entT b.st.V b.last = .tuple #[.agg (Ms.arr 35 (ecl 0 [] false 0)), .int .i64 0, .int .i64 6] := by unfold entT; rw [hO]; rfl
    rw [he] at hbe
    have HBE := Lib.hid hbe
    have e0 : r = (9, b) := by rw [← HRE.out, hO]
    subst e0
    generalize b.last = la at *
    clear hO he hbe HRE
    go_enter Tryz.func18, Tryz.ntmps18
    go_wp2_with fail
    refine HBE.out.mono ?_
    rintro e w1 ⟨rfl, b1⟩
    have HB1 := Lib.hid b1
    have HW1 := Lib.hid (HWW.out.below b1)
    clear b1 HBE
    go_wp2_with fail
    go_ret
    exact MR.err (HW1.out.below ((Below.refl _ _).alloc (Nat.le_refl _) _)) (HB1.out.alloc HB1.out.size _) 9
  · obtain ⟨h1, h2, h3, h4, h5⟩ := entO_some hO
    have hid := isId_iff.1 h2
    obtain ⟨ei, ed, ea, en, eu⟩ := e
    obtain ⟨k, hk⟩ : ∃ k : Nat, ei = (k : Int) := ⟨ei.toNat, by simp only at h1; omega⟩
    subst hk
    simp only at h1 h2 h3 h4 h5
    have hk16 : k < 16 := by omega
    have he : entT b.st.V b.last = .tuple #[.agg (Ms.arr 35 (ecl k ed ea en)), .int .i64 (eu : Int), .int .i64 0] := by unfold entT; rw [hO]; rfl
    rw [he] at hbe
    have HBE := Lib.hid hbe
    have e0 : r = setB b (nmE k) (entS ed ea en 0) := by rw [← HRE.out, hO]; rfl
    subst e0
    have HD := Lib.hid h3
    clear hO he hbe HRE h1 h2 h3
    generalize b.last = la at *
    go_enter Tryz.func18, Tryz.ntmps18
    go_wp2_with fail
    refine HBE.out.mono ?_
    rintro e w1 ⟨rfl, b1⟩
    have HB2 : Hid (Below w.heap.size w (w1.alloc (.cells (Ms.arr 35 (ecl k ed ea en)) 34))) := b1.alloc b1.size _
    have HW2 := Lib.hid (HWW.out.below HB2.out)
    have hld := ld34 (show Row (w1.alloc (.cells (Ms.arr 35 (ecl k ed ea en)) 34)) w1.heap.size 34 35 (ecl k ed ea en) from Row.ofList w1 _ _ _ 35 rfl)
    have HPT := Lib.hid (bput_any HW2.out hb hn k (by omega) HD.out ea en 0 h4 (by omega))
    unfold entA at HPT
    clear b1 HBE
    go_wp2_with fail
    refine HPT.out.mono ?_
    rintro e w3 ⟨rfl, hl⟩
    have HLf := Lib.hid hl
    clear hl HPT
    go_wp2_with fail
    go_ret
    exact ⟨rfl, HLf.out.after HB2.out⟩
theorem Tryz.infoSt : (Tryz.prog.info? 40).map (fun i => (i.zero, i.size, i.bytes)) = some (some (.agg #[.int .i64 0, .int .i64 0]), 2, 16) := by kernel_rfl
theorem stv_one (l : List (Int × Int)) : ∀ u ∈ stv l, u.oneCell' = true := fun u hu => by
  obtain ⟨x, _, hx⟩ := List.mem_flatMap.1 hu
  rcases List.mem_cons.1 hx with rfl | hx
  · rfl
  · rw [List.mem_singleton.1 hx]; rfl
/-- A slice of these steps in new memory. -/
def NewS (w : World) (l : List (Int × Int)) (e : Ending) (w' : World) : Prop := ∃ v, e = .returned v ∧ w'.ownsRow w.heap.size 40 2 v l.length (stv l) ∧ Below w.heap.size w w'
set_option maxRecDepth 100000 in
set_option maxHeartbeats 1000000 in
theorem cloneS_any {v : Value} {l : List (Int × Int)} {B : Nat} (h : w.ownsRow B 40 2 v l.length (stv l)) (hl : l.length ≤ 1000) : Calls Tryz.prog 112 #[v] w (NewS w l) := by
  rcases h.2 with ⟨rfl, e⟩ | ⟨g, cap, cur, rfl, _, hh, h5, h6, _, h7⟩
  · have he : l = [] := List.eq_nil_of_length_eq_zero e
    subst he
    have hnil := fun W => Lib.run_eql_slice_nil (P := Tryz.prog) W 96 40 none 0 0 0 0 Tryz.underlying96
    clear h
    go_enter Tryz.func112, Tryz.ntmps112
    go_wp2_with fail
    go_ret
    exact ⟨_, rfl, ⟨rfl, .inl ⟨rfl, rfl⟩⟩, Below.refl _ _⟩
  · have hnil := fun W => Lib.run_eql_slice_nil (P := Tryz.prog) W 96 40 (some ⟨g, 0, none⟩) l.length cap 0 0 Tryz.underlying96
    simp only [Option.isNone_some] at hnil
    have hmk : ∀ W, (Instr.buildSlice 96 0 #[]).run Tryz.prog W = .ok (.slice (some ⟨W.heap.size, 0, none⟩) 0 0) (W.alloc (.cells #[] 40)) := fun _ => by kernel_rfl
    have ho : Hid ((w.alloc (.cells #[] 40)).ownsRow w.heap.size 40 2 (.slice (some ⟨w.heap.size, 0, none⟩) 0 0) 0 []) := ⟨rfl, .inr ⟨w.heap.size, 0, #[], rfl, Nat.le_refl _, heap_alloc_new w _, Nat.le_refl _, by simp [maxLen], rfl, rfl⟩⟩
    obtain ⟨i0, hi0, hz0, hz1, hz2⟩ := info_parts Tryz.infoSt
    by_cases he : l = []
    · subst he
      have hnil0 : ∀ W, (binOp .eql 96 (.slice (some ⟨g, 0, none⟩) 0 cap) (.slice none 0 0)).run Tryz.prog W = .ok (.bool false) W := hnil
      clear hnil
      have ha : (Builtin.append_ #[96, 96] 96 #[.slice (some ⟨w.heap.size, 0, none⟩) 0 0, .slice (some ⟨g, 0, none⟩) 0 cap]).run Tryz.prog (w.alloc (.cells #[] 40)) = .ok (.slice (some ⟨w.heap.size, 0, none⟩) 0 0) (w.alloc (.cells #[] 40)) := by
        simp [Builtin.append_, run_underlying Tryz.underlying96, sizeOf, typeInfo, hi0, Builtin.lenOf, Builtin.firstCells, storeCells, loadCells, loadCellsFrom]
      clear h hh h7
      go_enter Tryz.func112, Tryz.ntmps112
      go_wp2_with fail
      go_ret
      exact ⟨_, rfl, ho.out, (Below.refl _ _).alloc (Nat.le_refl _) _⟩
    · have hpos : 0 < l.length := List.length_pos_iff.2 he
      have hlt := heap_lt hh
      have hnews : Hid (∀ j u, (stv l)[j]? = some u → (w.alloc (.cells #[] 40)).cell? ((⟨g, 0, none⟩ : Addr).add j) = some u) := fun j u hu => by
        have hj : j < l.length * 2 := by have := (List.getElem?_eq_some_iff.1 hu).1; rw [stv_len] at this; exact this
        rw [Addr.add_mid, Nat.zero_add, World.cell?_of_block (w := w) (Below.heap_alloc w _ g hlt), cell_of_row w g j cur _ (0, 0) hh]
        rw [← h7, List.getElem?_take_of_lt hj, Array.getElem?_toList] at hu
        exact hu
      have hone : Hid (∀ u ∈ stv l, u.oneCell' = true) := stv_one l
      clear he h hh h7
      go_enter Tryz.func112, Tryz.ntmps112
      go_wp2_with (at_builtin; refine wpList_append_lies _ rfl _ _ 96 rfl w.heap.size 40 i0 _ 2 16 Tryz.underlying96 hi0 hz0 hz1 hz2 (by kernel_rfl) (by omega) _ 0 [] rfl (by exact ho.out) ⟨g, 0, none⟩ l.length cap (stv l) rfl (stv_len l) (by exact hnews.out) hone.out hpos (by simp only [maxLen]; omega) (by omega) (by simp) (w.heap.size + 1) (by simp) ?_)
      intro g2 cap2 w' hown hgrow hat hlt2
      have hb : Below w.heap.size w w' := Below.grown ((Below.refl _ _).alloc (Nat.le_refl _) _) hgrow (by simp) (fun k hk => by
        have : w.heap.size = k := by simpa [Value.ownBlock] using hk
        omega)
      have HO := Lib.hid hown
      clear hown hgrow hat
      go_wp2_with fail
      go_ret
      exact ⟨_, rfl, HO.out, hb⟩
set_option maxRecDepth 100000 in
theorem blog_any (h : BW w N O M S L n b) (hl : b.log.length ≤ 1000) : Calls Tryz.prog 47 #[fptr M] w (NewS w b.log) := by
  obtain ⟨vl, c3, hv, _⟩ := h.c3
  have HC := Lib.hid (cloneS_any hv hl)
  obtain ⟨va, vc, rfl⟩ := Ms.own_len hv
  clear h hv
  go_enter Tryz.func47, Tryz.ntmps47
  go_wp2_with fail
  refine HC.out.mono ?_
  rintro e w' ⟨v', rfl, hO', hb⟩
  have HO' := Lib.hid hO'
  clear hO'
  go_wp2_with fail
  go_ret
  exact ⟨_, rfl, HO'.out, hb⟩
/-- A new manager. -/
theorem bnew_any {D DS : Nat → Prop} {X m : Nat} {y : FLay} {fl : FL} {st : ST} (hf : FW w D X y fl) (hs : SW w DS S X m n st) (hg : Ms.LG w L (Ms.regs []) (.slice none 0 0)) (hr : Ms.Rnd w) (h0 : 0 < N)
    (d1 : ∀ k, D k → ¬ DS k) (d2 : ¬ D L ∧ ¬ DS L) (dN : ∀ k, D k → N ≤ k) (sN : ∀ k, DS k → N ≤ k) (lN : N ≤ L) (hNs : N ≤ w.heap.size) :
    Calls Tryz.prog 41 #[fptr S, fptr L] w fun e w' => e = .returned (fptr w.heap.size) ∧ BW w' N (fun k => (D k ∨ DS k ∨ k = L) ∨ k = w.heap.size) w.heap.size S L n ⟨fl, st, [], [], -1, []⟩ ∧ Below w.heap.size w w' := by
  have hB : Below w.heap.size w (w.alloc (.cells #[fptr S, fptr L, .slice none 0 0, .slice none 0 0, .int .i64 (-1)] 117)) := (Below.refl _ _).alloc (Nat.le_refl _) _
  have hL : L < w.heap.size := Row.lt hg
  have HF : Hid (BW (w.alloc (.cells #[fptr S, fptr L, .slice none 0 0, .slice none 0 0, .int .i64 (-1)] 117)) N (fun k => (D k ∨ DS k ∨ k = L) ∨ k = w.heap.size) w.heap.size S L n ⟨fl, st, [], [], -1, []⟩) := by
    open Classical in
    refine ⟨fun k => if D k then 1 else if DS k then 2 else if k = L then 3 else if k = w.heap.size then 4 else 0, D, DS, X, m, y, .slice none 0 0, .slice none 0 0, .slice none 0 0, ?_⟩
    have nD : ¬ D w.heap.size := fun q => by have := hf.fin _ q; omega
    have nS : ¬ DS w.heap.size := fun q => by have := hs.fin _ q; omega
    exact {
      f := hf.below hB
      s := hs.below hB
      g := hg.alloc _
      e := ⟨rfl, .inl ⟨rfl, rfl⟩⟩
      t := Row.ofList w _ _ _ 5 rfl
      c := RdI.nil _
      l := ⟨rfl, .inl ⟨rfl, rfl⟩⟩
      rD := fun k hk => if_pos hk
      rS := fun k hk => by
        show (if D k then 1 else if DS k then 2 else if k = L then 3 else if k = w.heap.size then 4 else 0) = 2
        rw [if_neg (fun q => d1 k q hk), if_pos hk]
      rL := by
        show (if D L then 1 else if DS L then 2 else if L = L then 3 else if L = w.heap.size then 4 else 0) = 3
        rw [if_neg d2.1, if_neg d2.2, if_pos rfl]
      rE := fun k hk => (by cases hk)
      rM := by
        show (if D w.heap.size then 1 else if DS w.heap.size then 2 else if w.heap.size = L then 3 else if w.heap.size = w.heap.size then 4 else 0) = 4
        rw [if_neg nD, if_neg nS, if_neg (by omega), if_pos rfl]
      rl := fun k hk => (by cases hk)
      rC := fun k hk => (by cases hk)
      hO := fun k hk => by
        by_cases h1 : D k
        · exact .inl (.inl h1)
        · by_cases h2 : DS k
          · exact .inl (.inr (.inl h2))
          · by_cases h3 : k = L
            · exact .inl (.inr (.inr h3))
            · by_cases h4 : k = w.heap.size
              · exact .inr h4
              · have hk : (if D k then 1 else if DS k then 2 else if k = L then 3 else if k = w.heap.size then 4 else 0) ≠ 0 := hk
                rw [if_neg h1, if_neg h2, if_neg h3, if_neg h4] at hk
                exact absurd rfl hk
      oN := fun k hk => by
        have hsz : w.heap.size < (w.alloc (.cells #[fptr S, fptr L, .slice none 0 0, .slice none 0 0, .int .i64 (-1)] 117)).heap.size := by simp
        rcases hk with (q | q | q) | q
        · exact ⟨dN k q, Nat.lt_trans (hf.fin k q) hsz⟩
        · exact ⟨sN k q, Nat.lt_trans (hs.fin k q) hsz⟩
        · rw [q]; exact ⟨lN, Nat.lt_trans hL hsz⟩
        · rw [q]; exact ⟨hNs, hsz⟩
      rnd := rnd_ch hr (Ch.of_below hB (fun _ => False)) id (by omega)
      h0 := h0
      hN := Nat.le_trans hNs hB.size }
  have HB := Lib.hid hB
  clear hf hs hg hr hB
  go_enter Tryz.func41, Tryz.ntmps41
  go_wp2_with fail
  go_ret
  exact ⟨rfl, HF.out, HB.out⟩
end
end Go.Proofs.YtdinbpdpalgohaaGreatDoor
namespace Go.Proofs.YtdinbpdpalgohaaGreatDoor
open Go.RowKit
attribute [local go_sem ↓] alloc34 load34 store34 build34 build34o
attribute [local go_sem] Ms.set_new
def bootT : ByteArray := ⟨#[98, 111, 111, 116]⟩
def tryB (b : BM) (l : List ByteArray) : (Int × Int) × Int × BM := match b.cand with
  | [] => ((0, 0), 6, b)
  | x :: r =>
    if exC b.st.V x.toNat l = 0 then
      if (setB b (nmE x.toNat) (entS (exE b.st.V x).d (exE b.st.V x).a (exE b.st.V x).n ((exE b.st.V x).u + 1))).1 ≠ 0 then ((0, 0), setB b (nmE x.toNat) (entS (exE b.st.V x).d (exE b.st.V x).a (exE b.st.V x).n ((exE b.st.V x).u + 1)))
      else ((x, 0), 0, { (setB b (nmE x.toNat) (entS (exE b.st.V x).d (exE b.st.V x).a (exE b.st.V x).n ((exE b.st.V x).u + 1))).2 with cand := [], log := b.log ++ [(x, 0)], last := x, es := b.es ++ [⟨4, Ms.sumD (l.getD x.toNat ⟨#[]⟩).data.toList, bootT⟩] })
    else ((x, exC b.st.V x.toNat l), 0, { b with cand := r, log := b.log ++ [(x, exC b.st.V x.toNat l)] })
/-- What Try leaves. -/
def TR (w : World) (N : Nat) (O : Nat → Prop) (M S L n : Nat) (r : (Int × Int) × Int × BM) (e : Ending) (w' : World) : Prop := e = .returned (.tuple #[.agg #[.int .i64 r.1.1, .int .i64 r.1.2], .int .i64 r.2.1]) ∧ MLeft w w' N O M S L n r.2.2
def stp (x c : Int) (j : Nat) : Value := if j = 0 then .int .i64 x else .int .i64 c
theorem Row.two {w : World} {B t : Nat} {v : Nat → Value} (h : Row w B t 2 v) : w.heap[B]? = some (.cells #[v 0, v 1] t (0, 0)) := by
  have := h.arr
  exact this
theorem ret40 {W : World} {g : Nat} {x c : Int} (h : Row W g 40 2 (stp x c)) : (loadVar 40 ⟨g, 0, none⟩).run Tryz.prog W = .ok (.agg #[.int .i64 x, .int .i64 c]) W :=
  run_loadVar_row _ _ 40 40 _ (0, 0) _ h.two Tryz.underlying40 rfl (by kernel_rfl)
theorem exC_zero {V : Vars} {i : Nat} {l : List ByteArray} (h : exC V i l = 0) : ∃ e, entO V i = some e ∧ i < l.length ∧ (l.getD i ⟨#[]⟩).size ≠ 0 ∧ e.a = true ∧ sumS (l.getD i ⟨#[]⟩) = e.d ∧ e.d ∉ denV V ∧ e.u < e.n := by
  unfold exC at h
  rcases hO : entO V (i : Int) with _ | e
  · rw [hO] at h; cases h
  · rw [hO] at h
    simp only at h
    split at h
    · cases h
    · rename_i h1
      split at h
      · cases h
      · rename_i h2
        split at h
        · cases h
        · rename_i h3
          split at h
          · cases h
          · rename_i h4
            split at h
            · cases h
            · rename_i h5
              exact ⟨e, rfl, by omega, fun q => h1 (.inr q), by simpa using h2, Classical.byContradiction h3, h4, by omega⟩
section
variable {w w' : World} {N M S L n : Nat} {O : Nat → Prop} {b : BM} {v : Value} {l : List ByteArray}
/-- The boot log grown by an append, and stored. -/
theorem BW.pushLog {w2 : World} {u vl : Value} {l' : List (Int × Int)} (h : BW w N O M S L n b) (c3 : w.cell? ⟨M, 3, none⟩ = some vl) (hg : w.grownBy w2 vl.ownBlock) (hu : w2.ownsRow N 40 2 u l'.length (stv l')) (ho : ∀ g, u.ownBlock = some g → vl.ownBlock = some g ∨ w.heap.size ≤ g) :
    BW (w2.setCell ⟨M, 3, none⟩ u) N (fun k => O k ∨ u.ownBlock = some k) M S L n { b with log := l' } := by
  obtain ⟨R, D, DS, X, m, y, ve, vc, vl', h⟩ := h
  have e3 := h.c3
  rw [c3] at e3
  injection e3 with e3
  subst e3
  have hMlt := h.t.lt
  have hvM := h.vlM
  have huM : ∀ g, u.ownBlock = some g → g ≠ M := fun g hk e => by
    rcases ho g hk with q | q
    · exact hvM g q e
    · omega
  have cg : Ch (fun k => vl.ownBlock = some k) w w2 := Ch.of_grown hg (fun k hk _ => hk)
  have c : Ch (fun k => k = M ∨ vl.ownBlock = some k) w (w2.setCell ⟨M, 3, none⟩ u) := (cg.mono (fun i hi _ => .inr hi)).setCell (p := ⟨M, 3, none⟩) (fun _ => .inl rfl) u
  have nt : ∀ {k q}, R k = q → q ≠ 4 → ¬ (k = M ∨ vl.ownBlock = some k) := fun {k q} e1 e2 e => by
    rcases e with e | e
    · rw [e, h.rM] at e1; omega
    · rw [h.rl k e] at e1; omega
  have lt : ∀ k, R k ≠ 0 → k < w.heap.size := fun k e => (h.oN k (h.hO k e)).2
  have kp : ∀ {k q}, R k = q → q ≠ 0 → q ≠ 4 → (if u.ownBlock = some k then 4 else R k) = q := fun {k q} e1 e2 e3 => by
    rw [if_neg (fun e => by
      rcases ho k e with q' | q'
      · rw [h.rl k q'] at e1; omega
      · have := lt k (by omega); omega)]
    exact e1
  have h0 := h.h0
  have hs : 0 < w.heap.size := Nat.lt_of_lt_of_le h.h0 h.hN
  have hM := h.oN M (h.hO M (by rw [h.rM]; omega))
  refine ⟨fun k => if u.ownBlock = some k then 4 else R k, D, DS, X, m, y, ve, vc, u, ?_⟩
  exact {
    f := h.f.ch c (fun k hk => nt (h.rD k hk) (by omega))
    s := h.s.ch c (fun k hk => nt (h.rS k hk) (by omega))
    g := Row.ch h.g c (nt h.rL (by omega))
    e := ownN_ch h.e c (fun k hk => nt (h.rE k hk) (by omega))
    t := ((h.t.ch cg (fun q => hvM M q rfl)).set (i := 3) (by omega) u).congr (mgv_3 _ _ _ _ _ _)
    c := h.c.ch c (fun k hk => nt (h.rC k hk) (by omega))
    l := ownN_ch hu ((Ch.refl (fun k => k = M) w2).setCell (p := ⟨M, 3, none⟩) (fun _ => rfl) u) (fun k hk q => huM k hk q)
    rD := fun k hk => kp (h.rD k hk) (by omega) (by omega)
    rS := fun k hk => kp (h.rS k hk) (by omega) (by omega)
    rL := kp h.rL (by omega) (by omega)
    rE := fun k hk => kp (h.rE k hk) (by omega) (by omega)
    rM := by
      show (if u.ownBlock = some M then 4 else R M) = 4
      split
      · rfl
      · exact h.rM
    rl := fun k hk => if_pos hk
    rC := fun k hk => kp (h.rC k hk) (by omega) (by omega)
    hO := fun k hk => by
      by_cases e : u.ownBlock = some k
      · exact .inr e
      · have hk : (if u.ownBlock = some k then 4 else R k) ≠ 0 := hk
        rw [if_neg e] at hk
        exact .inl (h.hO k hk)
    oN := fun k hk => by
      rcases hk with hk | hk
      · exact ⟨(h.oN k hk).1, Nat.lt_of_lt_of_le (h.oN k hk).2 c.size⟩
      · obtain ⟨q1, q2⟩ := ownN_rg hu hk
        exact ⟨q2, Nat.lt_of_lt_of_le q1.lt (by simp [World.setCell])⟩
    rnd := rnd_ch h.rnd c (fun q => by
      rcases q with q | q
      · omega
      · have := (h.oN 0 (h.hO 0 (by rw [h.rl 0 q]; omega))).1; omega) hs
    h0 := h0
    hN := Nat.le_trans h.hN c.size }
set_option maxRecDepth 100000 in
set_option maxHeartbeats 4000000 in
theorem try_any (h : BW w N O M S L n b) (hb : b.st.blk < b.fl.B) (hn : n < 1000) (hc : ∀ x ∈ b.cand, isId x = true) (hes : b.es.length < 256) (hlg : b.log.length ≤ 1000) (hv : RdT w v l) (hvO : ∀ g, v.ownBlock = some g → ¬ O g) (hs : ∀ x ∈ l, x.size ≤ 1073741824) :
    Calls Tryz.prog 17 #[fptr M, v] w (TR w N O M S L (n + 1) (tryB b l)) := by
  obtain ⟨r, hr⟩ : ∃ r, tryB b l = r := ⟨_, rfl⟩
  have HRE := Lib.hid hr
  rw [hr]
  clear hr
  unfold tryB at HRE
  have HB0 : Hid (Below w.heap.size w (w.alloc (.cells #[.int .i64 0, .int .i64 0] 40))) := (Below.refl _ _).alloc (Nat.le_refl _) _
  have HR0 : Hid (Row (w.alloc (.cells #[.int .i64 0, .int .i64 0] 40)) w.heap.size 40 2 (stp 0 0)) := Row.ofList w _ _ _ 2 rfl
  have HWW := Lib.hid h
  have HW0 := Lib.hid (h.below HB0.out)
  obtain ⟨vc, c2, hvc, hvcO⟩ := HW0.out.c2
  have HVC := Lib.hid hvc
  have HVCO := Lib.hid hvcO
  obtain ⟨E, hE⟩ : ∃ E, w.heap.size = E := ⟨_, rfl⟩
  have HE := Lib.hid hE
  have HnE : Hid (¬ O E) := fun q => by have := (h.oN E q).2; omega
  rw [hE] at HR0
  have hsz : E < (w.alloc (.cells #[.int .i64 0, .int .i64 0] 40)).heap.size := HR0.out.lt
  clear h hvc hvcO hE
  rcases hcd : b.cand with _ | ⟨x, cr⟩
  · rw [hcd] at HVC HRE
    have e0 : r = ((0, 0), 6, b) := HRE.out.symm
    subst e0
    obtain ⟨a, c, rfl, h1, h2⟩ := HVC.out.shape
    clear hcd HRE
    go_enter Tryz.func17, Tryz.ntmps17
    go_wp2_with fail
    rw [HE.out]
    go_wp2_with fail
    exact bodyPost_ret (v := .tuple #[.agg #[.int .i64 0, .int .i64 0], .int .i64 6]) (res2 rfl _ _ E #[.int .i64 0, .int .i64 0] _ rfl rfl (ret40 HR0.out)) rfl ⟨rfl, MLeft.same (HW0.out.mono (Nat.le_succ _)) (Ch.of_below HB0.out _)⟩
  · rw [hcd] at HVC HRE
    obtain ⟨g, o, c, rfl, h1, h2, hx, hgl, hrt⟩ := HVC.out.tail
    have HRT := Lib.hid hrt
    have hid : isId x = true := hc x (by rw [hcd]; exact List.mem_cons_self ..)
    have hii := isId_iff.1 hid
    obtain ⟨k, rfl⟩ : ∃ k : Nat, x = (k : Int) := ⟨x.toNat, by omega⟩
    have hk : k < 16 := by omega
    have hkt : ((k : Int)).toNat = k := rfl
    have hex := examine_any HW0.out k (hv.below HB0.out) hs
    simp only [hkt] at HRE
    have HZ : Hid (exC b.st.V k l = 0 → (exE b.st.V (k : Int)).i = k ∧ (exE b.st.V (k : Int)).d.length = 32 ∧ (exE b.st.V (k : Int)).n ≤ 255 ∧ (exE b.st.V (k : Int)).u < (exE b.st.V (k : Int)).n ∧ k < l.length) := fun q => by
      obtain ⟨e, q1, q2, _, _, _, _, q3⟩ := exC_zero q
      have q4 := entO_some q1
      unfold exE
      rw [q1]
      exact ⟨q4.1, q4.2.2.1, q4.2.2.2.1, q3, q2⟩
    obtain ⟨ce, hce⟩ : ∃ c, exC b.st.V k l = c := ⟨_, rfl⟩
    obtain ⟨en, hen⟩ : ∃ e, exE b.st.V (k : Int) = e := ⟨_, rfl⟩
    rw [hce, hen] at hex HRE HZ
    obtain ⟨ei, ed, ea, en', eu, rfl⟩ : ∃ a b c d e, en = ⟨a, b, c, d, e⟩ := ⟨en.i, en.d, en.a, en.n, en.u, rfl⟩
    have hev : enV ⟨ei, ed, ea, en', eu⟩ = .agg (Ms.arr 35 (ecl ei ed ea en')) := rfl
    rw [hev] at hex
    have HEX := Lib.hid hex
    have hst9 := fun (W : World) => st34 (nE_row W) ei ed ea en'
    have HVT := Lib.hid (hv.below HB0.out)
    obtain ⟨va0, vc0, rfl, hva1, hva2⟩ := hv.shape
    have HS := Lib.hid hs
    have HVO := Lib.hid hvO
    simp only at HRE HZ
    clear hcd hce hen hex hev hid hii hkt hc hv hs hvO hrt
    go_enter Tryz.func17, Tryz.ntmps17
    go_wp2_with fail
    rw [HE.out]
    have hM0 : M < (w.alloc (.cells #[.int .i64 0, .int .i64 0] 40)).heap.size := HW0.out.M_lt
    generalize w.alloc (.cells #[.int .i64 0, .int .i64 0] 40) = W0 at *
    refine HEX.out.mono ?_
    rintro e w1 ⟨rfl, b1⟩
    have HB2 : Hid (Below W0.heap.size W0 (w1.alloc (.cells (Ms.arr 35 (ecl ei ed ea en')) 34))) := b1.alloc b1.size _
    have HR9 : Hid (Row (w1.alloc (.cells (Ms.arr 35 (ecl ei ed ea en')) 34)) w1.heap.size 34 35 (ecl ei ed ea en')) := Row.ofList w1 _ _ _ 35 rfl
    clear b1 HEX
    go_upto_if 34 with fail
    clear hst9
    generalize w1.heap.size = E9 at *
    generalize w1.alloc (.cells (Ms.arr 35 (ecl ei ed ea en')) 34) = W2 at *
    have HBw : Hid (Below w.heap.size w W2) := HB0.out.trans (HB2.out.mono HB0.out.size)
    have HW2 := Lib.hid (HWW.out.below HBw.out)
    have HR2 := Lib.hid (HR0.out.ch (Ch.of_below HB2.out (fun _ => False)) id)
    have HV2 := Lib.hid (HVT.out.below HB2.out)
    have HRT2 := Lib.hid (HRT.out.below HB2.out)
    have c22 : W2.cell? ⟨M, 2, none⟩ = some (.slice (some ⟨g, o, none⟩) (cr.length + 1) c) := (HB2.out.cell (p := ⟨M, 2, none⟩) hM0).trans c2
    clear hM0 c2 HB2 HR0 HVT HRT HW0
    by_cases hc0 : ce = 0
    · subst hc0
      obtain ⟨hi1, hd32, hn255, hun, hkl⟩ := HZ.out rfl
      subst hi1
      obtain ⟨er, f1, s1, hsp⟩ : ∃ er f s, setB b (nmE k) (entS ed ea en' (eu + 1)) = (er, { b with fl := f, st := s }) := ⟨_, _, _, rfl⟩
      have hld := ld34 HR9.out
      have hwu : IntKind.i64.wrap ((eu : Int) + 1) = ((eu + 1 : Nat) : Int) := by rw [IntWalk.i64_in _ ⟨by omega, by omega⟩]; rfl
      have HPT := Lib.hid (bput_any HW2.out hb hn k (by omega) hd32 ea en' (eu + 1) hn255 (by omega))
      unfold entA at HPT
      rw [hsp] at HPT
      have HR5 : Hid (r = if er ≠ 0 then ((0, 0), er, { b with fl := f1, st := s1 }) else (((k : Int), 0), 0, { b with fl := f1, st := s1, cand := [], log := b.log ++ [((k : Int), 0)], last := (k : Int), es := b.es ++ [⟨4, Ms.sumD (l.getD k ⟨#[]⟩).data.toList, bootT⟩] })) := by
        show _ = _
        rw [← HRE.out, if_pos rfl, hsp]
      clear HRE HZ hsp hd32 hn255 HRT2 c22
      go_wp2_with fail
      refine HPT.out.mono ?_
      rintro e w3 ⟨rfl, hl⟩
      obtain ⟨O1, q0, q2, q3⟩ := hl
      have HQ0 := Lib.hid q0
      have HQ2 := Lib.hid q2
      have HQ3 := Lib.hid q3
      have hEW2 : E < W2.heap.size := HR2.out.lt
      have HR3 := Lib.hid (HR2.out.ch q3 HnE.out)
      have HV3 := Lib.hid (HV2.out.ch q3 HVO.out)
      have HnE1 : Hid (¬ O1 E) := fun q => (q0 E q).elim HnE.out (fun q => by omega)
      clear q0 q2 q3 HPT hld
      by_cases he0 : er = 0
      · subst he0
        obtain ⟨gi, oi, ci, e, _, _, hgi, hci⟩ := HV3.out.cellAt hkl
        injection e with e1 _ e3
        subst e1 e3
        have hgw : gi < W2.heap.size := by obtain ⟨_, _, e, _, _, h3, _⟩ := HV2.out; exact h3 gi rfl
        have HnG : Hid (¬ O1 gi) := fun q => (HQ0.out gi q).elim (HVO.out gi rfl) (fun q => by omega)
        have hgd : l.getD k ⟨#[]⟩ = l[k] := by rw [List.getD_eq_getElem?_getD, List.getElem?_eq_getElem hkl]; rfl
        have HSZ := Lib.hid (HS.out _ (List.getElem_mem hkl))
        have e0 := HR5.out
        rw [if_neg (by simp), hgd] at e0
        subst e0
        clear HR5 hgd
        generalize l[k] = img at *
        have HMS : Hid (Calls Tryz.prog 60 #[fptr L, .int .i64 4, .string ⟨#[98, 111, 111, 116]⟩, .string img] w3.drew fun e w' => e = .returned (.int .i64 0) ∧ MLeft w3.drew w' N O1 M S L (n + 1) { b with fl := f1, st := s1, es := b.es ++ [⟨4, Ms.sumD img.data.toList, bootT⟩] }) := HQ2.out.drew.measure 4 bootT img (by omega) (by decide) hes HSZ.out
        have S1 : Hid (w3.drew.cell? ⟨M, 1, none⟩ = some (fptr L) ∧ w3.drew.cell? ⟨gi, oi + k, none⟩ = some (.string img)) := ⟨HQ2.out.c1, hci⟩
        clear hci
        go_wp2_with fail
        refine wp_region_pl (fun Y => Y.cell? ⟨M, 1, none⟩ = some (fptr L) ∧ Y.cell? ⟨gi, oi + k, none⟩ = some (.string img)) ((0, 0) :: (1, 0) :: (2, 0) :: (3, 0) :: (4, 0) :: (5, 0) :: (6, 0) :: (7, 0) :: (8, 1) :: []) (by kernel_rfl) (by kernel_rfl) ?_
        iterate 8 (apply wpP_go; (focus rfl); (focus rfl); (focus exact S1.out); (focus (rintro Y ⟨s0, s2⟩; go_simp; exact rfl)); intro K hK; go_simp; refine hK _ ?_; clear hK K)
        apply wpP_one
        focus rfl
        intro K hK
        go_simp
        refine HMS.out.mono ?_
        rintro e w4 ⟨rfl, hl⟩
        obtain ⟨O2, p0, p2, p3⟩ := hl
        have S3 : Hid (w4.cell? ⟨M, 1, none⟩ = some (fptr L) ∧ w4.cell? ⟨gi, oi + k, none⟩ = some (.string img)) := ⟨p2.c1, (p3.cell ⟨gi, oi + k, none⟩ hgi HnG.out).trans S1.out.2⟩
        refine hK _ _ S3.out ?_
        clear hK K
        refine wpP_done ?_
        have f4 := p2.frz 4
        have c4 := p2.c4
        have hP1 := p2.setLast (k : Int)
        have f2 := hP1.frz 2
        obtain ⟨vc2, c2, _⟩ := hP1.c2
        have HWt := Lib.hid (hP1.setCand (u := .slice none 0 0) (l' := []) (RdI.nil _) (fun _ _ _ h => (by cases h)))
        have hOM : O M := HWW.out.OM
        have HRt : Hid (Row ((w4.setCell ⟨M, 4, none⟩ (.int .i64 (k : Int))).setCell ⟨M, 2, none⟩ (.slice none 0 0)) E 40 2 (stp 0 0)) := (((show Row w3.drew _ _ _ _ from HR3.out).ch p3 HnE1.out).far (fun q => HnE.out (by rw [q]; exact hOM)) _).far (fun q => HnE.out (by rw [q]; exact hOM)) _
        have HCt : Hid (Ch O w ((w4.setCell ⟨M, 4, none⟩ (.int .i64 (k : Int))).setCell ⟨M, 2, none⟩ (.slice none 0 0))) := ((((Ch.of_below HBw.out O).trans HQ3.out).drew.andThen p3 (fun i hi hl => (HQ0.out i hi).elim id (fun q => by have := HBw.out.size; omega))).setCell (p := ⟨M, 4, none⟩) (fun _ => hOM) _).setCell (p := ⟨M, 2, none⟩) (fun _ => hOM) _
        have HOt : Hid (∀ q, O2 q → O q ∨ w.heap.size ≤ q) := fun q hq => by
          rcases p0 q hq with h | h
          · exact (HQ0.out q h).imp id (fun q => Nat.le_trans HBw.out.size q)
          · right
            have h1 := HBw.out.size
            have h2 := HQ3.out.size
            have h : w3.heap.size ≤ q := h
            omega
        have HnT : Hid (¬ O2 E) := fun q => (p0 E q).elim HnE1.out (fun q => by
          have h2 := HQ3.out.size
          have q : w3.heap.size ≤ E := q
          omega)
        clear S1 S3 HMS p0 p2 p3 hP1 HnG HQ0 HQ2 HQ3 HV3 HV2 HR3 HSZ
        go_upto_region 13 with fail
        clear f4 c4 f2 c2 HW2 HR2 HBw
        generalize (w4.setCell ⟨M, 4, none⟩ (.int .i64 (k : Int))).setCell ⟨M, 2, none⟩ (.slice none 0 0) = Wt at *
        have hEW : E < Wt.heap.size := HRt.out.lt
        have HB11 : Hid (Below Wt.heap.size Wt (Wt.alloc (.cells #[.int .i64 (k : Int), .int .i64 0] 40))) := (Below.refl _ _).alloc (Nat.le_refl _) _
        have HW11 := Lib.hid (HWt.out.below HB11.out)
        have HR11 : Hid (Row (Wt.alloc (.cells #[.int .i64 (k : Int), .int .i64 0] 40)) Wt.heap.size 40 2 (stp (k : Int) 0)) := Row.ofList Wt _ _ _ 2 rfl
        have HRE11 : Hid (Row (Wt.alloc (.cells #[.int .i64 (k : Int), .int .i64 0] 40)) E 40 2 (stp 0 0)) := HRt.out.alloc _
        have HCt11 : Hid (Ch O w (Wt.alloc (.cells #[.int .i64 (k : Int), .int .i64 0] 40))) := HCt.out.alloc _
        obtain ⟨i0, hi0, hz0, hz1, hz2⟩ := info_parts Tryz.infoSt
        have HTO : Hid (¬ O2 Wt.heap.size) := fun q => by have := (HWt.out.oN _ q).2; omega
        have hET : E ≠ Wt.heap.size := by omega
        have HTE : Hid (w.heap.size ≤ Wt.heap.size) := HCt.out.size
        clear HRt HWt HB11 HCt
        go_wp2_with fail
        generalize Wt.heap.size = T at *
        generalize (Wt.alloc (.cells #[.int .i64 (k : Int), .int .i64 0] 40)) = W1 at *
        obtain ⟨vl, c3, hvl, hvlO⟩ : ∃ vl, W1.cell? ⟨M, 3, none⟩ = some vl ∧ W1.ownsRow N 40 2 vl b.log.length (stv b.log) ∧ ∀ k, vl.ownBlock = some k → O2 k ∧ k ≠ M := HW11.out.c3
        obtain ⟨va, vcap, rfl⟩ := Ms.own_len hvl
        obtain ⟨ll, hll⟩ : ∃ n, b.log.length = n := ⟨_, rfl⟩
        have HLL := Lib.hid hll
        have hll2 : ll ≤ 1000 := by rw [← hll]; exact hlg
        have HVL := Lib.hid hvl
        rw [hll] at c3 hvlO HVL
        have HVLO := Lib.hid hvlO
        have f3 := HW11.out.frz 3
        clear hvl hvlO hll
        have S1 : Hid (W1.drew.cell? ⟨M, 3, none⟩ = some (.slice va ll vcap) ∧ W1.drew.cell? ⟨T, 0, none⟩ = some (.int .i64 (k : Int)) ∧ W1.drew.cell? ⟨T, 1, none⟩ = some (.int .i64 0)) := ⟨c3, HR11.out.cell (i := 0) (by omega), HR11.out.cell (i := 1) (by omega)⟩
        refine wp_region_pl (fun Y => Y.cell? ⟨M, 3, none⟩ = some (.slice va ll vcap) ∧ Y.cell? ⟨T, 0, none⟩ = some (.int .i64 (k : Int)) ∧ Y.cell? ⟨T, 1, none⟩ = some (.int .i64 0)) ((0, 0) :: (1, 0) :: (2, 0) :: (3, 0) :: (4, 0) :: (5, 0) :: (6, 1) :: (7, 1) :: (8, 1) :: (9, 1) :: (10, 2) :: []) (by kernel_rfl) (by kernel_rfl) ?_
        iterate 6 (apply wpP_go; (focus rfl); (focus rfl); (focus exact S1.out); (focus (rintro Y ⟨s0, s1, s2⟩; go_simp; exact rfl)); intro K hK; go_simp; refine hK _ ?_; clear hK K)
        have HNl : Hid (N ≤ w.heap.size) := HWW.out.N_le
        have HOO : Hid (∀ k, O2 k → k < W1.heap.size) := fun q hq => (HW11.out.oN q hq).2
        have HMlt : Hid (M < W1.heap.size) := HW11.out.M_lt
        have HTlt : Hid (T < W1.heap.size) := HR11.out.lt
        have S2 : Hid ((W1.alloc (.cells #[.int .i64 (k : Int), .int .i64 0] 40)).drew.cell? ⟨M, 3, none⟩ = some (.slice va ll vcap) ∧ (W1.alloc (.cells #[.int .i64 (k : Int), .int .i64 0] 40)).drew.cell? ⟨T, 0, none⟩ = some (.int .i64 (k : Int)) ∧ (W1.alloc (.cells #[.int .i64 (k : Int), .int .i64 0] 40)).drew.cell? ⟨T, 1, none⟩ = some (.int .i64 0)) := by
          have q : Ch (fun _ => False) W1 (W1.alloc (.cells #[.int .i64 (k : Int), .int .i64 0] 40)).drew := ((Ch.refl _ _).alloc _).drew
          exact ⟨(q.cell ⟨M, 3, none⟩ HMlt.out id).trans S1.out.1, (q.cell ⟨T, 0, none⟩ HTlt.out id).trans S1.out.2.1, (q.cell ⟨T, 1, none⟩ HTlt.out id).trans S1.out.2.2⟩
        have HB12 : Hid (Below W1.heap.size W1 (W1.alloc (.cells #[.int .i64 (k : Int), .int .i64 0] 40)).drew) := ((Below.refl _ _).alloc (Nat.le_refl _) _).drew
        have HV12 : Hid ((W1.alloc (.cells #[.int .i64 (k : Int), .int .i64 0] 40)).drew.ownsRow N 40 2 (.slice va ll vcap) ll (stv b.log)) := ownN_ch HVL.out ((Ch.refl (fun _ => False) W1).alloc _).drew (fun _ _ h => h)
        have HN12 : Hid (∀ j u, ([.int .i64 (k : Int), .int .i64 0] : List Value)[j]? = some u → (W1.alloc (.cells #[.int .i64 (k : Int), .int .i64 0] 40)).drew.cell? ((⟨W1.heap.size, 0, none⟩ : Addr).add j) = some u) := World.news_of_block (heap_alloc_new W1 _) |> fun h => h
        have HON : Hid (∀ u ∈ ([.int .i64 (k : Int), .int .i64 0] : List Value), u.oneCell' = true) := fun u hu => by
          rcases List.mem_cons.1 hu with rfl | hu
          · rfl
          · rw [List.mem_singleton.1 hu]; rfl
        apply wpP_one
        focus rfl
        intro K hK
        go_simp
        refine hK _ _ S2.out ?_
        clear hK K
        apply wpP_one
        focus rfl
        intro K hK
        refine step_append_lies _ (by rfl) _ _ _ (by rfl) N 40 i0 _ 2 16 Tryz.underlying96 hi0 hz0 hz1 hz2 (by kernel_rfl) (by omega) (.slice va ll vcap) ll (stv b.log) (by rfl) HV12.out
          ⟨W1.heap.size, 0, none⟩ 1 1 ([.int .i64 (k : Int), .int .i64 0] : List Value) (by rfl) (by rfl) HN12.out HON.out (by omega) (by simp only [maxLen]; omega) (by omega) (by simp; have := HNl.out; have := HTE.out; have := HTlt.out; omega) (W1.heap.size + 1) (by simp) ?_
        intro g2 cap2 w5 hown5 hgrow5 hat5 hlt5
        have hc5 : Ch (fun q => (Value.slice va ll vcap).ownBlock = some q) W1 w5 := (((Ch.refl (fun q => (Value.slice va ll vcap).ownBlock = some q) W1).alloc (.cells #[.int .i64 (k : Int), .int .i64 0] 40)).drew).trans (Ch.of_grown hgrow5 (fun q hq _ => hq))
        have hvT : ¬ (Value.slice va ll vcap).ownBlock = some T := fun q => HTO.out (HVLO.out T q).1
        have hvE : ¬ (Value.slice va ll vcap).ownBlock = some E := fun q => HnT.out (HVLO.out E q).1
        have hvM : ¬ (Value.slice va ll vcap).ownBlock = some M := fun q => (HVLO.out M q).2 rfl
        have S5 : Hid (w5.cell? ⟨M, 3, none⟩ = some (.slice va ll vcap) ∧ w5.cell? ⟨T, 0, none⟩ = some (.int .i64 (k : Int)) ∧ w5.cell? ⟨T, 1, none⟩ = some (.int .i64 0)) :=
          ⟨(hc5.cell ⟨M, 3, none⟩ HMlt.out hvM).trans S1.out.1, (hc5.cell ⟨T, 0, none⟩ HTlt.out hvT).trans S1.out.2.1, (hc5.cell ⟨T, 1, none⟩ HTlt.out hvT).trans S1.out.2.2⟩
        have f35 : w5.frozen? ⟨M, 3, none⟩ = false := (hc5.frozen ⟨M, 3, none⟩ HMlt.out hvM).trans f3
        have HW12 := HW11.out.below HB12.out
        have HU : Hid (∀ q, (Value.slice (some ⟨g2, 0, none⟩) (ll + 1) cap2).ownBlock = some q → O2 q ∨ W1.heap.size ≤ q) := fun q hq => by
          have e : g2 = q := by simpa [Value.ownBlock] using hq
          rw [← e]
          rcases hat5 with h | h
          · exact .inl (HVLO.out g2 h).1
          · exact .inr (by omega)
        have HP := Lib.hid (HW12.pushLog (u := .slice (some ⟨g2, 0, none⟩) (ll + 1) cap2) (l' := b.log ++ [((k : Int), 0)]) S2.out.1 hgrow5 (by rw [stv_snoc, List.length_append, HLL.out]; exact hown5) (fun q hq => by
          have e : g2 = q := by simpa [Value.ownBlock] using hq
          rw [← e]
          rcases hat5 with h | h
          · exact .inl h
          · exact .inr (by rw [h]; simp)))
        have HR6 : Hid (Row (w5.setCell ⟨M, 3, none⟩ (.slice (some ⟨g2, 0, none⟩) (ll + 1) cap2)) E 40 2 (stp 0 0)) := (HRE11.out.ch hc5 hvE).far (fun q => HnE.out (by rw [q]; exact HWW.out.OM)) _
        have HT6 : Hid (Row (w5.setCell ⟨M, 3, none⟩ (.slice (some ⟨g2, 0, none⟩) (ll + 1) cap2)) T 40 2 (stp (k : Int) 0)) := (HR11.out.ch hc5 hvT).far (fun q => by
          have h1 := HTE.out
          have h2 := (HWW.out.oN M HWW.out.OM).2
          have h3 : T = M := q
          omega) _
        have HC6 : Hid (Ch O w (w5.setCell ⟨M, 3, none⟩ (.slice (some ⟨g2, 0, none⟩) (ll + 1) cap2))) := (HCt11.out.andThen hc5 (fun i hi hl => (HOt.out i (HVLO.out i hi).1).elim id (fun q => by omega))).setCell (p := ⟨M, 3, none⟩) (fun _ => HWW.out.OM) _
        go_simp
        refine hK _ _ S5.out ?_
        clear hK K
        iterate 2 (apply wpP_one; (focus rfl); intro K hK; go_simp; refine hK _ _ S5.out ?_; clear hK K)
        have c35 := S5.out.1
        apply wpP_two
        focus rfl
        intro K hK
        go_simp
        refine hK _ _ ?_
        clear hK K
        refine wpP_done ?_
        clear S1 S2 S5 f35 f3 c35 c3 HW12 HB12 HV12 HN12 HON hown5 hgrow5 hat5 hlt5 hc5 hvT hvE hvM HRE11 HR11 HCt11 HW11 HVL HVLO
        generalize w5.setCell ⟨M, 3, none⟩ (.slice (some ⟨g2, 0, none⟩) (ll + 1) cap2) = W6 at *
        have t0 : W6.cell? ⟨T, 0, none⟩ = some (.int .i64 (k : Int)) := HT6.out.cell (i := 0) (by omega)
        have t1 : W6.cell? ⟨T, 1, none⟩ = some (.int .i64 0) := HT6.out.cell (i := 1) (by omega)
        have z0 : W6.cell? ⟨E, 0, none⟩ = some (.int .i64 0) := HR6.out.cell (i := 0) (by omega)
        have z1 : W6.cell? ⟨E, 1, none⟩ = some (.int .i64 0) := HR6.out.cell (i := 1) (by omega)
        have fz0 := HR6.out.frozen 0
        have fz1 := HR6.out.frozen 1
        have HRF := Lib.hid (((HR6.out.set (i := 0) (by omega) (.int .i64 (k : Int))).set (i := 1) (by omega) (.int .i64 0)).congr (v' := stp (k : Int) 0) (fun j hj => by
          rcases (by omega : j = 0 ∨ j = 1) with e | e <;> subst e <;> rfl))
        have HCF : Hid (Ch O w ((W6.setCell ⟨E, 0, none⟩ (.int .i64 (k : Int))).setCell ⟨E, 1, none⟩ (.int .i64 0))) := (HC6.out.setCell (p := ⟨E, 0, none⟩) (fun q => by have h1 : E < w.heap.size := q; have := HE.out; omega) _).setCell (p := ⟨E, 1, none⟩) (fun q => by have h1 : E < w.heap.size := q; have := HE.out; omega) _
        have HPF := Lib.hid (HP.out.ch (((Ch.refl (fun q => q = E) W6).setCell (p := ⟨E, 0, none⟩) (fun _ => rfl) (.int .i64 (k : Int))).setCell (p := ⟨E, 1, none⟩) (fun _ => rfl) (.int .i64 0)) (fun q hq => by
          subst hq
          refine ⟨fun h => ?_, by have := HWW.out.pos; have := HE.out; omega⟩
          rcases h with h | h
          · exact HnT.out h
          · rcases HU.out _ h with h | h
            · exact HnT.out h
            · have := HE.out; have := HTE.out; have := HTlt.out; omega))
        have HOF : Hid (∀ q, (O2 q ∨ (Value.slice (some ⟨g2, 0, none⟩) (ll + 1) cap2).ownBlock = some q) → O q ∨ w.heap.size ≤ q) := fun q hq => by
          rcases hq with h | h
          · exact HOt.out q h
          · rcases HU.out q h with h | h
            · exact HOt.out q h
            · right
              have := HTE.out; have := HTlt.out; omega
        go_wp2_with fail
        exact bodyPost_ret (v := .tuple #[.agg #[.int .i64 (k : Int), .int .i64 0], .int .i64 0]) (res2 rfl _ _ E #[.int .i64 (k : Int), .int .i64 0] _ rfl rfl (ret40 HRF.out)) rfl ⟨rfl, _, HOF.out, HPF.out, HCF.out⟩
      · have heb : (er != 0) = true := by rw [bne_iff_ne]; exact he0
        have e0 := HR5.out
        rw [if_pos he0] at e0
        subst e0
        have z0 : w3.cell? ⟨E, 0, none⟩ = some (.int .i64 0) := HR3.out.cell (i := 0) (by omega)
        have z1 : w3.cell? ⟨E, 1, none⟩ = some (.int .i64 0) := HR3.out.cell (i := 1) (by omega)
        have fz0 := HR3.out.frozen 0
        have fz1 := HR3.out.frozen 1
        have HRF := Lib.hid (((HR3.out.set (i := 0) (by omega) (.int .i64 0)).set (i := 1) (by omega) (.int .i64 0)).congr (v' := stp 0 0) (fun j hj => by
          rcases (by omega : j = 0 ∨ j = 1) with e | e <;> subst e <;> rfl))
        have HCF : Hid (Ch O w ((w3.setCell ⟨E, 0, none⟩ (.int .i64 0)).setCell ⟨E, 1, none⟩ (.int .i64 0))) := (((Ch.of_below HBw.out O).trans HQ3.out).setCell (p := ⟨E, 0, none⟩) (fun q => by have h1 : E < w.heap.size := q; have := HE.out; omega) _).setCell (p := ⟨E, 1, none⟩) (fun q => by have h1 : E < w.heap.size := q; have := HE.out; omega) _
        have HPF := Lib.hid (HQ2.out.ch (((Ch.refl (fun q => q = E) w3).setCell (p := ⟨E, 0, none⟩) (fun _ => rfl) (.int .i64 0)).setCell (p := ⟨E, 1, none⟩) (fun _ => rfl) (.int .i64 0)) (fun q hq => by
          subst hq
          exact ⟨HnE1.out, by have := HWW.out.pos; have := HE.out; omega⟩))
        have HOF : Hid (∀ q, O1 q → O q ∨ w.heap.size ≤ q) := fun q hq => (HQ0.out q hq).imp id (fun q => Nat.le_trans HBw.out.size q)
        clear HR5
        go_wp2_with fail
        exact bodyPost_ret (v := .tuple #[.agg #[.int .i64 0, .int .i64 0], .int .i64 er]) (res2 rfl _ _ E #[.int .i64 0, .int .i64 0] _ rfl rfl (ret40 HRF.out)) rfl ⟨rfl, _, HOF.out, HPF.out, HCF.out⟩
    · have hcb : (ce == 0) = false := by simpa using hc0
      have e0 : r = (((k : Int), ce), 0, { b with cand := cr, log := b.log ++ [((k : Int), ce)] }) := by rw [← HRE.out, if_neg hc0]
      subst e0
      have f2 := HW2.out.frz 2
      obtain ⟨o2, d2, hA, hB, hR⟩ : ∃ o2 d2, (c = 1 → o2 = o ∧ d2 = 0) ∧ (c ≠ 1 → o2 = o + 1 ∧ d2 = c - 1) ∧ RdI W2 (.slice (some ⟨g, o2, none⟩) cr.length d2) cr := by
        by_cases h : c = 1
        · have hcr : cr = [] := List.eq_nil_of_length_eq_zero (by omega)
          subst hcr
          refine ⟨o, 0, fun _ => ⟨rfl, rfl⟩, fun q => absurd h q, _, _, rfl, Nat.le_refl _, by unfold maxLen; omega, fun q hq => ?_, fun q => absurd rfl q⟩
          obtain ⟨_, _, _, _, _, h3, _⟩ := HRT2.out
          exact h3 q hq
        · exact ⟨o + 1, c - 1, fun q => absurd q h, fun _ => ⟨rfl, rfl⟩, HRT2.out⟩
      have hnt := HW2.out.setCand (u := .slice (some ⟨g, o2, none⟩) cr.length d2) hR (fun vc hvc g' hg' => by
        rw [c22] at hvc
        injection hvc with hvc
        rw [← hvc]
        exact hg')
      have HWt := Lib.hid (hnt.mono (Nat.le_succ n))
      have HRt : Hid (Row (W2.setCell ⟨M, 2, none⟩ (.slice (some ⟨g, o2, none⟩) cr.length d2)) E 40 2 (stp 0 0)) := HR2.out.far (by
        intro q
        exact HnE.out (by rw [q]; exact HWW.out.OM)) _
      have HCt : Hid (Ch O w (W2.setCell ⟨M, 2, none⟩ (.slice (some ⟨g, o2, none⟩) cr.length d2))) := (Ch.of_below HBw.out O).setCell (p := ⟨M, 2, none⟩) (fun _ => HWW.out.OM) _
      have HOt : Hid (∀ q, O q → O q ∨ w.heap.size ≤ q) := fun q hq => .inl hq
      have HnT := HnE
      clear hnt HRE HZ HRT2 HV2 hR
      by_cases h : c = 1
      · obtain ⟨rfl, rfl⟩ := hA h
        subst h
        have hcr : cr = [] := List.eq_nil_of_length_eq_zero (by omega)
        subst hcr
        clear hA hB
        go_upto_region 13 with fail
        clear f2 c22 HW2 HR2 HBw
        generalize W2.setCell ⟨M, 2, none⟩ (.slice (some ⟨g, o2, none⟩) 0 0) = Wt at *
        have hEW : E < Wt.heap.size := HRt.out.lt
        have HB11 : Hid (Below Wt.heap.size Wt (Wt.alloc (.cells #[.int .i64 (k : Int), .int .i64 ce] 40))) := (Below.refl _ _).alloc (Nat.le_refl _) _
        have HW11 := Lib.hid (HWt.out.below HB11.out)
        have HR11 : Hid (Row (Wt.alloc (.cells #[.int .i64 (k : Int), .int .i64 ce] 40)) Wt.heap.size 40 2 (stp (k : Int) ce)) := Row.ofList Wt _ _ _ 2 rfl
        have HRE11 : Hid (Row (Wt.alloc (.cells #[.int .i64 (k : Int), .int .i64 ce] 40)) E 40 2 (stp 0 0)) := HRt.out.alloc _
        have HCt11 : Hid (Ch O w (Wt.alloc (.cells #[.int .i64 (k : Int), .int .i64 ce] 40))) := HCt.out.alloc _
        obtain ⟨i0, hi0, hz0, hz1, hz2⟩ := info_parts Tryz.infoSt
        have HTO : Hid (¬ O Wt.heap.size) := fun q => by have := (HWt.out.oN _ q).2; omega
        have hET : E ≠ Wt.heap.size := by omega
        have HTE : Hid (w.heap.size ≤ Wt.heap.size) := HCt.out.size
        clear HRt HWt HB11 HCt
        go_wp2_with fail
        generalize Wt.heap.size = T at *
        generalize (Wt.alloc (.cells #[.int .i64 (k : Int), .int .i64 ce] 40)) = W1 at *
        obtain ⟨vl, c3, hvl, hvlO⟩ : ∃ vl, W1.cell? ⟨M, 3, none⟩ = some vl ∧ W1.ownsRow N 40 2 vl b.log.length (stv b.log) ∧ ∀ k, vl.ownBlock = some k → O k ∧ k ≠ M := HW11.out.c3
        obtain ⟨va, vcap, rfl⟩ := Ms.own_len hvl
        obtain ⟨ll, hll⟩ : ∃ n, b.log.length = n := ⟨_, rfl⟩
        have HLL := Lib.hid hll
        have hll2 : ll ≤ 1000 := by rw [← hll]; exact hlg
        have HVL := Lib.hid hvl
        rw [hll] at c3 hvlO HVL
        have HVLO := Lib.hid hvlO
        have f3 := HW11.out.frz 3
        clear hvl hvlO hll
        have S1 : Hid (W1.drew.cell? ⟨M, 3, none⟩ = some (.slice va ll vcap) ∧ W1.drew.cell? ⟨T, 0, none⟩ = some (.int .i64 (k : Int)) ∧ W1.drew.cell? ⟨T, 1, none⟩ = some (.int .i64 ce)) := ⟨c3, HR11.out.cell (i := 0) (by omega), HR11.out.cell (i := 1) (by omega)⟩
        refine wp_region_pl (fun Y => Y.cell? ⟨M, 3, none⟩ = some (.slice va ll vcap) ∧ Y.cell? ⟨T, 0, none⟩ = some (.int .i64 (k : Int)) ∧ Y.cell? ⟨T, 1, none⟩ = some (.int .i64 ce)) ((0, 0) :: (1, 0) :: (2, 0) :: (3, 0) :: (4, 0) :: (5, 0) :: (6, 1) :: (7, 1) :: (8, 1) :: (9, 1) :: (10, 2) :: []) (by kernel_rfl) (by kernel_rfl) ?_
        iterate 6 (apply wpP_go; (focus rfl); (focus rfl); (focus exact S1.out); (focus (rintro Y ⟨s0, s1, s2⟩; go_simp; exact rfl)); intro K hK; go_simp; refine hK _ ?_; clear hK K)
        have HNl : Hid (N ≤ w.heap.size) := HWW.out.N_le
        have HOO : Hid (∀ k, O k → k < W1.heap.size) := fun q hq => (HW11.out.oN q hq).2
        have HMlt : Hid (M < W1.heap.size) := HW11.out.M_lt
        have HTlt : Hid (T < W1.heap.size) := HR11.out.lt
        have S2 : Hid ((W1.alloc (.cells #[.int .i64 (k : Int), .int .i64 ce] 40)).drew.cell? ⟨M, 3, none⟩ = some (.slice va ll vcap) ∧ (W1.alloc (.cells #[.int .i64 (k : Int), .int .i64 ce] 40)).drew.cell? ⟨T, 0, none⟩ = some (.int .i64 (k : Int)) ∧ (W1.alloc (.cells #[.int .i64 (k : Int), .int .i64 ce] 40)).drew.cell? ⟨T, 1, none⟩ = some (.int .i64 ce)) := by
          have q : Ch (fun _ => False) W1 (W1.alloc (.cells #[.int .i64 (k : Int), .int .i64 ce] 40)).drew := ((Ch.refl _ _).alloc _).drew
          exact ⟨(q.cell ⟨M, 3, none⟩ HMlt.out id).trans S1.out.1, (q.cell ⟨T, 0, none⟩ HTlt.out id).trans S1.out.2.1, (q.cell ⟨T, 1, none⟩ HTlt.out id).trans S1.out.2.2⟩
        have HB12 : Hid (Below W1.heap.size W1 (W1.alloc (.cells #[.int .i64 (k : Int), .int .i64 ce] 40)).drew) := ((Below.refl _ _).alloc (Nat.le_refl _) _).drew
        have HV12 : Hid ((W1.alloc (.cells #[.int .i64 (k : Int), .int .i64 ce] 40)).drew.ownsRow N 40 2 (.slice va ll vcap) ll (stv b.log)) := ownN_ch HVL.out ((Ch.refl (fun _ => False) W1).alloc _).drew (fun _ _ h => h)
        have HN12 : Hid (∀ j u, ([.int .i64 (k : Int), .int .i64 ce] : List Value)[j]? = some u → (W1.alloc (.cells #[.int .i64 (k : Int), .int .i64 ce] 40)).drew.cell? ((⟨W1.heap.size, 0, none⟩ : Addr).add j) = some u) := World.news_of_block (heap_alloc_new W1 _) |> fun h => h
        have HON : Hid (∀ u ∈ ([.int .i64 (k : Int), .int .i64 ce] : List Value), u.oneCell' = true) := fun u hu => by
          rcases List.mem_cons.1 hu with rfl | hu
          · rfl
          · rw [List.mem_singleton.1 hu]; rfl
        apply wpP_one
        focus rfl
        intro K hK
        go_simp
        refine hK _ _ S2.out ?_
        clear hK K
        apply wpP_one
        focus rfl
        intro K hK
        refine step_append_lies _ (by rfl) _ _ _ (by rfl) N 40 i0 _ 2 16 Tryz.underlying96 hi0 hz0 hz1 hz2 (by kernel_rfl) (by omega) (.slice va ll vcap) ll (stv b.log) (by rfl) HV12.out
          ⟨W1.heap.size, 0, none⟩ 1 1 ([.int .i64 (k : Int), .int .i64 ce] : List Value) (by rfl) (by rfl) HN12.out HON.out (by omega) (by simp only [maxLen]; omega) (by omega) (by simp; have := HNl.out; have := HTE.out; have := HTlt.out; omega) (W1.heap.size + 1) (by simp) ?_
        intro g2 cap2 w5 hown5 hgrow5 hat5 hlt5
        have hc5 : Ch (fun q => (Value.slice va ll vcap).ownBlock = some q) W1 w5 := (((Ch.refl (fun q => (Value.slice va ll vcap).ownBlock = some q) W1).alloc (.cells #[.int .i64 (k : Int), .int .i64 ce] 40)).drew).trans (Ch.of_grown hgrow5 (fun q hq _ => hq))
        have hvT : ¬ (Value.slice va ll vcap).ownBlock = some T := fun q => HTO.out (HVLO.out T q).1
        have hvE : ¬ (Value.slice va ll vcap).ownBlock = some E := fun q => HnT.out (HVLO.out E q).1
        have hvM : ¬ (Value.slice va ll vcap).ownBlock = some M := fun q => (HVLO.out M q).2 rfl
        have S5 : Hid (w5.cell? ⟨M, 3, none⟩ = some (.slice va ll vcap) ∧ w5.cell? ⟨T, 0, none⟩ = some (.int .i64 (k : Int)) ∧ w5.cell? ⟨T, 1, none⟩ = some (.int .i64 ce)) :=
          ⟨(hc5.cell ⟨M, 3, none⟩ HMlt.out hvM).trans S1.out.1, (hc5.cell ⟨T, 0, none⟩ HTlt.out hvT).trans S1.out.2.1, (hc5.cell ⟨T, 1, none⟩ HTlt.out hvT).trans S1.out.2.2⟩
        have f35 : w5.frozen? ⟨M, 3, none⟩ = false := (hc5.frozen ⟨M, 3, none⟩ HMlt.out hvM).trans f3
        have HW12 := HW11.out.below HB12.out
        have HU : Hid (∀ q, (Value.slice (some ⟨g2, 0, none⟩) (ll + 1) cap2).ownBlock = some q → O q ∨ W1.heap.size ≤ q) := fun q hq => by
          have e : g2 = q := by simpa [Value.ownBlock] using hq
          rw [← e]
          rcases hat5 with h | h
          · exact .inl (HVLO.out g2 h).1
          · exact .inr (by omega)
        have HP := Lib.hid (HW12.pushLog (u := .slice (some ⟨g2, 0, none⟩) (ll + 1) cap2) (l' := b.log ++ [((k : Int), ce)]) S2.out.1 hgrow5 (by rw [stv_snoc, List.length_append, HLL.out]; exact hown5) (fun q hq => by
          have e : g2 = q := by simpa [Value.ownBlock] using hq
          rw [← e]
          rcases hat5 with h | h
          · exact .inl h
          · exact .inr (by rw [h]; simp)))
        have HR6 : Hid (Row (w5.setCell ⟨M, 3, none⟩ (.slice (some ⟨g2, 0, none⟩) (ll + 1) cap2)) E 40 2 (stp 0 0)) := (HRE11.out.ch hc5 hvE).far (fun q => HnE.out (by rw [q]; exact HWW.out.OM)) _
        have HT6 : Hid (Row (w5.setCell ⟨M, 3, none⟩ (.slice (some ⟨g2, 0, none⟩) (ll + 1) cap2)) T 40 2 (stp (k : Int) ce)) := (HR11.out.ch hc5 hvT).far (fun q => by
          have h1 := HTE.out
          have h2 := (HWW.out.oN M HWW.out.OM).2
          have h3 : T = M := q
          omega) _
        have HC6 : Hid (Ch O w (w5.setCell ⟨M, 3, none⟩ (.slice (some ⟨g2, 0, none⟩) (ll + 1) cap2))) := (HCt11.out.andThen hc5 (fun i hi hl => (HOt.out i (HVLO.out i hi).1).elim id (fun q => by omega))).setCell (p := ⟨M, 3, none⟩) (fun _ => HWW.out.OM) _
        go_simp
        refine hK _ _ S5.out ?_
        clear hK K
        iterate 2 (apply wpP_one; (focus rfl); intro K hK; go_simp; refine hK _ _ S5.out ?_; clear hK K)
        have c35 := S5.out.1
        apply wpP_two
        focus rfl
        intro K hK
        go_simp
        refine hK _ _ ?_
        clear hK K
        refine wpP_done ?_
        clear S1 S2 S5 f35 f3 c35 c3 HW12 HB12 HV12 HN12 HON hown5 hgrow5 hat5 hlt5 hc5 hvT hvE hvM HRE11 HR11 HCt11 HW11 HVL HVLO
        generalize w5.setCell ⟨M, 3, none⟩ (.slice (some ⟨g2, 0, none⟩) (ll + 1) cap2) = W6 at *
        have t0 : W6.cell? ⟨T, 0, none⟩ = some (.int .i64 (k : Int)) := HT6.out.cell (i := 0) (by omega)
        have t1 : W6.cell? ⟨T, 1, none⟩ = some (.int .i64 ce) := HT6.out.cell (i := 1) (by omega)
        have z0 : W6.cell? ⟨E, 0, none⟩ = some (.int .i64 0) := HR6.out.cell (i := 0) (by omega)
        have z1 : W6.cell? ⟨E, 1, none⟩ = some (.int .i64 0) := HR6.out.cell (i := 1) (by omega)
        have fz0 := HR6.out.frozen 0
        have fz1 := HR6.out.frozen 1
        have HRF := Lib.hid (((HR6.out.set (i := 0) (by omega) (.int .i64 (k : Int))).set (i := 1) (by omega) (.int .i64 ce)).congr (v' := stp (k : Int) ce) (fun j hj => by
          rcases (by omega : j = 0 ∨ j = 1) with e | e <;> subst e <;> rfl))
        have HCF : Hid (Ch O w ((W6.setCell ⟨E, 0, none⟩ (.int .i64 (k : Int))).setCell ⟨E, 1, none⟩ (.int .i64 ce))) := (HC6.out.setCell (p := ⟨E, 0, none⟩) (fun q => by have h1 : E < w.heap.size := q; have := HE.out; omega) _).setCell (p := ⟨E, 1, none⟩) (fun q => by have h1 : E < w.heap.size := q; have := HE.out; omega) _
        have HPF := Lib.hid (HP.out.ch (((Ch.refl (fun q => q = E) W6).setCell (p := ⟨E, 0, none⟩) (fun _ => rfl) (.int .i64 (k : Int))).setCell (p := ⟨E, 1, none⟩) (fun _ => rfl) (.int .i64 ce)) (fun q hq => by
          subst hq
          refine ⟨fun h => ?_, by have := HWW.out.pos; have := HE.out; omega⟩
          rcases h with h | h
          · exact HnT.out h
          · rcases HU.out _ h with h | h
            · exact HnT.out h
            · have := HE.out; have := HTE.out; have := HTlt.out; omega))
        have HOF : Hid (∀ q, (O q ∨ (Value.slice (some ⟨g2, 0, none⟩) (ll + 1) cap2).ownBlock = some q) → O q ∨ w.heap.size ≤ q) := fun q hq => by
          rcases hq with h | h
          · exact HOt.out q h
          · rcases HU.out q h with h | h
            · exact HOt.out q h
            · right
              have := HTE.out; have := HTlt.out; omega
        go_wp2_with fail
        exact bodyPost_ret (v := .tuple #[.agg #[.int .i64 (k : Int), .int .i64 ce], .int .i64 0]) (res2 rfl _ _ E #[.int .i64 (k : Int), .int .i64 ce] _ rfl rfl (ret40 HRF.out)) rfl ⟨rfl, _, HOF.out, HPF.out, HCF.out⟩
      · obtain ⟨rfl, rfl⟩ := hB h
        have h' : ¬ c - 1 = 0 := by omega
        clear hA hB
        go_upto_region 13 with fail
        clear f2 c22 HW2 HR2 HBw
        generalize W2.setCell ⟨M, 2, none⟩ (.slice (some ⟨g, o + 1, none⟩) cr.length (c - 1)) = Wt at *
        have hEW : E < Wt.heap.size := HRt.out.lt
        have HB11 : Hid (Below Wt.heap.size Wt (Wt.alloc (.cells #[.int .i64 (k : Int), .int .i64 ce] 40))) := (Below.refl _ _).alloc (Nat.le_refl _) _
        have HW11 := Lib.hid (HWt.out.below HB11.out)
        have HR11 : Hid (Row (Wt.alloc (.cells #[.int .i64 (k : Int), .int .i64 ce] 40)) Wt.heap.size 40 2 (stp (k : Int) ce)) := Row.ofList Wt _ _ _ 2 rfl
        have HRE11 : Hid (Row (Wt.alloc (.cells #[.int .i64 (k : Int), .int .i64 ce] 40)) E 40 2 (stp 0 0)) := HRt.out.alloc _
        have HCt11 : Hid (Ch O w (Wt.alloc (.cells #[.int .i64 (k : Int), .int .i64 ce] 40))) := HCt.out.alloc _
        obtain ⟨i0, hi0, hz0, hz1, hz2⟩ := info_parts Tryz.infoSt
        have HTO : Hid (¬ O Wt.heap.size) := fun q => by have := (HWt.out.oN _ q).2; omega
        have hET : E ≠ Wt.heap.size := by omega
        have HTE : Hid (w.heap.size ≤ Wt.heap.size) := HCt.out.size
        clear HRt HWt HB11 HCt
        go_wp2_with fail
        generalize Wt.heap.size = T at *
        generalize (Wt.alloc (.cells #[.int .i64 (k : Int), .int .i64 ce] 40)) = W1 at *
        obtain ⟨vl, c3, hvl, hvlO⟩ : ∃ vl, W1.cell? ⟨M, 3, none⟩ = some vl ∧ W1.ownsRow N 40 2 vl b.log.length (stv b.log) ∧ ∀ k, vl.ownBlock = some k → O k ∧ k ≠ M := HW11.out.c3
        obtain ⟨va, vcap, rfl⟩ := Ms.own_len hvl
        obtain ⟨ll, hll⟩ : ∃ n, b.log.length = n := ⟨_, rfl⟩
        have HLL := Lib.hid hll
        have hll2 : ll ≤ 1000 := by rw [← hll]; exact hlg
        have HVL := Lib.hid hvl
        rw [hll] at c3 hvlO HVL
        have HVLO := Lib.hid hvlO
        have f3 := HW11.out.frz 3
        clear hvl hvlO hll
        have S1 : Hid (W1.drew.cell? ⟨M, 3, none⟩ = some (.slice va ll vcap) ∧ W1.drew.cell? ⟨T, 0, none⟩ = some (.int .i64 (k : Int)) ∧ W1.drew.cell? ⟨T, 1, none⟩ = some (.int .i64 ce)) := ⟨c3, HR11.out.cell (i := 0) (by omega), HR11.out.cell (i := 1) (by omega)⟩
        refine wp_region_pl (fun Y => Y.cell? ⟨M, 3, none⟩ = some (.slice va ll vcap) ∧ Y.cell? ⟨T, 0, none⟩ = some (.int .i64 (k : Int)) ∧ Y.cell? ⟨T, 1, none⟩ = some (.int .i64 ce)) ((0, 0) :: (1, 0) :: (2, 0) :: (3, 0) :: (4, 0) :: (5, 0) :: (6, 1) :: (7, 1) :: (8, 1) :: (9, 1) :: (10, 2) :: []) (by kernel_rfl) (by kernel_rfl) ?_
        iterate 6 (apply wpP_go; (focus rfl); (focus rfl); (focus exact S1.out); (focus (rintro Y ⟨s0, s1, s2⟩; go_simp; exact rfl)); intro K hK; go_simp; refine hK _ ?_; clear hK K)
        have HNl : Hid (N ≤ w.heap.size) := HWW.out.N_le
        have HOO : Hid (∀ k, O k → k < W1.heap.size) := fun q hq => (HW11.out.oN q hq).2
        have HMlt : Hid (M < W1.heap.size) := HW11.out.M_lt
        have HTlt : Hid (T < W1.heap.size) := HR11.out.lt
        have S2 : Hid ((W1.alloc (.cells #[.int .i64 (k : Int), .int .i64 ce] 40)).drew.cell? ⟨M, 3, none⟩ = some (.slice va ll vcap) ∧ (W1.alloc (.cells #[.int .i64 (k : Int), .int .i64 ce] 40)).drew.cell? ⟨T, 0, none⟩ = some (.int .i64 (k : Int)) ∧ (W1.alloc (.cells #[.int .i64 (k : Int), .int .i64 ce] 40)).drew.cell? ⟨T, 1, none⟩ = some (.int .i64 ce)) := by
          have q : Ch (fun _ => False) W1 (W1.alloc (.cells #[.int .i64 (k : Int), .int .i64 ce] 40)).drew := ((Ch.refl _ _).alloc _).drew
          exact ⟨(q.cell ⟨M, 3, none⟩ HMlt.out id).trans S1.out.1, (q.cell ⟨T, 0, none⟩ HTlt.out id).trans S1.out.2.1, (q.cell ⟨T, 1, none⟩ HTlt.out id).trans S1.out.2.2⟩
        have HB12 : Hid (Below W1.heap.size W1 (W1.alloc (.cells #[.int .i64 (k : Int), .int .i64 ce] 40)).drew) := ((Below.refl _ _).alloc (Nat.le_refl _) _).drew
        have HV12 : Hid ((W1.alloc (.cells #[.int .i64 (k : Int), .int .i64 ce] 40)).drew.ownsRow N 40 2 (.slice va ll vcap) ll (stv b.log)) := ownN_ch HVL.out ((Ch.refl (fun _ => False) W1).alloc _).drew (fun _ _ h => h)
        have HN12 : Hid (∀ j u, ([.int .i64 (k : Int), .int .i64 ce] : List Value)[j]? = some u → (W1.alloc (.cells #[.int .i64 (k : Int), .int .i64 ce] 40)).drew.cell? ((⟨W1.heap.size, 0, none⟩ : Addr).add j) = some u) := World.news_of_block (heap_alloc_new W1 _) |> fun h => h
        have HON : Hid (∀ u ∈ ([.int .i64 (k : Int), .int .i64 ce] : List Value), u.oneCell' = true) := fun u hu => by
          rcases List.mem_cons.1 hu with rfl | hu
          · rfl
          · rw [List.mem_singleton.1 hu]; rfl
        apply wpP_one
        focus rfl
        intro K hK
        go_simp
        refine hK _ _ S2.out ?_
        clear hK K
        apply wpP_one
        focus rfl
        intro K hK
        refine step_append_lies _ (by rfl) _ _ _ (by rfl) N 40 i0 _ 2 16 Tryz.underlying96 hi0 hz0 hz1 hz2 (by kernel_rfl) (by omega) (.slice va ll vcap) ll (stv b.log) (by rfl) HV12.out
          ⟨W1.heap.size, 0, none⟩ 1 1 ([.int .i64 (k : Int), .int .i64 ce] : List Value) (by rfl) (by rfl) HN12.out HON.out (by omega) (by simp only [maxLen]; omega) (by omega) (by simp; have := HNl.out; have := HTE.out; have := HTlt.out; omega) (W1.heap.size + 1) (by simp) ?_
        intro g2 cap2 w5 hown5 hgrow5 hat5 hlt5
        have hc5 : Ch (fun q => (Value.slice va ll vcap).ownBlock = some q) W1 w5 := (((Ch.refl (fun q => (Value.slice va ll vcap).ownBlock = some q) W1).alloc (.cells #[.int .i64 (k : Int), .int .i64 ce] 40)).drew).trans (Ch.of_grown hgrow5 (fun q hq _ => hq))
        have hvT : ¬ (Value.slice va ll vcap).ownBlock = some T := fun q => HTO.out (HVLO.out T q).1
        have hvE : ¬ (Value.slice va ll vcap).ownBlock = some E := fun q => HnT.out (HVLO.out E q).1
        have hvM : ¬ (Value.slice va ll vcap).ownBlock = some M := fun q => (HVLO.out M q).2 rfl
        have S5 : Hid (w5.cell? ⟨M, 3, none⟩ = some (.slice va ll vcap) ∧ w5.cell? ⟨T, 0, none⟩ = some (.int .i64 (k : Int)) ∧ w5.cell? ⟨T, 1, none⟩ = some (.int .i64 ce)) :=
          ⟨(hc5.cell ⟨M, 3, none⟩ HMlt.out hvM).trans S1.out.1, (hc5.cell ⟨T, 0, none⟩ HTlt.out hvT).trans S1.out.2.1, (hc5.cell ⟨T, 1, none⟩ HTlt.out hvT).trans S1.out.2.2⟩
        have f35 : w5.frozen? ⟨M, 3, none⟩ = false := (hc5.frozen ⟨M, 3, none⟩ HMlt.out hvM).trans f3
        have HW12 := HW11.out.below HB12.out
        have HU : Hid (∀ q, (Value.slice (some ⟨g2, 0, none⟩) (ll + 1) cap2).ownBlock = some q → O q ∨ W1.heap.size ≤ q) := fun q hq => by
          have e : g2 = q := by simpa [Value.ownBlock] using hq
          rw [← e]
          rcases hat5 with h | h
          · exact .inl (HVLO.out g2 h).1
          · exact .inr (by omega)
        have HP := Lib.hid (HW12.pushLog (u := .slice (some ⟨g2, 0, none⟩) (ll + 1) cap2) (l' := b.log ++ [((k : Int), ce)]) S2.out.1 hgrow5 (by rw [stv_snoc, List.length_append, HLL.out]; exact hown5) (fun q hq => by
          have e : g2 = q := by simpa [Value.ownBlock] using hq
          rw [← e]
          rcases hat5 with h | h
          · exact .inl h
          · exact .inr (by rw [h]; simp)))
        have HR6 : Hid (Row (w5.setCell ⟨M, 3, none⟩ (.slice (some ⟨g2, 0, none⟩) (ll + 1) cap2)) E 40 2 (stp 0 0)) := (HRE11.out.ch hc5 hvE).far (fun q => HnE.out (by rw [q]; exact HWW.out.OM)) _
        have HT6 : Hid (Row (w5.setCell ⟨M, 3, none⟩ (.slice (some ⟨g2, 0, none⟩) (ll + 1) cap2)) T 40 2 (stp (k : Int) ce)) := (HR11.out.ch hc5 hvT).far (fun q => by
          have h1 := HTE.out
          have h2 := (HWW.out.oN M HWW.out.OM).2
          have h3 : T = M := q
          omega) _
        have HC6 : Hid (Ch O w (w5.setCell ⟨M, 3, none⟩ (.slice (some ⟨g2, 0, none⟩) (ll + 1) cap2))) := (HCt11.out.andThen hc5 (fun i hi hl => (HOt.out i (HVLO.out i hi).1).elim id (fun q => by omega))).setCell (p := ⟨M, 3, none⟩) (fun _ => HWW.out.OM) _
        go_simp
        refine hK _ _ S5.out ?_
        clear hK K
        iterate 2 (apply wpP_one; (focus rfl); intro K hK; go_simp; refine hK _ _ S5.out ?_; clear hK K)
        have c35 := S5.out.1
        apply wpP_two
        focus rfl
        intro K hK
        go_simp
        refine hK _ _ ?_
        clear hK K
        refine wpP_done ?_
        clear S1 S2 S5 f35 f3 c35 c3 HW12 HB12 HV12 HN12 HON hown5 hgrow5 hat5 hlt5 hc5 hvT hvE hvM HRE11 HR11 HCt11 HW11 HVL HVLO
        generalize w5.setCell ⟨M, 3, none⟩ (.slice (some ⟨g2, 0, none⟩) (ll + 1) cap2) = W6 at *
        have t0 : W6.cell? ⟨T, 0, none⟩ = some (.int .i64 (k : Int)) := HT6.out.cell (i := 0) (by omega)
        have t1 : W6.cell? ⟨T, 1, none⟩ = some (.int .i64 ce) := HT6.out.cell (i := 1) (by omega)
        have z0 : W6.cell? ⟨E, 0, none⟩ = some (.int .i64 0) := HR6.out.cell (i := 0) (by omega)
        have z1 : W6.cell? ⟨E, 1, none⟩ = some (.int .i64 0) := HR6.out.cell (i := 1) (by omega)
        have fz0 := HR6.out.frozen 0
        have fz1 := HR6.out.frozen 1
        have HRF := Lib.hid (((HR6.out.set (i := 0) (by omega) (.int .i64 (k : Int))).set (i := 1) (by omega) (.int .i64 ce)).congr (v' := stp (k : Int) ce) (fun j hj => by
          rcases (by omega : j = 0 ∨ j = 1) with e | e <;> subst e <;> rfl))
        have HCF : Hid (Ch O w ((W6.setCell ⟨E, 0, none⟩ (.int .i64 (k : Int))).setCell ⟨E, 1, none⟩ (.int .i64 ce))) := (HC6.out.setCell (p := ⟨E, 0, none⟩) (fun q => by have h1 : E < w.heap.size := q; have := HE.out; omega) _).setCell (p := ⟨E, 1, none⟩) (fun q => by have h1 : E < w.heap.size := q; have := HE.out; omega) _
        have HPF := Lib.hid (HP.out.ch (((Ch.refl (fun q => q = E) W6).setCell (p := ⟨E, 0, none⟩) (fun _ => rfl) (.int .i64 (k : Int))).setCell (p := ⟨E, 1, none⟩) (fun _ => rfl) (.int .i64 ce)) (fun q hq => by
          subst hq
          refine ⟨fun h => ?_, by have := HWW.out.pos; have := HE.out; omega⟩
          rcases h with h | h
          · exact HnT.out h
          · rcases HU.out _ h with h | h
            · exact HnT.out h
            · have := HE.out; have := HTE.out; have := HTlt.out; omega))
        have HOF : Hid (∀ q, (O q ∨ (Value.slice (some ⟨g2, 0, none⟩) (ll + 1) cap2).ownBlock = some q) → O q ∨ w.heap.size ≤ q) := fun q hq => by
          rcases hq with h | h
          · exact HOt.out q h
          · rcases HU.out q h with h | h
            · exact HOt.out q h
            · right
              have := HTE.out; have := HTlt.out; omega
        go_wp2_with fail
        exact bodyPost_ret (v := .tuple #[.agg #[.int .i64 (k : Int), .int .i64 ce], .int .i64 0]) (res2 rfl _ _ E #[.int .i64 (k : Int), .int .i64 ce] _ rfl rfl (ret40 HRF.out)) rfl ⟨rfl, _, HOF.out, HPF.out, HCF.out⟩
end
end Go.Proofs.YtdinbpdpalgohaaGreatDoor
