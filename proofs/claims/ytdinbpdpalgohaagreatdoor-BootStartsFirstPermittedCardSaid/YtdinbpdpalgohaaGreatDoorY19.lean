/- order, do, large; what calls do to the variables. Conditions: those that each theorem names. -/
import Derived.Test.YtdinbpdpalgohaaGreatDoorY18
import Derived.Test.YtdinbpdpalgohaaGreatDoorY17
namespace Go.Proofs.YtdinbpdpalgohaaGreatDoor
open Go.RowKit
def ordStep (out : List Int) (x : Int) : List Int := if ((mo x 5 : Nat) : Int) ∈ out then out else out ++ [((mo x 5 : Nat) : Int)]
def ordF (l : List Int) : List Int := l.foldl ordStep []
theorem ordF_step {l : List Int} {i : Nat} (hi : i < l.length) : ordF (l.take (i + 1)) = ordStep (ordF (l.take i)) l[i] := by
  unfold ordF
  rw [List.take_succ_eq_append_getElem hi, List.foldl_append]
  rfl
theorem foldS_len : ∀ (l out : List Int), (l.foldl ordStep out).length ≤ out.length + l.length
  | [], out => by simp
  | x :: r, out => by
    have h := foldS_len r (ordStep out x)
    have h2 : (ordStep out x).length ≤ out.length + 1 := by
      unfold ordStep
      split
      · omega
      · simp
    simp only [List.foldl_cons, List.length_cons]
    omega
theorem ordF_len (l : List Int) : (ordF l).length ≤ l.length := by have := foldS_len l []; simpa [ordF] using this
def ordC (c : BC) : List Int := if c.raw = true then c.od else ordF c.od
set_option maxRecDepth 100000 in
set_option maxHeartbeats 2000000 in
theorem cord_any (c : BC) (w : World) (hrd : RdJ w c.ol c.od) (hlen : c.od.length ≤ 20) : Calls Tryz.prog 63 #[cBa c] w fun e w' => ∃ v, e = .returned v ∧ RdJ w' v (ordC c) ∧ Below w.heap.size w w' := by
  obtain ⟨kd, id, im, tr, ol, od, ina, raw⟩ := c
  replace hrd : RdJ w ol od := hrd
  have hX := CX.made w ⟨kd, id, im, tr, ol, od, ina, raw⟩
  have HB : Hid (Below w.heap.size w (w.alloc (.cells #[.int .i64 kd, .int .i64 id, .int .i64 im, .int .i64 tr, ol, .bool ina, .bool raw] 54))) := (Below.refl _ _).alloc (Nat.le_refl _) _
  have HRD : Hid (RdJ (w.alloc (.cells #[.int .i64 kd, .int .i64 id, .int .i64 im, .int .i64 tr, ol, .bool ina, .bool raw] 54)) ol od) := hrd.below HB.out (Nat.le_refl _)
  have HSZ : Hid ((w.alloc (.cells #[.int .i64 kd, .int .i64 id, .int .i64 im, .int .i64 tr, ol, .bool ina, .bool raw] 54)).heap.size = w.heap.size + 1) := by show _ = _; simp
  have hl : od.length ≤ 20 := hlen
  obtain ⟨a, cp, rfl, hcp, hcpm⟩ := hrd.shape
  clear hrd hlen
  unfold ordC
  unfold cBa
  simp only at hX ⊢
  have HX := Lib.hid hX
  clear hX
  obtain ⟨n, hn⟩ : ∃ n, od.length = n := ⟨_, rfl⟩
  have HN := Lib.hid hn
  rw [hn] at HRD HX HB HSZ hl hcp ⊢
  clear hn
  obtain ⟨i0, hi0, hz0, hz1, hz2⟩ := info_parts Tryz.infoInt
  cases raw
  · simp only [Bool.false_eq_true, if_false]
    go_enter Tryz.func63, Tryz.ntmps63
    go_upto_region 1 with fail
    generalize (w.alloc (.cells #[.int .i64 kd, .int .i64 id, .int .i64 im, .int .i64 tr, .slice a n cp, .bool ina, .bool false] 54)) = W1 at *
    obtain ⟨T, hT⟩ : ∃ T, w.heap.size = T := ⟨_, rfl⟩
    have HT := Lib.hid hT
    rw [hT] at HX HSZ ⊢
    clear hT
    have c6 := HX.out.c6
    go_wp2_with fail
    have HO0 : Hid (OwI W1 (T + 1) (.slice none 0 0) (ordF (od.take 0))) := by
      show World.ownsRow _ _ _ _ _ _ _
      exact ⟨rfl, .inl ⟨rfl, rfl⟩⟩
    go_loopw [3, 4] (fun x z wr => ∃ i : Nat, i ≤ n ∧ z = .int .i64 (i : Int) ∧ Hid (OwI wr (T + 1) x (ordF (od.take i))) ∧ Hid (Below (T + 1) W1 wr)) (fun _ z _ => n - (intOf z).toNat)
    case atStart => exact ⟨0, by omega, rfl, HO0, Below.refl _ _⟩
    case round =>
      clear HO0 c6
      obtain ⟨i, hi, rfl, HO, HB1⟩ := hrel
      obtain ⟨xa, xc, rfl⟩ := Ms.own_len HO.out
      have c4 := (HX.out.below HB1.out (Nat.lt_succ_self T)).c4
      have hsw : T + 1 ≤ wr.heap.size := by have := HB1.out.size; have := HSZ.out; omega
      by_cases hlt : i < n
      · have y0 : (i : Int) < n := by omega
        have hil : i < od.length := by rw [HN.out]; exact hlt
        obtain ⟨g, o, c', e, _, _, hc⟩ := (HRD.out.below HB1.out (by have := HSZ.out; omega)).cellAt hil
        rw [HN.out] at e
        injection e with e1 _ e3
        subst e1 e3
        have HST := Lib.hid (ordF_step hil)
        have hol : (ordF (od.take i)).length ≤ 20 := by have := ordF_len (od.take i); rw [List.length_take] at this; omega
        have HMD : Hid (∀ W, Calls Tryz.prog 11 #[.int .i64 od[i], .int .i64 5] W fun e w' => e = .returned (.int .i64 ((mo od[i] 5 : Nat) : Int)) ∧ W = w') := fun W => mod_any _ 5 W (by omega) (by omega)
        unfold ordStep at HST
        generalize od[i] = xi at *
        generalize mo xi 5 = k at *
        generalize ordF (od.take i) = out at *
        obtain ⟨ln, hln⟩ : ∃ ln, out.length = ln := ⟨_, rfl⟩
        have HLN := Lib.hid hln
        rw [hln] at HO hol ⊢
        clear hln hil
        go_wp2_with fail
        refine (HMD.out _).mono ?_
        rintro e w' ⟨rfl, rfl⟩
        clear HMD
        go_wp2_with fail
        go_loopw [6, 7] (fun x z wq => ∃ j : Nat, j ≤ ln ∧ x = .bool (decide ((k : Int) ∉ out.take j)) ∧ z = .int .i64 (j : Int) ∧ wq = wr) (fun _ z _ => ln - (intOf z).toNat)
        case atStart => exact ⟨0, by omega, by simp, rfl, rfl⟩
        case round =>
          obtain ⟨j, hj, rfl, rfl, rfl⟩ := hrel
          by_cases hjl : j < ln
          · have y1 : (j : Int) < ln := by omega
            have hjo : j < out.length := by rw [HLN.out]; exact hjl
            obtain ⟨g3, o3, c3', e, _, _, hc3⟩ := HO.out.rd.cellAt hjo
            rw [HLN.out] at e
            injection e with e1 _ e3
            subst e1 e3
            have HKN : Hid (decide ((k : Int) ∉ out.take (j + 1)) = (decide ((k : Int) ∉ out.take j) && decide (out[j] ≠ (k : Int)))) := by
              show _ = _
              rw [List.take_succ_eq_append_getElem hjo, Bool.eq_iff_iff]
              simp only [decide_eq_true_eq, Bool.and_eq_true, List.mem_append, List.mem_singleton, not_or]
              exact ⟨fun h => ⟨h.1, fun q => h.2 q.symm⟩, fun h => ⟨h.1, fun q => h.2 q.symm⟩⟩
            generalize out[j] = oj at *
            generalize decide ((k : Int) ∉ out.take j) = fr at *
            clear hjo
            cases fr
            · rw [Bool.false_and] at HKN
              go_wp2_with fail
              go_roundw
              case rel => exact ⟨j + 1, by omega, by rw [HKN.out], by go_num, by trivial⟩
              case measure => simp [intOf]; omega
            · rw [Bool.true_and] at HKN
              by_cases he : oj = (k : Int)
              · have e0 : decide (oj ≠ (k : Int)) = false := by simp [he]
                rw [e0] at HKN
                subst he
                clear e0
                go_wp2_with fail
                go_roundw
                case rel => exact ⟨j + 1, by omega, by rw [HKN.out], by go_num, by trivial⟩
                case measure => simp [intOf]; omega
              · have e0 : decide (oj ≠ (k : Int)) = true := by simp [he]
                rw [e0] at HKN
                clear e0
                have hne : (oj != (k : Int)) = true := by simp [he]
                go_wp2_with fail
                go_roundw
                case rel => exact ⟨j + 1, by omega, by rw [HKN.out], by go_num, by trivial⟩
                case measure => simp [intOf]; omega
          · have ej : j = out.length := by rw [HLN.out]; omega
            have y1 : ¬ (j : Int) < ln := by omega
            rw [ej, List.take_length]
            rw [ej] at y1
            by_cases hm : (k : Int) ∈ out
            · have e0 : decide ((k : Int) ∉ out) = false := by simp [hm]
              have HO2 : Hid (OwI wr (T + 1) (.slice xa ln xc) (ordF (od.take (i + 1)))) := by rw [HST.out, if_pos hm]; exact HO
              rw [e0]
              clear e0 hm HST
              go_wp2_with fail
              go_roundw
              case rel => exact ⟨i + 1, by omega, by go_num, HO2, HB1⟩
              case measure => simp [intOf]; omega
            · have e0 : decide ((k : Int) ∉ out) = true := by simp [hm]
              have HSE : Hid (ordF (od.take (i + 1)) = out ++ [(k : Int)]) := by show _ = _; rw [HST.out, if_neg hm]
              rw [e0]
              have HC1 : Hid ((wr.alloc (.cells #[.int .i64 (k : Int)] 3)).ownsRow (T + 1) 3 1 (.slice xa ln xc) ln (ints out)) := by
                have h9 := HO.out
                unfold OwI at h9
                rw [HLN.out] at h9
                exact ownN_ch h9 ((Ch.refl (fun _ => False) wr).alloc _) (fun _ _ h => h)
              have HN1 : Hid (∀ j u, (ints [(k : Int)])[j]? = some u → (wr.alloc (.cells #[.int .i64 (k : Int)] 3)).cell? ((⟨wr.heap.size, 0, none⟩ : Addr).add j) = some u) := World.news_of_block (heap_alloc_new wr _) |> fun h => h
              have HB3 : Hid (Below (T + 1) W1 (wr.alloc (.cells #[.int .i64 (k : Int)] 3))) := HB1.out.alloc hsw _
              have HLC : Hid ((ints out).length = ln) := by rw [ints_len]; exact HLN.out
              clear e0 hm HST HO
              go_wp2_with (at_builtin; refine wpList_append_lies _ rfl _ _ 36 rfl (T + 1) 3 i0 _ 1 8 Tryz.underlying36 hi0 hz0 hz1 hz2 (by kernel_rfl) (by omega) _ ln (ints out) rfl (by exact HC1.out) ⟨wr.heap.size, 0, none⟩ 1 1 (ints [(k : Int)]) rfl rfl (by exact HN1.out) (ints_one _) (by omega) (by simp only [maxLen]; omega) (by omega) (by simp; omega) (wr.heap.size + 1) (by simp) ?_)
              intro g2 cap2 w5 hown5 hgrow5 hat5 hlt5
              have HB5 : Hid (Below (T + 1) W1 w5) := Below.grown HB3.out hgrow5 (by simp; omega) (fun k hk => (HC1.out.lt k hk).1)
              have HC5 : Hid (OwI w5 (T + 1) (.slice (some ⟨g2, 0, none⟩) (ln + 1) cap2) (ordF (od.take (i + 1)))) := by
                rw [HSE.out]
                show World.ownsRow _ _ _ _ _ _ _
                rw [ints_snoc, List.length_append, HLN.out]
                exact hown5
              clear hown5 hgrow5 hat5 hlt5 HC1 HN1 HB3
              go_wp2_with fail
              go_roundw
              case rel => exact ⟨i + 1, by omega, by go_num, HC5, HB5⟩
              case measure => simp [intOf]; omega
      · have ei : i = n := by omega
        have y0 : ¬ (i : Int) < n := by omega
        subst ei
        rw [List.take_of_length_le (by rw [HN.out]; omega)] at *
        have HV := Lib.hid HO.out.rd.j
        have HBF : Hid (Below w.heap.size w wr) := HB.out.trans (HB1.out.mono (by have := HT.out; omega))
        go_wp2_with fail
        go_ret
        exact ⟨_, rfl, HV.out, HBF.out⟩
  · simp only [if_true]
    go_enter Tryz.func63, Tryz.ntmps63
    go_upto_region 1 with fail
    generalize (w.alloc (.cells #[.int .i64 kd, .int .i64 id, .int .i64 im, .int .i64 tr, .slice a n cp, .bool ina, .bool true] 54)) = W1 at *
    have c6 := HX.out.c6
    have c4 := HX.out.c4
    go_wp2_with fail
    go_ret
    exact ⟨_, rfl, HRD.out, HB.out⟩
end Go.Proofs.YtdinbpdpalgohaaGreatDoor
namespace Go.Proofs.YtdinbpdpalgohaaGreatDoor
open Go.RowKit
def doM (m : Nat) (b : BM) (c : BC) : (Int × Int) × Int × BM := match m with
  | 0 => ((0, 0), setEntryB b (cidV c) (sumS (imgB c.im)) (!c.ina) (catV c))
  | 1 => ((0, 0), setEntryB b (cidV c) (sumS (imgB c.im)) (!c.ina) (catV c))
  | 2 => ((0, 0), setOrderB b (ordC c))
  | 3 => ((0, 0), setNextB b (cidV c))
  | 4 => ((0, 0), denyB b (sumS (imgB c.im)))
  | 5 => ((0, 0), beginB b)
  | 6 => ((0, 0), beginB b)
  | 10 => ((0, 0), succB b)
  | _ => tryB b (imgL c)
def doB (b : BM) (c : BC) : (Int × Int) × Int × BM := doM (mo c.kd 12) b c
section
variable {w W2 w3 : World} {N M S L n n' E : Nat} {F : Nat → Prop} {b b' : BM}
theorem BF.news (h : BF w N F M S L n b) (c : Below w.heap.size w W2) : BF W2 N (fun k => F k ∨ (w.heap.size ≤ k ∧ k < W2.heap.size)) M S L n b := by
  obtain ⟨O, q1, q2⟩ := h
  refine ⟨O, q1.below c, fun k hk => ?_⟩
  rcases hk with hk | hk
  · exact ⟨(q2 k hk).1, Nat.lt_of_lt_of_le (q2 k hk).2 c.size⟩
  · exact ⟨fun hO => by have := (q1.oN k hO).2; omega, hk.2⟩
theorem do_fin {t : Nat} (h0 : BF w N F M S L n b) (b2 : Below w.heap.size w W2) (hE : w.heap.size ≤ E) (hR : Row W2 E t 2 (stp 0 0)) (bl : BL W2 w3 N (fun k => F k ∨ (w.heap.size ≤ k ∧ k < W2.heap.size)) M S L n' b') (x y : Int) :
    Row w3 E t 2 (stp 0 0) ∧ Row ((w3.setCell ⟨E, 0, none⟩ (.int .i64 x)).setCell ⟨E, 1, none⟩ (.int .i64 y)) E t 2 (stp x y) ∧ BL w ((w3.setCell ⟨E, 0, none⟩ (.int .i64 x)).setCell ⟨E, 1, none⟩ (.int .i64 y)) N F M S L n' b' := by
  have hR3 := hR.ch bl.ch (fun q => q (.inr ⟨hE, hR.lt⟩))
  have c4 : Ch (fun k => k = E) w3 ((w3.setCell ⟨E, 0, none⟩ (.int .i64 x)).setCell ⟨E, 1, none⟩ (.int .i64 y)) := ((Ch.refl (fun k => k = E) w3).setCell (p := ⟨E, 0, none⟩) (fun _ => rfl) _).setCell (p := ⟨E, 1, none⟩) (fun _ => rfl) _
  have hp := h0.pos
  refine ⟨hR3, ((hR3.set (i := 0) (by omega) (.int .i64 x)).set (i := 1) (by omega) (.int .i64 y)).congr (v' := stp x y) (fun j hj => by
    rcases (by omega : j = 0 ∨ j = 1) with e | e <;> subst e <;> rfl), ?_, ?_, ?_⟩
  · exact (bl.bf.own c4 (fun k hk _ => by subst hk; exact ⟨.inr ⟨hE, hR.lt⟩, by omega⟩)).less (fun k hk => .inl hk)
  · exact (Ch.of_below b2 _).trans ((bl.ch.mono (fun i hi _ hF => hi (.inl hF))).trans (c4.mono (fun i hi _ hF => by subst hi; have := h0.lt i hF; omega)))
  · have hN := h0.N_le
    exact (((b2.mono hN).trans bl.bel).setCell (p := ⟨E, 0, none⟩) (by show N ≤ E; omega) _).setCell (p := ⟨E, 1, none⟩) (by show N ≤ E; omega) _
end
set_option maxRecDepth 100000 in
set_option maxHeartbeats 4000000 in
theorem do_any {w : World} {N M S L n : Nat} {F : Nat → Prop} {b : BM} (h : BF w N F M S L n b) (hb : b.st.blk < b.fl.B) (hn : n < 1000) (hc : ∀ x ∈ b.cand, isId x = true) (hes : b.es.length < 256) (hlg : b.log.length ≤ 1000) (c : BC) (hrd : RdJ w c.ol c.od) (hlen : c.od.length ≤ 20) :
    Calls Tryz.prog 25 #[fptr M, cBa c] w (LT w N F M S L (n + 1) (doB b c)) := by
  unfold doB
  have HMD : Hid (∀ W, Calls Tryz.prog 11 #[.int .i64 c.kd, .int .i64 12] W fun e w' => e = .returned (.int .i64 ((mo c.kd 12 : Nat) : Int)) ∧ W = w') := fun W => mod_any c.kd 12 W (by omega) (by omega)
  have hm : mo c.kd 12 < 12 := mo_lt c.kd 12 (by omega)
  generalize mo c.kd 12 = m at *
  have HEN : Hid (∀ W, Calls Tryz.prog 62 #[cBa c] W fun e w' => e = .returned (.agg (Ms.arr 35 (ecl (cidV c) (sumS (imgB c.im)) (!c.ina) (catV c)))) ∧ Below W.heap.size W w') := fun W => centry_any c W
  have HID : Hid (∀ W, Calls Tryz.prog 64 #[cBa c] W fun e w' => e = .returned (.int .i64 (cidV c)) ∧ Below W.heap.size W w') := fun W => cid_any c W
  have HOR : Hid (∀ W, Below w.heap.size w W → Calls Tryz.prog 63 #[cBa c] W fun e w' => ∃ v, e = .returned v ∧ RdJ w' v (ordC c) ∧ Below W.heap.size W w') := fun W b => cord_any c W (hrd.below b (Nat.le_refl _)) hlen
  have HIS : Hid (∀ W, Calls Tryz.prog 26 #[cBa c] W fun e w' => ∃ g, e = .returned (.slice (some ⟨g, 0, none⟩) (mo c.tr 3 + 3) 5) ∧ W.heap.size ≤ g ∧ RdT w' (.slice (some ⟨g, 0, none⟩) (mo c.tr 3 + 3) 5) (imgL c) ∧ Below W.heap.size W w') := fun W => images_any c W
  obtain ⟨im, him⟩ : ∃ im, imgB c.im = im := ⟨_, rfl⟩
  have hims : im.size ≤ 1073741824 := by have := imgB_size c.im; rw [← him]; omega
  have HIM : Hid (∀ W, Calls Tryz.prog 66 #[.int .i64 c.im] W fun e w' => e = .returned (.string im) ∧ W = w') := fun W => by rw [← him]; exact image_any c.im W
  have HSM : Hid (∀ W, Calls Tryz.prog 65 #[.string im] W fun e w' => e = .returned (.agg (Ms.arr 32 (Ms.b8 (dgF (sumS im))))) ∧ Below W.heap.size W w') := fun W => rsum_str im W hims
  have HIZ := Lib.hid (imgL_size c)
  have HCC := Lib.hid (And.intro hc (And.intro hes hlg))
  have HBF := Lib.hid h
  have HM := Lib.hid him
  rw [him] at HEN
  clear h hrd hlen him hims hc hes hlg
  unfold cBa at *
  have e1 : (w.alloc (.cells #[.int .i64 c.kd, .int .i64 c.id, .int .i64 c.im, .int .i64 c.tr, c.ol, .bool c.ina, .bool c.raw] 54)).heap.size = w.heap.size + 1 := by simp
  have HX : Hid (CX ((w.alloc (.cells #[.int .i64 c.kd, .int .i64 c.id, .int .i64 c.im, .int .i64 c.tr, c.ol, .bool c.ina, .bool c.raw] 54)).alloc (.cells #[.int .i64 0, .int .i64 0] 40)) w.heap.size 0 c) := (CX.made w c).below ((Below.refl _ _).alloc (Nat.le_refl _) _) (by simp)
  have HR : Hid (Row ((w.alloc (.cells #[.int .i64 c.kd, .int .i64 c.id, .int .i64 c.im, .int .i64 c.tr, c.ol, .bool c.ina, .bool c.raw] 54)).alloc (.cells #[.int .i64 0, .int .i64 0] 40)) (w.heap.size + 1) 40 2 (stp 0 0)) := by rw [← e1]; exact Row.ofList _ 40 _ _ 2 rfl
  have HB : Hid (Below w.heap.size w ((w.alloc (.cells #[.int .i64 c.kd, .int .i64 c.id, .int .i64 c.im, .int .i64 c.tr, c.ol, .bool c.ina, .bool c.raw] 54)).alloc (.cells #[.int .i64 0, .int .i64 0] 40))) := ((Below.refl _ _).alloc (Nat.le_refl _) _).alloc (by simp) _
  clear e1
  go_enter Tryz.func25, Tryz.ntmps25
  go_upto_region 1 with fail
  generalize (w.alloc (.cells #[.int .i64 c.kd, .int .i64 c.id, .int .i64 c.im, .int .i64 c.tr, c.ol, .bool c.ina, .bool c.raw] 54)).alloc (.cells #[.int .i64 0, .int .i64 0] 40) = W1 at *
  obtain ⟨T, hT⟩ : ∃ T, w.heap.size = T := ⟨_, rfl⟩
  have HT := Lib.hid hT
  rw [hT] at HX HR ⊢
  clear hT
  have c0 := HX.out.c0
  go_wp2_with fail
  refine (HMD.out _).mono ?_
  rintro e w' ⟨rfl, rfl⟩
  clear c0 HMD
  obtain ⟨c0, c1, c2, c3, c4, c5, c6, clt⟩ := HX.out
  have hm' : (m = 0 ∨ m = 1) ∨ m = 2 ∨ m = 3 ∨ m = 4 ∨ (m = 5 ∨ m = 6) ∨ m = 10 ∨ m = 7 ∨ m = 8 ∨ m = 9 ∨ m = 11 := by omega
  clear hm
  rcases hm' with hm' | rfl | rfl | rfl | hm' | rfl | hm'
  · have HRH := HM
    rcases hm' with rfl | rfl
    all_goals
      go_wp2_with fail
      refine (HEN.out _).mono ?_
      rintro e w2 ⟨rfl, b2⟩
      have HB2 : Hid (Below w.heap.size w w2) := HB.out.trans (b2.mono HB.out.size)
      have HR2 : Hid (Row w2 (T + 1) 40 2 (stp 0 0)) := HR.out.below b2 HR.out.lt
      obtain ⟨r, hr⟩ : ∃ r, setEntryB b (cidV c) (sumS (imgB c.im)) (!c.ina) (catV c) = r := ⟨_, rfl⟩
      have HRE := Lib.hid hr
      have HC := HBF.out.news HB2.out |>.setEntry hb hn (cidV c) (sumS_len (imgB c.im)) (!c.ina) (catV c)
      rw [hr] at HC
      have HCL := Lib.hid HC
      clear HC hr
      clear HX b2
      rw [HM.out] at HCL
      go_wp2_with fail
      refine HCL.out.mono ?_
      rintro e w3 ⟨rfl, bl⟩
      clear HCL
      obtain ⟨r3, r4, bl4⟩ := do_fin HBF.out HB2.out (by have := HT.out; omega) HR2.out bl 0 0
      have z0 : w3.cell? ⟨T + 1, 0, none⟩ = some (.int .i64 0) := r3.cell (i := 0) (by omega)
      have z1 : w3.cell? ⟨T + 1, 1, none⟩ = some (.int .i64 0) := r3.cell (i := 1) (by omega)
      have fz0 := r3.frozen 0
      have fz1 := r3.frozen 1
      have HR4 := Lib.hid r4
      have HBL := Lib.hid bl4
      clear r3 r4 bl4 bl
      go_wp2_with fail
      exact bodyPost_ret (v := .tuple #[.agg #[.int .i64 0, .int .i64 0], .int .i64 r.1]) (res2 rfl _ _ (T + 1) #[.int .i64 0, .int .i64 0] _ rfl rfl (ret40 HR4.out)) rfl (by
        show LT _ _ _ _ _ _ _ ((0, 0), setEntryB b (cidV c) (sumS (imgB c.im)) (!c.ina) (catV c)) _ _
        rw [HRE.out]
        exact ⟨rfl, HBL.out⟩)
  · have HRH := HM
    go_wp2_with fail
    refine (HOR.out _ HB.out).mono ?_
    rintro e w2 ⟨v, rfl, hv, b2⟩
    have HB2 : Hid (Below w.heap.size w w2) := HB.out.trans (b2.mono HB.out.size)
    have HR2 : Hid (Row w2 (T + 1) 40 2 (stp 0 0)) := HR.out.below b2 HR.out.lt
    obtain ⟨r, hr⟩ : ∃ r, setOrderB b (ordC c) = r := ⟨_, rfl⟩
    have HRE := Lib.hid hr
    have HC := HBF.out.news HB2.out |>.setOrder hb hn hv
    rw [hr] at HC
    have HCL := Lib.hid HC
    clear HC hr
    clear HX b2 hv
    go_wp2_with fail
    refine HCL.out.mono ?_
    rintro e w3 ⟨rfl, bl⟩
    clear HCL
    obtain ⟨r3, r4, bl4⟩ := do_fin HBF.out HB2.out (by have := HT.out; omega) HR2.out bl 0 0
    have z0 : w3.cell? ⟨T + 1, 0, none⟩ = some (.int .i64 0) := r3.cell (i := 0) (by omega)
    have z1 : w3.cell? ⟨T + 1, 1, none⟩ = some (.int .i64 0) := r3.cell (i := 1) (by omega)
    have fz0 := r3.frozen 0
    have fz1 := r3.frozen 1
    have HR4 := Lib.hid r4
    have HBL := Lib.hid bl4
    clear r3 r4 bl4 bl
    go_wp2_with fail
    exact bodyPost_ret (v := .tuple #[.agg #[.int .i64 0, .int .i64 0], .int .i64 r.1]) (res2 rfl _ _ (T + 1) #[.int .i64 0, .int .i64 0] _ rfl rfl (ret40 HR4.out)) rfl (by
      show LT _ _ _ _ _ _ _ ((0, 0), setOrderB b (ordC c)) _ _
      rw [HRE.out]
      exact ⟨rfl, HBL.out⟩)
  · have HRH := HM
    go_wp2_with fail
    refine (HID.out _).mono ?_
    rintro e w2 ⟨rfl, b2⟩
    have HB2 : Hid (Below w.heap.size w w2) := HB.out.trans (b2.mono HB.out.size)
    have HR2 : Hid (Row w2 (T + 1) 40 2 (stp 0 0)) := HR.out.below b2 HR.out.lt
    obtain ⟨r, hr⟩ : ∃ r, setNextB b (cidV c) = r := ⟨_, rfl⟩
    have HRE := Lib.hid hr
    have HC := HBF.out.news HB2.out |>.setNext hb hn (cidV c)
    rw [hr] at HC
    have HCL := Lib.hid HC
    clear HC hr
    clear HX b2
    go_wp2_with fail
    refine HCL.out.mono ?_
    rintro e w3 ⟨rfl, bl⟩
    clear HCL
    obtain ⟨r3, r4, bl4⟩ := do_fin HBF.out HB2.out (by have := HT.out; omega) HR2.out bl 0 0
    have z0 : w3.cell? ⟨T + 1, 0, none⟩ = some (.int .i64 0) := r3.cell (i := 0) (by omega)
    have z1 : w3.cell? ⟨T + 1, 1, none⟩ = some (.int .i64 0) := r3.cell (i := 1) (by omega)
    have fz0 := r3.frozen 0
    have fz1 := r3.frozen 1
    have HR4 := Lib.hid r4
    have HBL := Lib.hid bl4
    clear r3 r4 bl4 bl
    go_wp2_with fail
    exact bodyPost_ret (v := .tuple #[.agg #[.int .i64 0, .int .i64 0], .int .i64 r.1]) (res2 rfl _ _ (T + 1) #[.int .i64 0, .int .i64 0] _ rfl rfl (ret40 HR4.out)) rfl (by
      show LT _ _ _ _ _ _ _ ((0, 0), setNextB b (cidV c)) _ _
      rw [HRE.out]
      exact ⟨rfl, HBL.out⟩)
  · have HRH := HM
    go_wp2_with fail
    refine (HIM.out _).mono ?_
    rintro e w' ⟨rfl, rfl⟩
    go_wp2_with fail
    refine (HSM.out _).mono ?_
    rintro e w2 ⟨rfl, b2⟩
    have HB2 : Hid (Below w.heap.size w w2) := HB.out.trans (b2.mono HB.out.size)
    have HR2 : Hid (Row w2 (T + 1) 40 2 (stp 0 0)) := HR.out.below b2 HR.out.lt
    obtain ⟨r, hr⟩ : ∃ r, denyB b (sumS (imgB c.im)) = r := ⟨_, rfl⟩
    have HRE := Lib.hid hr
    have HC := HBF.out.news HB2.out |>.deny hb hn (sumS_len (imgB c.im))
    rw [hr] at HC
    have HCL := Lib.hid HC
    clear HC hr
    clear HX b2
    rw [HM.out] at HCL
    go_wp2_with fail
    refine HCL.out.mono ?_
    rintro e w3 ⟨rfl, bl⟩
    clear HCL
    obtain ⟨r3, r4, bl4⟩ := do_fin HBF.out HB2.out (by have := HT.out; omega) HR2.out bl 0 0
    have z0 : w3.cell? ⟨T + 1, 0, none⟩ = some (.int .i64 0) := r3.cell (i := 0) (by omega)
    have z1 : w3.cell? ⟨T + 1, 1, none⟩ = some (.int .i64 0) := r3.cell (i := 1) (by omega)
    have fz0 := r3.frozen 0
    have fz1 := r3.frozen 1
    have HR4 := Lib.hid r4
    have HBL := Lib.hid bl4
    clear r3 r4 bl4 bl
    go_wp2_with fail
    exact bodyPost_ret (v := .tuple #[.agg #[.int .i64 0, .int .i64 0], .int .i64 r.1]) (res2 rfl _ _ (T + 1) #[.int .i64 0, .int .i64 0] _ rfl rfl (ret40 HR4.out)) rfl (by
      show LT _ _ _ _ _ _ _ ((0, 0), denyB b (sumS (imgB c.im))) _ _
      rw [HRE.out]
      exact ⟨rfl, HBL.out⟩)
  · have HRH := HM
    rcases hm' with rfl | rfl
    all_goals
      have HB2 := HB
      have HR2 := HR
      obtain ⟨r, hr⟩ : ∃ r, beginB b = r := ⟨_, rfl⟩
      have HRE := Lib.hid hr
      have HC := HBF.out.news HB2.out |>.begin hb hn
      rw [hr] at HC
      have HCL := Lib.hid HC
      clear HC hr
      clear HX
      go_wp2_with fail
      refine HCL.out.mono ?_
      rintro e w3 ⟨rfl, bl⟩
      clear HCL
      obtain ⟨r3, r4, bl4⟩ := do_fin HBF.out HB2.out (by have := HT.out; omega) HR2.out bl 0 0
      have z0 : w3.cell? ⟨T + 1, 0, none⟩ = some (.int .i64 0) := r3.cell (i := 0) (by omega)
      have z1 : w3.cell? ⟨T + 1, 1, none⟩ = some (.int .i64 0) := r3.cell (i := 1) (by omega)
      have fz0 := r3.frozen 0
      have fz1 := r3.frozen 1
      have HR4 := Lib.hid r4
      have HBL := Lib.hid bl4
      clear r3 r4 bl4 bl
      go_wp2_with fail
      exact bodyPost_ret (v := .tuple #[.agg #[.int .i64 0, .int .i64 0], .int .i64 r.1]) (res2 rfl _ _ (T + 1) #[.int .i64 0, .int .i64 0] _ rfl rfl (ret40 HR4.out)) rfl (by
        show LT _ _ _ _ _ _ _ ((0, 0), beginB b) _ _
        rw [HRE.out]
        exact ⟨rfl, HBL.out⟩)
  · have HRH := HM
    have HB2 := HB
    have HR2 := HR
    obtain ⟨r, hr⟩ : ∃ r, succB b = r := ⟨_, rfl⟩
    have HRE := Lib.hid hr
    have HC := HBF.out.news HB2.out |>.succ hb hn
    rw [hr] at HC
    have HCL := Lib.hid HC
    clear HC hr
    clear HX
    go_wp2_with fail
    refine HCL.out.mono ?_
    rintro e w3 ⟨rfl, bl⟩
    clear HCL
    obtain ⟨r3, r4, bl4⟩ := do_fin HBF.out HB2.out (by have := HT.out; omega) HR2.out bl 0 0
    have z0 : w3.cell? ⟨T + 1, 0, none⟩ = some (.int .i64 0) := r3.cell (i := 0) (by omega)
    have z1 : w3.cell? ⟨T + 1, 1, none⟩ = some (.int .i64 0) := r3.cell (i := 1) (by omega)
    have fz0 := r3.frozen 0
    have fz1 := r3.frozen 1
    have HR4 := Lib.hid r4
    have HBL := Lib.hid bl4
    clear r3 r4 bl4 bl
    go_wp2_with fail
    exact bodyPost_ret (v := .tuple #[.agg #[.int .i64 0, .int .i64 0], .int .i64 r.1]) (res2 rfl _ _ (T + 1) #[.int .i64 0, .int .i64 0] _ rfl rfl (ret40 HR4.out)) rfl (by
      show LT _ _ _ _ _ _ _ ((0, 0), succB b) _ _
      rw [HRE.out]
      exact ⟨rfl, HBL.out⟩)
  · have HRH := HM
    rcases hm' with rfl | rfl | rfl | rfl
    all_goals
      go_wp2_with fail
      refine (HIS.out _).mono ?_
      rintro e w2 ⟨g, rfl, hg, ht, b2⟩
      have HB2 : Hid (Below w.heap.size w w2) := HB.out.trans (b2.mono HB.out.size)
      have HR2 : Hid (Row w2 (T + 1) 40 2 (stp 0 0)) := HR.out.below b2 HR.out.lt
      obtain ⟨r, hr⟩ : ∃ r, tryB b (imgL c) = r := ⟨_, rfl⟩
      have HRE := Lib.hid hr
      have hgl : g < w2.heap.size := by obtain ⟨_, _, _, _, _, h3, _⟩ := ht; exact h3 g rfl
      have hgw : w.heap.size ≤ g := Nat.le_trans HB.out.size hg
      have HC := (HBF.out.news HB2.out).try hb hn HCC.out.1 HCC.out.2.1 HCC.out.2.2 ht (fun q hq => by
        have e : g = q := by simpa [Value.ownBlock] using hq
        subst e
        exact .inr ⟨hgw, hgl⟩) HIZ.out
      rw [hr] at HC
      have HCL := Lib.hid HC
      clear HC hr hgl hgw hg ht HX b2
      go_wp2_with fail
      refine HCL.out.mono ?_
      rintro e w3 ⟨rfl, bl⟩
      clear HCL
      obtain ⟨⟨rx, ry⟩, rc, rb⟩ := r
      obtain ⟨r3, r4, bl4⟩ := do_fin HBF.out HB2.out (by have := HT.out; omega) HR2.out bl rx ry
      have z0 : w3.cell? ⟨T + 1, 0, none⟩ = some (.int .i64 0) := r3.cell (i := 0) (by omega)
      have z1 : w3.cell? ⟨T + 1, 1, none⟩ = some (.int .i64 0) := r3.cell (i := 1) (by omega)
      have fz0 := r3.frozen 0
      have fz1 := r3.frozen 1
      have HR4 := Lib.hid r4
      have HBL := Lib.hid bl4
      clear r3 r4 bl4 bl
      go_wp2_with fail
      exact bodyPost_ret (v := .tuple #[.agg #[.int .i64 rx, .int .i64 ry], .int .i64 rc]) (res2 rfl _ _ (T + 1) #[.int .i64 rx, .int .i64 ry] _ rfl rfl (ret40 HR4.out)) rfl (by
        show LT _ _ _ _ _ _ _ (tryB b (imgL c)) _ _
        rw [HRE.out]
        exact ⟨rfl, HBL.out⟩)
end Go.Proofs.YtdinbpdpalgohaaGreatDoor
namespace Go.Proofs.YtdinbpdpalgohaaGreatDoor
open Go.RowKit
/-- The state of a law's first calls, before a boot. -/
structure SI (k : Nat) (b : BM) : Prop where
  cal : Cal 1000 k b.fl b.st
  es : b.es = []
  cand : b.cand = []
  log : b.log = []
section
variable {k : Nat} {b : BM}
theorem SI.mono (h : SI k b) {k' : Nat} (hk : k ≤ k') : SI k' b := ⟨h.cal.mono hk, h.es, h.cand, h.log⟩
theorem SI.put (h : SI k b) (hk : k < 1000) {n v : Str} (ho : okVar (n, v)) : SI (k + 1) (setB b n v).2 := by
  obtain ⟨b', e, c, _, kp⟩ := setB_ok h.cal hk ho
  rw [e]
  exact ⟨c, kp.2.2.2.trans h.es, kp.1.trans h.cand, kp.2.1.trans h.log⟩
theorem do_si (h : SI k b) (hk : k < 1000) {m : Nat} (hm : m < 5) (c : BC) : SI (k + 1) (doM m b c).2.2 := by
  have hs := h.mono (Nat.le_succ k)
  have hE : SI (k + 1) (setEntryB b (cidV c) (sumS (imgB c.im)) (!c.ina) (catV c)).2 := by
    unfold setEntryB
    split
    · next q =>
      have := isId_iff.1 q.1
      exact h.put hk (okVar_E (j := (cidV c).toNat) (by omega) (sumS_len _) _ _ _)
    · exact hs
  have h5 : m = 0 ∨ m = 1 ∨ m = 2 ∨ m = 3 ∨ m = 4 := by omega
  rcases h5 with rfl | rfl | rfl | rfl | rfl
  · exact hE
  · exact hE
  · show SI _ (setOrderB b (ordC c)).2
    unfold setOrderB
    split
    · next q => exact h.put hk (okVar_O q)
    · exact hs
  · show SI _ (setNextB b (cidV c)).2
    unfold setNextB
    split
    · exact h.put hk (okVar_N _)
    · exact hs
  · show SI _ (denyB b (sumS (imgB c.im))).2
    unfold denyB
    split
    · exact hs
    · split
      · exact hs
      · next q =>
        refine h.put hk (okVar_D (fun e he => ?_) (by rw [List.length_append]; simp; omega))
        rcases List.mem_append.1 he with q | q
        · exact denV_32 e q
        · rw [List.mem_singleton.1 q]; exact sumS_len _
theorem setNextB_ok {m : Nat} (h : Cal m k b.fl b.st) (hk : k < m) {j : Nat} (hj : j < 16) : ∃ b', setNextB b (j : Int) = (0, b') ∧ Cal m (k + 1) b'.fl b'.st ∧ b'.st.V = setV b.st.V nmN [UInt8.ofNat j] ∧ Kp b b' := by
  obtain ⟨b', e, r⟩ := setB_ok h hk (okVar_N (UInt8.ofNat j))
  refine ⟨b', ?_, r⟩
  unfold setNextB
  rw [if_pos (isId_iff.2 ⟨by omega, by omega⟩)]
  exact e
theorem exC_nil (V : Vars) (x : Nat) : exC V x [] = 6 := by
  unfold exC
  split
  · rfl
  · rw [if_pos (.inl (Nat.zero_le _))]
def notJ (j : Nat) (l : List Int) : List Int := l.filter (fun x => !([(j : Int)] : List Int).contains x)
theorem notJ_hit {j i : Nat} {l : List Int} (hi : i < l.length) (h : l[i] = (j : Int)) : notJ j (l.drop i) = notJ j (l.drop (i + 1)) := by
  unfold notJ
  rw [List.drop_eq_getElem_cons hi, List.filter_cons_of_neg (by rw [h]; simp)]
theorem notJ_miss {j i : Nat} {l : List Int} (hi : i < l.length) (h : l[i] ≠ (j : Int)) : notJ j (l.drop i) = l[i] :: notJ j (l.drop (i + 1)) := by
  unfold notJ
  rw [List.drop_eq_getElem_cons hi, List.filter_cons_of_pos (by simpa using h)]
/-- The state of the boot with the next entry. -/
structure NI (k j i : Nat) (ord : List Int) (b : BM) : Prop where
  cal : Cal 1000 k b.fl b.st
  es : b.es = []
  cand : b.cand = notJ j (ord.drop i)
  log : b.log.length ≤ i + 1
  nx : getV b.st.V nmN = none
  od : ordV b.st.V = ord
theorem next_plain (h : SI k b) (hk : k + 3 < 1000) {j : Nat} (hj : j < 5) : ∃ b1 b2 b3 : BM, setNextB b (j : Int) = (0, b1) ∧ b1.st.blk < b1.fl.B ∧ beginB b1 = (0, b2) ∧ (b2.st.blk < b2.fl.B ∧ (∀ x ∈ b2.cand, isId x = true) ∧ b2.es = [] ∧ b2.log = []) ∧
    tryB b2 [] = (((j : Int), 6), 0, b3) ∧ NI (k + 2) j 0 (ordV b.st.V) b3 := by
  obtain ⟨b1, e1, c1, v1, k1⟩ := setNextB_ok h.cal (by omega) (j := j) (by omega)
  obtain ⟨b2, e2, c2, v2, d2, l2, _, s2⟩ := beginB_cal c1 (by omega)
  have g1 : nxtV b1.st.V = [(j : Int)] := by rw [v1]; exact nxtV_put (by omega)
  have o1 : ordV b1.st.V = ordV b.st.V := by rw [v1]; exact ordV_congr (get_set_ne ne_ON)
  have n1 : getV b1.st.V nmN ≠ none := by rw [v1, getV_set, if_pos rfl]; simp
  rw [if_neg n1] at v2
  have hcd : b2.cand = (j : Int) :: notJ j (ordV b.st.V) := by
    rw [d2]
    unfold cndV
    rw [g1, o1]
    rfl
  have he : b2.es = [] := by rw [s2, k1.2.2.2]; exact h.es
  refine ⟨b1, b2, _, e1, c1.blk, e2, ⟨c2.blk, by rw [d2]; exact cndV_id, he, l2⟩, tryB_skip hcd (exC_nil _ _) (by decide), c2, he, by rw [List.drop_zero], by show (b2.log ++ [_]).length ≤ _; rw [l2]; simp, ?_, ?_⟩
  · show getV b2.st.V nmN = none
    rw [v2, getV_del, if_pos rfl]
  · show ordV b2.st.V = _
    rw [v2, ordV_congr (get_del_ne ne_ON), o1]
theorem ni_skip {j i : Nat} {ord : List Int} (h : NI k j i ord b) (hi : i < ord.length) (e : ord[i] = (j : Int)) : NI k j (i + 1) ord b :=
  ⟨h.cal, h.es, by rw [h.cand]; exact notJ_hit hi e, by have := h.log; omega, h.nx, h.od⟩
theorem ni_try {j i : Nat} {ord : List Int} (h : NI k j i ord b) (hi : i < ord.length) (e : ord[i] ≠ (j : Int)) : ∃ b', tryB b [] = ((ord[i], 6), 0, b') ∧ NI k j (i + 1) ord b' := by
  have hc := h.cand
  rw [notJ_miss hi e] at hc
  exact ⟨_, tryB_skip hc (exC_nil _ _) (by decide), h.cal, h.es, rfl, by show (b.log ++ [_]).length ≤ _; rw [List.length_append]; have := h.log; simp; omega, h.nx, h.od⟩
theorem ni_end {j : Nat} {ord : List Int} (h : NI k j ord.length ord b) (hk : k < 1000) : tryB b [] = ((0, 0), 6, b) ∧ ∃ b', beginB b = (0, b') ∧ (b'.st.blk < b'.fl.B ∧ b'.es = [] ∧ b'.log = []) ∧ b'.cand = ord := by
  have hc : b.cand = [] := by rw [h.cand, List.drop_length]; rfl
  refine ⟨tryB_none hc, ?_⟩
  obtain ⟨b', e, c, v, d, l, _, s⟩ := beginB_cal h.cal hk
  refine ⟨b', e, ⟨c.blk, s.trans h.es, l⟩, ?_⟩
  rw [d]
  unfold cndV nxtV
  rw [h.nx, h.od]
  simp
theorem ni_first {b' : BM} {ord : List Int} (h : b'.cand = ord) : (ord = [] ∧ tryB b' [] = ((0, 0), 6, b')) ∨ ∃ (x : Int) (r : List Int) (b2 : BM), ord = x :: r ∧ tryB b' [] = ((x, 6), 0, b2) := by
  cases ord with
  | nil => exact .inl ⟨rfl, tryB_none h⟩
  | cons x r => exact .inr ⟨x, r, _, rfl, tryB_skip h (exC_nil _ _) (by decide)⟩
end
/-- The calls are larger than the statements consider. -/
def Big (l : List BC) : Prop := (∃ c ∈ l, 20 < c.od.length) ∨ 25 < l.length
theorem not_big {l : List BC} (h : ¬ Big l) : (∀ c ∈ l, c.od.length ≤ 20) ∧ l.length ≤ 25 := by
  unfold Big at h
  refine ⟨fun c hc => ?_, ?_⟩
  · by_cases q : c.od.length ≤ 20
    · exact q
    · exact absurd (.inl ⟨c, hc, by omega⟩) h
  · by_cases q : l.length ≤ 25
    · exact q
    · exact absurd (.inr (by omega)) h
def lrg (l : List BC) : Bool := l.any (fun c => decide (20 < c.od.length)) || decide (25 < l.length)
theorem lrg_iff (l : List BC) : lrg l = true ↔ Big l := by
  unfold lrg Big
  simp
set_option maxRecDepth 100000 in
theorem large_any (a : Option Addr) (len cap : Nat) (l : List BC) (w : World) (hl : CallS w a len cap l) : Calls Tryz.prog 24 #[.slice a len cap] w fun e w' => e = .returned (.bool (lrg l)) ∧ w = w' := by
  have HQ := Lib.hid (lrg_iff l)
  generalize lrg l = q at *
  have HL := Lib.hid hl
  have hcap : len ≤ cap := hl.2.1
  have hcapM := hl.2.2.1
  have HN : Hid (l.length = len) := hl.1
  unfold maxLen at hcapM
  clear hl
  go_enter Tryz.func24, Tryz.ntmps24
  go_wp2_with fail
  go_loopw [3] (fun z wr => ∃ i : Nat, i ≤ len ∧ z = .int .i64 (i : Int) ∧ Hid (∀ c ∈ l.take i, c.od.length ≤ 20) ∧ wr = w) (fun z _ => len - (intOf z).toNat)
  case atStart => exact ⟨0, by omega, rfl, (fun c hc => by simp at hc), rfl⟩
  case round =>
    obtain ⟨i, hi, rfl, HS, rfl⟩ := hrel
    by_cases hlt : i < len
    · have y0 : (i : Int) < len := by omega
      obtain ⟨bb, o, c, rfl, hc, hrd, hx⟩ := HL.out.at hlt
      obtain ⟨oa, oc, hol, hoc, hocm⟩ := hrd.shape
      have c4 := hx.c4
      rw [hol] at c4
      have hil : i < l.length := by rw [HN.out]; exact hlt
      have hci : l[i] = c := by rw [List.getElem?_eq_getElem hil] at hc; injection hc
      have HCI : Hid (c ∈ l) := by rw [← hci]; exact List.getElem_mem hil
      have HTK : Hid (l.take (i + 1) = l.take i ++ [c]) := by show _ = _; rw [List.take_succ_eq_append_getElem hil, hci]
      clear hx hc hrd hol hil hci
      obtain ⟨n, hn⟩ : ∃ n, c.od.length = n := ⟨_, rfl⟩
      have HNN := Lib.hid hn
      rw [hn] at c4
      clear hn
      by_cases hb : 20 < n
      · have hbI : (n : Int) > 20 := by omega
        go_wp2_with fail
        go_ret
        have e0 : q = true := HQ.out.2 (.inl ⟨c, HCI.out, by rw [HNN.out]; exact hb⟩)
        rw [e0]
        exact ⟨rfl, rfl⟩
      · have hbI : ¬ (n : Int) > 20 := by omega
        have HS2 : Hid (∀ c ∈ l.take (i + 1), c.od.length ≤ 20) := fun d hd => by
          rw [HTK.out] at hd
          rcases List.mem_append.1 hd with q | q
          · exact HS.out d q
          · rw [List.mem_singleton.1 q, HNN.out]; omega
        clear HTK HS
        go_wp2_with fail
        go_roundw
        case rel => exact ⟨i + 1, by omega, by go_num, HS2, by trivial⟩
        case measure => simp [intOf]; omega
    · have y0 : ¬ (i : Int) < len := by omega
      have HA : Hid (∀ c ∈ l, c.od.length ≤ 20) := by
        have := HS.out
        rw [List.take_of_length_le (by rw [HN.out]; omega)] at this
        exact this
      by_cases hb : 25 < len
      · have hbI : (len : Int) > 25 := by omega
        go_wp2_with fail
        go_ret
        have e0 : q = true := HQ.out.2 (.inr (by rw [HN.out]; exact hb))
        rw [e0]
        exact ⟨rfl, rfl⟩
      · have hbI : ¬ (len : Int) > 25 := by omega
        go_wp2_with fail
        go_ret
        have e0 : q = false := by
          cases hq : q
          · rfl
          · rcases HQ.out.1 hq with ⟨c, hc, q⟩ | q
            · have := HA.out c hc; omega
            · rw [HN.out] at q; omega
        rw [e0]
        exact ⟨rfl, rfl⟩
end Go.Proofs.YtdinbpdpalgohaaGreatDoor
