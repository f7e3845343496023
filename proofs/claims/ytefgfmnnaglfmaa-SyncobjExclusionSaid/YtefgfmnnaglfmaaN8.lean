/- The reference's Abort. Condition: few locks and threads; threads 0 to 3. -/
import Derived.Deep.LoopGhost
import Derived.Test.YtefgfmnnaglfmaaN7
namespace Go.Proofs.Ytefgfmnnaglfmaa
open Go.RowKit
def gtR (y x : RL) : Prop := x.lv < y.lv ∨ (y.lv = x.lv ∧ x.id < y.id)
/-- The best of the first i locks that t owns. -/
def BS (M : List RL) (t : Int) (i : Nat) (bi : Int) : Prop :=
  (bi = -1 ∧ ∀ (j : Nat) (x : RL), j < i → M[j]? = some x → ¬ (x.od = true ∧ x.ow = t)) ∨
  ∃ (b : Nat) (y : RL), bi = b ∧ b < i ∧ M[b]? = some y ∧ y.od = true ∧ y.ow = t ∧ ∀ (j : Nat) (x : RL), j < i → M[j]? = some x → x.od = true → x.ow = t → j ≠ b → gtR y x
theorem BS.skip {M : List RL} {t bi : Int} {i : Nat} {x : RL} (h : BS M t i bi) (hx : M[i]? = some x) (hn : ¬ (x.od = true ∧ x.ow = t)) : BS M t (i + 1) bi := by
  rcases h with ⟨h1, h2⟩ | ⟨b, y, h1, h2, h3, h4, h5, h6⟩
  · refine .inl ⟨h1, fun j z hj hz => ?_⟩
    rcases (by omega : j < i ∨ j = i) with e | e
    · exact h2 j z e hz
    · rw [e, hx] at hz; injection hz with hz; rw [← hz]; exact hn
  · refine .inr ⟨b, y, h1, by omega, h3, h4, h5, fun j z hj hz h7 h8 h9 => ?_⟩
    rcases (by omega : j < i ∨ j = i) with e | e
    · exact h6 j z e hz h7 h8 h9
    · rw [e, hx] at hz; injection hz with hz; subst hz; exact absurd ⟨h7, h8⟩ hn
theorem gtR.trans {a b c : RL} (h : gtR a b) (k : gtR b c) : gtR a c := by unfold gtR at *; omega
theorem BS.first {M : List RL} {t : Int} {i : Nat} {x : RL} (h : BS M t i (-1)) (hx : M[i]? = some x) (h1 : x.od = true) (h2 : x.ow = t) : BS M t (i + 1) (i : Int) := by
  rcases h with ⟨_, h3⟩ | ⟨b, y, h3, _⟩
  · refine .inr ⟨i, x, rfl, by omega, hx, h1, h2, fun j z hj hz h7 h8 h9 => ?_⟩
    exact absurd ⟨h7, h8⟩ (h3 j z (by omega) hz)
  · omega
theorem BS.take {M : List RL} {t : Int} {i b : Nat} {x y : RL} (h : BS M t i (b : Int)) (hx : M[i]? = some x) (hy : M[b]? = some y) (h1 : x.od = true) (h2 : x.ow = t) (hg : gtR x y) : BS M t (i + 1) (i : Int) := by
  rcases h with ⟨h3, _⟩ | ⟨b', y', h3, h4, h5, h6, h7, h8⟩
  · omega
  · have e : b = b' := by omega
    subst e
    rw [hy] at h5; injection h5 with h5; subst h5
    refine .inr ⟨i, x, rfl, by omega, hx, h1, h2, fun j z hj hz k1 k2 k3 => ?_⟩
    by_cases e : j = b
    · subst e; rw [hy] at hz; injection hz with hz; subst hz; exact hg
    · exact hg.trans (h8 j z (by omega) hz k1 k2 e)
theorem BS.keep {M : List RL} {t : Int} {i b : Nat} {x y : RL} (h : BS M t i (b : Int)) (hx : M[i]? = some x) (hy : M[b]? = some y) (hg : gtR y x) : BS M t (i + 1) (b : Int) := by
  rcases h with ⟨h3, _⟩ | ⟨b', y', h3, h4, h5, h6, h7, h8⟩
  · omega
  · have e : b = b' := by omega
    subst e
    rw [hy] at h5; injection h5 with h5; subst h5
    refine .inr ⟨b, y, rfl, by omega, hy, h6, h7, fun j z hj hz k1 k2 k3 => ?_⟩
    rcases (by omega : j < i ∨ j = i) with e | e
    · exact h8 j z e hz k1 k2 k3
    · rw [e, hx] at hz; injection hz with hz; subst hz; exact hg
/-- Abort under way: the mutexes l are freed. -/
structure AB (w wr : World) (D : Nat → Prop) (X n : Nat) (s : LK) (t : Int) (l : List Int) (Dk : Nat → Prop) : Prop where
  rk : RK wr Dk X (n + 1 + l.length) (abF (ab0 s t) l)
  si : SI (abF (ab0 s t) l)
  st : (stT (abF (ab0 s t) l) t).st ≠ 2
  lv : ∀ j, lvOf (abF (ab0 s t) l) j = lvOf s j
  pw : l.Pairwise (gtO s)
  gt : ∀ a ∈ l, ∀ b ∈ (stT (abF (ab0 s t) l) t).hd, gtO s a b
  mem : ∀ a, a ∈ (stT s t).hd ↔ a ∈ l ∨ a ∈ (stT (abF (ab0 s t) l) t).hd
  ch : Ch D w wr
  dr : ∀ k, Dk k → D k ∨ (w.heap.size ≤ k ∧ k < wr.heap.size)
theorem AB.len {w wr : World} {D : Nat → Prop} {X n : Nat} {s : LK} {t : Int} {l : List Int} {Dk : Nat → Prop} (h : AB w wr D X n s t l Dk) (hI : SI s) : l.length ≤ 6 := by
  refine pigeonT 6 l ?_ (fun a ha => ?_)
  · exact h.pw.imp (fun {a b} hg e => by rw [e] at hg; exact gtO.irr s b hg)
  · obtain ⟨x, hx, _⟩ := (hI.hd t a).1 ((h.mem a).2 (.inl ha))
    exact hI.io hx
theorem abF_add (s : LK) (l : List Int) (a : Int) : abF s (l ++ [a]) = freeS (abF s l) a := by unfold abF; rw [List.foldl_append]; rfl
section
variable {w w1 w' : World} {D D1 : Nat → Prop} {X n : Nat} {s : LK} {vl vw : Value} {M : List RL} {W : List RT}
set_option maxRecDepth 100000 in
set_option maxHeartbeats 8000000 in
theorem rabort_any (h : RK w D X n s) (hI : SI s) (hn : n ≤ 1000) (t : Int) (ht : 0 ≤ t ∧ t < 4) :
    Calls Try.prog 50 #[ptr X, .int .i64 t] w fun e w' => e = .returned (.tuple #[]) ∧ ∃ l, l.Pairwise (gtO s) ∧ (∀ a, a ∈ l ↔ a ∈ (stT s t).hd) ∧ RP w D X (n + 8) (abF (ab0 s t) l) w' := by
  obtain ⟨vl, vw, M, W, h1, h2, h3, h4, h5⟩ := h
  have HI := Lib.hid hI
  have H := Lib.hid h1
  have HO := Lib.hid h4
  have HH := Lib.hid h5
  have HN : Hid (M.length ≤ n ∧ W.length ≤ n) := ⟨h2, h3⟩
  have HLV := Lib.hid (rleave_any h1 (by omega) (fun x hx => by
    have h9 := hI.ql (h4.is x hx).1
    have h8 : x.q.length ≤ 4 := h9
    omega) t)
  clear h1 h2 h3 h4 h5 hI
  go_enter Try.func50, Try.ntmps50
  go_wp2_with fail
  refine HLV.out.mono ?_
  rintro e w1 ⟨rfl, D1, M1, hm1, hlv1, hc1, hd1⟩
  have HTH := Lib.hid (rthread_any hm1 (by have := HN.out.2; omega) t)
  have H1 : Hid (LV M M1 t M.length ∧ Ch D w w1 ∧ ∀ k, D1 k → D k ∨ (w.heap.size ≤ k ∧ k < w1.heap.size)) := ⟨hlv1, hc1, hd1⟩
  clear hm1 hlv1 hc1 hd1 HLV
  go_wp2_with fail
  refine HTH.out.mono ?_
  rintro e w2 ⟨gw, cw, iw, y, D2, rfl, hy, hya, hm2, hc2, hD2⟩
  obtain ⟨gw', cw', ew, _, _, _, _, t0, t1, _, _, _, frw⟩ := hm2.gt hy
  obtain ⟨e1, _, e3⟩ := sl_inj ew
  subst e1 e3
  have ft := frw (iw * 5 + 1)
  have hm3 := hm2.tSt rfl hy 0
  have hc3 := hm2.chT rfl (i := iw * 5 + 1) (.int .i64 0)
  have HAB : Hid (∃ l Dk, AB w (w2.setCell ⟨gw, iw * 5 + 1, none⟩ (.int .i64 0)) D X n s t l Dk ∧ 7 - l.length = 7 - ([] : List Int).length) := by
    have h0 := ab0_si HI.out ht
    have hs1 := H1.out.2.1.size
    have hro : RO M1 (ab0 s t) := (H1.out.1.ro HO.out).congr (ab0_o HI.out t)
    have hrh : RH ((thrW W t).set iw { y with st := 0 }) (ab0 s t) := by
      refine (HH.out.thr t).set hy rfl (fun j hj => ?_) ?_ (fun h => by cases h)
      · rw [ab0_T, if_neg (by rw [← hya]; exact hj)]
      · rw [ab0_T, if_pos hya]
    refine ⟨[], D2, ⟨RK.mk' hm3 (by rw [H1.out.1.1]; have := HN.out.1; simp; omega) (by rw [List.length_set]; have := thr_len W t; have := HN.out.2; simp; omega) hro hrh, h0, ?_, ab0_lv HI.out t, List.Pairwise.nil, (fun a ha => by cases ha), fun a => ?_, ?_, fun k hk => ?_⟩, rfl⟩
    · show (stT (ab0 s t) t).st ≠ 2
      rw [ab0_T, if_pos rfl]; show (0 : Int) ≠ 2; omega
    · show _ ↔ a ∈ [] ∨ a ∈ (stT (ab0 s t) t).hd
      rw [ab0_T, if_pos rfl]; simp
    · refine (H1.out.2.1.andThen (hc2.andThen hc3 (fun k hk hk2 => ?_)) (fun k hk hk2 => ?_))
      · rcases hD2 k hk with h | h
        · exact h
        · omega
      · rcases H1.out.2.2 k hk with h | h
        · exact h
        · omega
    · have hss : (w2.setCell ⟨gw, iw * 5 + 1, none⟩ (.int .i64 0)).heap.size = w2.heap.size := by simp
      rw [hss]
      have := hc2.size
      rcases hD2 k hk with h | ⟨h, h'⟩
      · rcases H1.out.2.2 k h with h | ⟨h, h'⟩
        · exact .inl h
        · exact .inr ⟨h, by omega⟩
      · exact .inr ⟨by omega, h'⟩
  clear ew frw hm2 hc2 hD2 hy hya hm3 hc3 HTH H1 H HO HH
  go_wp2_with fail
  generalize w2.setCell ⟨gw, iw * 5 + 1, none⟩ (.int .i64 0) = w0 at *
  clear t0 t1 ft
  go_loopg [4] 7 (fun gk xb wr => Hid (∃ l Dk, AB w wr D X n s t l Dk ∧ 7 - l.length = gk))
  case atStart => exact HAB
  case round =>
    clear HAB
    obtain ⟨l, Dk, hab, hgk⟩ := hrel.out
    have hll := hab.len HI.out
    obtain ⟨vlk, vwk, Mk, Wk, hrm, hm1, hm2, hro, hrh⟩ := hab.rk
    have HR : Hid (AB w wr D X n s t l Dk ∧ RM wr Dk X vlk vwk Mk Wk ∧ Mk.length ≤ n + 1 + l.length ∧ Wk.length ≤ n + 1 + l.length ∧ RO Mk (abF (ab0 s t) l) ∧ RH Wk (abF (ab0 s t) l) ∧ 7 - l.length = gk) := ⟨hab, hrm, hm1, hm2, hro, hrh, hgk⟩
    obtain ⟨al, cap, e, hcc1, hcc2⟩ := hrm.fl
    obtain ⟨L, hL⟩ : ∃ L, Mk.length = L := ⟨_, rfl⟩
    rw [hL] at e hcc1
    have HE := Lib.hid e
    have HL := Lib.hid hL
    have c0 := hrm.c0
    rw [e] at c0
    unfold maxLen at hcc2
    have hLn : L ≤ 1010 := by rw [← hL]; omega
    have HR0 : Hid (RM wr Dk X vlk vwk Mk Wk ∧ Below wr.heap.size wr wr) := ⟨hrm, Below.refl _ _⟩
    have HB0 : Hid (BS Mk t 0 (-1)) := .inl ⟨rfl, fun j x hj => by omega⟩
    clear hab hrm hm1 hm2 hro hrh hgk e hL hrel
    go_wp2_with fail
    obtain ⟨wh, hwh⟩ : ∃ z : World, z = wr := ⟨_, rfl⟩
    subst hwh
    go_loopw [4, 5] (fun b z wi => ∃ (i : Nat) (bi : Int), i ≤ L ∧ b = .int .i64 bi ∧ z = .int .i64 (i : Int) ∧ Hid (RM wi Dk X vlk vwk Mk Wk ∧ Below wh.heap.size wh wi) ∧ Hid (BS Mk t i bi)) (fun _ z _ => L - (intOf z).toNat)
    case atStart => exact ⟨0, -1, by omega, rfl, rfl, HR0, HB0⟩
    case round =>
      clear HR0 HB0 c0
      obtain ⟨i, bi, hi, rfl, rfl, HRI, HBS⟩ := hrel
      have c0 := HRI.out.1.c0
      rw [HE.out] at c0
      by_cases hlt : i < L
      · have y0 : (i : Int) < L := by omega
        obtain ⟨x, hx⟩ : ∃ x, Mk[i]? = some x := ⟨_, List.getElem?_eq_getElem (by rw [HL.out]; exact hlt)⟩
        obtain ⟨g, cp, e, _, _, hgl, hgD, d0, d1, d2, d3, d4, d5, d6, fr⟩ := HRI.out.1.gl hx
        rw [HE.out, HL.out] at e
        have e1 : al = some ⟨g, 0, none⟩ := by injection e
        subst e1
        obtain ⟨qa, qc, ev, _, _, _, _⟩ := (HRI.out.1.qv hx).1
        obtain ⟨ql, hql⟩ : ∃ m, x.q.length = m := ⟨_, rfl⟩
        rw [ev, hql] at d6
        obtain ⟨od, hod⟩ : ∃ b, x.od = b := ⟨_, rfl⟩
        rw [hod] at d3
        have HOD := Lib.hid hod
        have HX := Lib.hid hx
        have bal : Below wr.heap.size wr (wr.alloc (.cells #[.int .i64 x.id, .bool x.mx, .int .i64 x.lv, .bool od, .int .i64 x.ow, .int .i64 x.ct, .slice qa ql qc] 88)) := (Below.refl _ _).alloc (Nat.le_refl _) _
        have hrow : Row (wr.alloc (.cells #[.int .i64 x.id, .bool x.mx, .int .i64 x.lv, .bool od, .int .i64 x.ow, .int .i64 x.ct, .slice qa ql qc] 88)) wr.heap.size 88 7 (fun j => if j = 0 then .int .i64 x.id else if j = 1 then .bool x.mx else if j = 2 then .int .i64 x.lv else if j = 3 then .bool od else if j = 4 then .int .i64 x.ow else if j = 5 then .int .i64 x.ct else .slice qa ql qc) := Row.ofList wr 88 _ _ 7 rfl
        have SR : Hid ((wr.alloc (.cells #[.int .i64 x.id, .bool x.mx, .int .i64 x.lv, .bool od, .int .i64 x.ow, .int .i64 x.ct, .slice qa ql qc] 88)).drew.cell? ⟨wr.heap.size, 3, none⟩ = some (.bool od) ∧ (wr.alloc (.cells #[.int .i64 x.id, .bool x.mx, .int .i64 x.lv, .bool od, .int .i64 x.ow, .int .i64 x.ct, .slice qa ql qc] 88)).drew.cell? ⟨wr.heap.size, 4, none⟩ = some (.int .i64 x.ow) ∧ (wr.alloc (.cells #[.int .i64 x.id, .bool x.mx, .int .i64 x.lv, .bool od, .int .i64 x.ow, .int .i64 x.ct, .slice qa ql qc] 88)).drew.cell? ⟨wr.heap.size, 2, none⟩ = some (.int .i64 x.lv) ∧ (wr.alloc (.cells #[.int .i64 x.id, .bool x.mx, .int .i64 x.lv, .bool od, .int .i64 x.ow, .int .i64 x.ct, .slice qa ql qc] 88)).drew.cell? ⟨wr.heap.size, 0, none⟩ = some (.int .i64 x.id) ∧ (wr.alloc (.cells #[.int .i64 x.id, .bool x.mx, .int .i64 x.lv, .bool od, .int .i64 x.ow, .int .i64 x.ct, .slice qa ql qc] 88)).drew.cell? ⟨X, 0, none⟩ = some (.slice (some ⟨g, 0, none⟩) L cap)) := ⟨hrow.cell (i := 3) (by omega), hrow.cell (i := 4) (by omega), hrow.cell (i := 2) (by omega), hrow.cell (i := 0) (by omega), cell_later bal.drew c0⟩
        have HR3 : Hid (RM (wr.alloc (.cells #[.int .i64 x.id, .bool x.mx, .int .i64 x.lv, .bool od, .int .i64 x.ow, .int .i64 x.ct, .slice qa ql qc] 88)).drew Dk X (.slice (some ⟨g, 0, none⟩) L cap) vwk Mk Wk ∧ Below wh.heap.size wh (wr.alloc (.cells #[.int .i64 x.id, .bool x.mx, .int .i64 x.lv, .bool od, .int .i64 x.ow, .int .i64 x.ct, .slice qa ql qc] 88)).drew) := by
          have h9 := (HRI.out.1.below bal).drew
          rw [HE.out] at h9
          exact ⟨h9, (HRI.out.2.trans (bal.mono HRI.out.2.size)).drew⟩
        have HE3 : Hid (vlk = .slice (some ⟨g, 0, none⟩) L cap) := HE.out
        clear hx e ev hql hod bal hrow fr
        go_upto_region 7 with fail
        obtain ⟨T, hT⟩ : ∃ T, wr.heap.size = T := ⟨_, rfl⟩
        simp only [hT]
        rw [hT] at SR
        have hdr : (wr.alloc (.cells #[.int .i64 x.id, .bool x.mx, .int .i64 x.lv, .bool od, .int .i64 x.ow, .int .i64 x.ct, .slice qa ql qc] 88)).drew = (wr.alloc (.cells #[.int .i64 x.id, .bool x.mx, .int .i64 x.lv, .bool od, .int .i64 x.ow, .int .i64 x.ct, .slice qa ql qc] 88)).drew := rfl
        obtain ⟨w3, hw3⟩ : ∃ z, (wr.alloc (.cells #[.int .i64 x.id, .bool x.mx, .int .i64 x.lv, .bool od, .int .i64 x.ow, .int .i64 x.ct, .slice qa ql qc] 88)).drew = z := ⟨_, rfl⟩
        rw [hw3] at SR HR3
        clear hdr
        have hdr := hw3
        rw [← HE3.out] at HR3
        clear hT hw3 d0 d1 d2 d3 d4 d5 d6 c0
        cases od
        · have HB2 := Lib.hid (HBS.out.skip HX.out (fun h => by rw [HOD.out] at h; cases h.1))
          have SX : Hid (w3.cell? ⟨T, 3, none⟩ = some (.bool false) ∧ w3.cell? ⟨T, 4, none⟩ = some (.int .i64 x.ow) ∧ w3.cell? ⟨T, 2, none⟩ = some (.int .i64 x.lv) ∧ w3.cell? ⟨T, 0, none⟩ = some (.int .i64 x.id) ∧ w3.cell? ⟨X, 0, none⟩ = some (.slice (some ⟨g, 0, none⟩) L cap)) := ⟨SR.out.1, SR.out.2.1, SR.out.2.2.1, SR.out.2.2.2.1, SR.out.2.2.2.2⟩
          refine wp_region_pl (fun Y => Y.cell? ⟨T, 3, none⟩ = some (.bool false) ∧ Y.cell? ⟨T, 4, none⟩ = some (.int .i64 x.ow) ∧ Y.cell? ⟨T, 2, none⟩ = some (.int .i64 x.lv) ∧ Y.cell? ⟨T, 0, none⟩ = some (.int .i64 x.id) ∧ Y.cell? ⟨X, 0, none⟩ = some (.slice (some ⟨g, 0, none⟩) L cap)) ((0, 0) :: (1, 0) :: (2, 0) :: (3, 0) :: (4, 0) :: (5, 0) :: (6, 0) :: (7, 0) :: (8, 0) :: (9, 0) :: (10, 0) :: (11, 0) :: (12, 0) :: (13, 0) :: (14, 0) :: (15, 0) :: (16, 0) :: (17, 0) :: (18, 0) :: (19, 0) :: (20, 0) :: (21, 0) :: (22, 0) :: (23, 0) :: (24, 0) :: (25, 0) :: (26, 0) :: (27, 0) :: (28, 0) :: (29, 0) :: (30, 0) :: (31, 0) :: (32, 0) :: (33, 0) :: (34, 0) :: (35, 0) :: (36, 0) :: (37, 0) :: (38, 0) :: (39, 0) :: (40, 0) :: (41, 0) :: (42, 0) :: (43, 0) :: (44, 0) :: (45, 0) :: (46, 0) :: (47, 0) :: (48, 0) :: (49, 0) :: (50, 0) :: []) (by kernel_rfl) (by kernel_rfl) ?_
          try simp only [hdr]
          iterate 3 (apply wpP_go; (focus rfl); (focus rfl); (focus exact SX.out); (focus (rintro Q ⟨s0, s1, s2, s3, s4⟩; go_simp; exact rfl)); intro K hK; go_simp; refine hK _ ?_; clear hK K)
          iterate 4 (apply wpP_not; (focus rfl); (focus rfl); (focus exact SX.out); intro K hK; go_simp; refine hK _ ?_; clear hK K)
          iterate 2 (apply wpP_go; (focus rfl); (focus rfl); (focus exact SX.out); (focus (rintro Q ⟨s0, s1, s2, s3, s4⟩; go_simp; exact rfl)); intro K hK; go_simp; refine hK _ ?_; clear hK K)
          iterate 41 (apply wpP_not; (focus rfl); (focus rfl); (focus exact SX.out); intro K hK; go_simp; refine hK _ ?_; clear hK K)
          iterate 1 (apply wpP_go; (focus rfl); (focus rfl); (focus exact SX.out); (focus (rintro Q ⟨s0, s1, s2, s3, s4⟩; go_simp; exact rfl)); intro K hK; go_simp; refine hK _ ?_; clear hK K)
          refine wpP_done ?_
          clear SX SR
          go_wp2_with fail
          go_roundw
          case rel => exact ⟨i + 1, bi, by omega, rfl, by go_num, HR3, HB2⟩
          case measure => simp [intOf]; omega
        · by_cases how : x.ow = t
          · have howb : (x.ow == t) = true := by simpa using how
            have HOW := Lib.hid how
            clear how
            rcases hbc : HBS.out with ⟨rfl, _⟩ | ⟨b, y, rfl, hbi, hyb, hyo, hyw, _⟩
            · clear hbc
              have HB2 := Lib.hid (HBS.out.first HX.out HOD.out HOW.out)
              have SX : Hid (w3.cell? ⟨T, 3, none⟩ = some (.bool true) ∧ w3.cell? ⟨T, 4, none⟩ = some (.int .i64 x.ow) ∧ w3.cell? ⟨T, 2, none⟩ = some (.int .i64 x.lv) ∧ w3.cell? ⟨T, 0, none⟩ = some (.int .i64 x.id) ∧ w3.cell? ⟨X, 0, none⟩ = some (.slice (some ⟨g, 0, none⟩) L cap)) := ⟨SR.out.1, SR.out.2.1, SR.out.2.2.1, SR.out.2.2.2.1, SR.out.2.2.2.2⟩
              refine wp_region_pl (fun Y => Y.cell? ⟨T, 3, none⟩ = some (.bool true) ∧ Y.cell? ⟨T, 4, none⟩ = some (.int .i64 x.ow) ∧ Y.cell? ⟨T, 2, none⟩ = some (.int .i64 x.lv) ∧ Y.cell? ⟨T, 0, none⟩ = some (.int .i64 x.id) ∧ Y.cell? ⟨X, 0, none⟩ = some (.slice (some ⟨g, 0, none⟩) L cap)) ((0, 0) :: (1, 0) :: (2, 0) :: (3, 0) :: (4, 0) :: (5, 0) :: (6, 0) :: (7, 0) :: (8, 0) :: (9, 0) :: (10, 0) :: (11, 0) :: (12, 0) :: (13, 0) :: (14, 0) :: (15, 0) :: (16, 0) :: (17, 0) :: (18, 0) :: (19, 0) :: (20, 0) :: (21, 0) :: (22, 0) :: (23, 0) :: (24, 0) :: (25, 0) :: (26, 0) :: (27, 0) :: (28, 0) :: (29, 0) :: (30, 0) :: (31, 0) :: (32, 0) :: (33, 0) :: (34, 0) :: (35, 0) :: (36, 0) :: (37, 0) :: (38, 0) :: (39, 0) :: (40, 0) :: (41, 0) :: (42, 0) :: (43, 0) :: (44, 0) :: (45, 0) :: (46, 0) :: (47, 0) :: (48, 0) :: (49, 0) :: (50, 0) :: []) (by kernel_rfl) (by kernel_rfl) ?_
              try simp only [hdr]
              iterate 12 (apply wpP_go; (focus rfl); (focus rfl); (focus exact SX.out); (focus (rintro Q ⟨s0, s1, s2, s3, s4⟩; go_simp; exact rfl)); intro K hK; go_simp; refine hK _ ?_; clear hK K)
              iterate 11 (apply wpP_not; (focus rfl); (focus rfl); (focus exact SX.out); intro K hK; go_simp; refine hK _ ?_; clear hK K)
              iterate 2 (apply wpP_go; (focus rfl); (focus rfl); (focus exact SX.out); (focus (rintro Q ⟨s0, s1, s2, s3, s4⟩; go_simp; exact rfl)); intro K hK; go_simp; refine hK _ ?_; clear hK K)
              iterate 24 (apply wpP_not; (focus rfl); (focus rfl); (focus exact SX.out); intro K hK; go_simp; refine hK _ ?_; clear hK K)
              iterate 2 (apply wpP_go; (focus rfl); (focus rfl); (focus exact SX.out); (focus (rintro Q ⟨s0, s1, s2, s3, s4⟩; go_simp; exact rfl)); intro K hK; go_simp; refine hK _ ?_; clear hK K)
              refine wpP_done ?_
              clear SX SR
              go_wp2_with fail
              go_roundw
              case rel => exact ⟨i + 1, (i : Int), by omega, rfl, by go_num, HR3, HB2⟩
              case measure => simp [intOf]; omega
            · clear hbc
              have hgb := HR3.out.1.gl hyb
              obtain ⟨g', cp', e, _, _, _, _, b0, _, b2, _⟩ := hgb
              rw [HE3.out, HL.out] at e
              obtain ⟨e1, _, _⟩ := sl_inj e
              subst e1
              have SB : Hid (w3.cell? ⟨g, b * 7, none⟩ = some (.int .i64 y.id) ∧ w3.cell? ⟨g, b * 7 + 2, none⟩ = some (.int .i64 y.lv)) := ⟨b0, b2⟩
              have hbL : b < L := by omega
              have HYB := Lib.hid hyb
              have hb0 : ¬ (b : Int) < 0 := by omega
              clear e b0 b2 hyo hyw hyb
              by_cases hlv : y.lv < x.lv
              · have hlv2 : x.lv > y.lv := hlv
                have HB2 := Lib.hid (HBS.out.take HX.out HYB.out HOD.out HOW.out (.inl hlv))
                have SX : Hid (w3.cell? ⟨T, 3, none⟩ = some (.bool true) ∧ w3.cell? ⟨T, 4, none⟩ = some (.int .i64 x.ow) ∧ w3.cell? ⟨T, 2, none⟩ = some (.int .i64 x.lv) ∧ w3.cell? ⟨T, 0, none⟩ = some (.int .i64 x.id) ∧ w3.cell? ⟨X, 0, none⟩ = some (.slice (some ⟨g, 0, none⟩) L cap) ∧ w3.cell? ⟨g, b * 7, none⟩ = some (.int .i64 y.id) ∧ w3.cell? ⟨g, b * 7 + 2, none⟩ = some (.int .i64 y.lv)) := ⟨SR.out.1, SR.out.2.1, SR.out.2.2.1, SR.out.2.2.2.1, SR.out.2.2.2.2, SB.out.1, SB.out.2⟩
                refine wp_region_pl (fun Y => Y.cell? ⟨T, 3, none⟩ = some (.bool true) ∧ Y.cell? ⟨T, 4, none⟩ = some (.int .i64 x.ow) ∧ Y.cell? ⟨T, 2, none⟩ = some (.int .i64 x.lv) ∧ Y.cell? ⟨T, 0, none⟩ = some (.int .i64 x.id) ∧ Y.cell? ⟨X, 0, none⟩ = some (.slice (some ⟨g, 0, none⟩) L cap) ∧ Y.cell? ⟨g, b * 7, none⟩ = some (.int .i64 y.id) ∧ Y.cell? ⟨g, b * 7 + 2, none⟩ = some (.int .i64 y.lv)) ((0, 0) :: (1, 0) :: (2, 0) :: (3, 0) :: (4, 0) :: (5, 0) :: (6, 0) :: (7, 0) :: (8, 0) :: (9, 0) :: (10, 0) :: (11, 0) :: (12, 0) :: (13, 0) :: (14, 0) :: (15, 0) :: (16, 0) :: (17, 0) :: (18, 0) :: (19, 0) :: (20, 0) :: (21, 0) :: (22, 0) :: (23, 0) :: (24, 0) :: (25, 0) :: (26, 0) :: (27, 0) :: (28, 0) :: (29, 0) :: (30, 0) :: (31, 0) :: (32, 0) :: (33, 0) :: (34, 0) :: (35, 0) :: (36, 0) :: (37, 0) :: (38, 0) :: (39, 0) :: (40, 0) :: (41, 0) :: (42, 0) :: (43, 0) :: (44, 0) :: (45, 0) :: (46, 0) :: (47, 0) :: (48, 0) :: (49, 0) :: (50, 0) :: []) (by kernel_rfl) (by kernel_rfl) ?_
                try simp only [hdr]
                iterate 25 (apply wpP_go; (focus rfl); (focus rfl); (focus exact SX.out); (focus (rintro Q ⟨s0, s1, s2, s3, s4, s5, s6⟩; go_simp; exact rfl)); intro K hK; go_simp; refine hK _ ?_; clear hK K)
                iterate 24 (apply wpP_not; (focus rfl); (focus rfl); (focus exact SX.out); intro K hK; go_simp; refine hK _ ?_; clear hK K)
                iterate 2 (apply wpP_go; (focus rfl); (focus rfl); (focus exact SX.out); (focus (rintro Q ⟨s0, s1, s2, s3, s4, s5, s6⟩; go_simp; exact rfl)); intro K hK; go_simp; refine hK _ ?_; clear hK K)
                refine wpP_done ?_
                clear SX SR
                go_wp2_with fail
                go_roundw
                case rel => exact ⟨i + 1, (i : Int), by omega, rfl, by go_num, HR3, HB2⟩
                case measure => simp [intOf]; omega
              · have hlv2 : ¬ x.lv > y.lv := hlv
                by_cases heq : x.lv = y.lv
                · have heqb : (x.lv == y.lv) = true := by simpa using heq
                  have HEQ := Lib.hid heq
                  clear heq
                  by_cases hid' : y.id < x.id
                  · have hid2 : x.id > y.id := hid'
                    have HB2 := Lib.hid (HBS.out.take HX.out HYB.out HOD.out HOW.out (.inr ⟨HEQ.out, hid'⟩))
                    have SX : Hid (w3.cell? ⟨T, 3, none⟩ = some (.bool true) ∧ w3.cell? ⟨T, 4, none⟩ = some (.int .i64 x.ow) ∧ w3.cell? ⟨T, 2, none⟩ = some (.int .i64 x.lv) ∧ w3.cell? ⟨T, 0, none⟩ = some (.int .i64 x.id) ∧ w3.cell? ⟨X, 0, none⟩ = some (.slice (some ⟨g, 0, none⟩) L cap) ∧ w3.cell? ⟨g, b * 7, none⟩ = some (.int .i64 y.id) ∧ w3.cell? ⟨g, b * 7 + 2, none⟩ = some (.int .i64 y.lv)) := ⟨SR.out.1, SR.out.2.1, SR.out.2.2.1, SR.out.2.2.2.1, SR.out.2.2.2.2, SB.out.1, SB.out.2⟩
                    refine wp_region_pl (fun Y => Y.cell? ⟨T, 3, none⟩ = some (.bool true) ∧ Y.cell? ⟨T, 4, none⟩ = some (.int .i64 x.ow) ∧ Y.cell? ⟨T, 2, none⟩ = some (.int .i64 x.lv) ∧ Y.cell? ⟨T, 0, none⟩ = some (.int .i64 x.id) ∧ Y.cell? ⟨X, 0, none⟩ = some (.slice (some ⟨g, 0, none⟩) L cap) ∧ Y.cell? ⟨g, b * 7, none⟩ = some (.int .i64 y.id) ∧ Y.cell? ⟨g, b * 7 + 2, none⟩ = some (.int .i64 y.lv)) ((0, 0) :: (1, 0) :: (2, 0) :: (3, 0) :: (4, 0) :: (5, 0) :: (6, 0) :: (7, 0) :: (8, 0) :: (9, 0) :: (10, 0) :: (11, 0) :: (12, 0) :: (13, 0) :: (14, 0) :: (15, 0) :: (16, 0) :: (17, 0) :: (18, 0) :: (19, 0) :: (20, 0) :: (21, 0) :: (22, 0) :: (23, 0) :: (24, 0) :: (25, 0) :: (26, 0) :: (27, 0) :: (28, 0) :: (29, 0) :: (30, 0) :: (31, 0) :: (32, 0) :: (33, 0) :: (34, 0) :: (35, 0) :: (36, 0) :: (37, 0) :: (38, 0) :: (39, 0) :: (40, 0) :: (41, 0) :: (42, 0) :: (43, 0) :: (44, 0) :: (45, 0) :: (46, 0) :: (47, 0) :: (48, 0) :: (49, 0) :: (50, 0) :: []) (by kernel_rfl) (by kernel_rfl) ?_
                    try simp only [hdr]
                    iterate 51 (apply wpP_go; (focus rfl); (focus rfl); (focus exact SX.out); (focus (rintro Q ⟨s0, s1, s2, s3, s4, s5, s6⟩; go_simp; exact rfl)); intro K hK; go_simp; refine hK _ ?_; clear hK K)
                    refine wpP_done ?_
                    clear SX SR
                    go_wp2_with fail
                    go_roundw
                    case rel => exact ⟨i + 1, (i : Int), by omega, rfl, by go_num, HR3, HB2⟩
                    case measure => simp [intOf]; omega
                  · have hid2 : ¬ x.id > y.id := hid'
                    have HB2 := Lib.hid (HBS.out.keep HX.out HYB.out (by
                      have hne : y.id ≠ x.id := fun e => by
                        have := nodup_at (f := (·.id)) HR.out.2.2.2.2.1.nd HYB.out HX.out e
                        omega
                      exact .inr ⟨HEQ.out.symm, by omega⟩))
                    have SX : Hid (w3.cell? ⟨T, 3, none⟩ = some (.bool true) ∧ w3.cell? ⟨T, 4, none⟩ = some (.int .i64 x.ow) ∧ w3.cell? ⟨T, 2, none⟩ = some (.int .i64 x.lv) ∧ w3.cell? ⟨T, 0, none⟩ = some (.int .i64 x.id) ∧ w3.cell? ⟨X, 0, none⟩ = some (.slice (some ⟨g, 0, none⟩) L cap) ∧ w3.cell? ⟨g, b * 7, none⟩ = some (.int .i64 y.id) ∧ w3.cell? ⟨g, b * 7 + 2, none⟩ = some (.int .i64 y.lv)) := ⟨SR.out.1, SR.out.2.1, SR.out.2.2.1, SR.out.2.2.2.1, SR.out.2.2.2.2, SB.out.1, SB.out.2⟩
                    refine wp_region_pl (fun Y => Y.cell? ⟨T, 3, none⟩ = some (.bool true) ∧ Y.cell? ⟨T, 4, none⟩ = some (.int .i64 x.ow) ∧ Y.cell? ⟨T, 2, none⟩ = some (.int .i64 x.lv) ∧ Y.cell? ⟨T, 0, none⟩ = some (.int .i64 x.id) ∧ Y.cell? ⟨X, 0, none⟩ = some (.slice (some ⟨g, 0, none⟩) L cap) ∧ Y.cell? ⟨g, b * 7, none⟩ = some (.int .i64 y.id) ∧ Y.cell? ⟨g, b * 7 + 2, none⟩ = some (.int .i64 y.lv)) ((0, 0) :: (1, 0) :: (2, 0) :: (3, 0) :: (4, 0) :: (5, 0) :: (6, 0) :: (7, 0) :: (8, 0) :: (9, 0) :: (10, 0) :: (11, 0) :: (12, 0) :: (13, 0) :: (14, 0) :: (15, 0) :: (16, 0) :: (17, 0) :: (18, 0) :: (19, 0) :: (20, 0) :: (21, 0) :: (22, 0) :: (23, 0) :: (24, 0) :: (25, 0) :: (26, 0) :: (27, 0) :: (28, 0) :: (29, 0) :: (30, 0) :: (31, 0) :: (32, 0) :: (33, 0) :: (34, 0) :: (35, 0) :: (36, 0) :: (37, 0) :: (38, 0) :: (39, 0) :: (40, 0) :: (41, 0) :: (42, 0) :: (43, 0) :: (44, 0) :: (45, 0) :: (46, 0) :: (47, 0) :: (48, 0) :: (49, 0) :: (50, 0) :: []) (by kernel_rfl) (by kernel_rfl) ?_
                    try simp only [hdr]
                    iterate 51 (apply wpP_go; (focus rfl); (focus rfl); (focus exact SX.out); (focus (rintro Q ⟨s0, s1, s2, s3, s4, s5, s6⟩; go_simp; exact rfl)); intro K hK; go_simp; refine hK _ ?_; clear hK K)
                    refine wpP_done ?_
                    clear SX SR
                    go_wp2_with fail
                    go_roundw
                    case rel => exact ⟨i + 1, (b : Int), by omega, rfl, by go_num, HR3, HB2⟩
                    case measure => simp [intOf]; omega
                · have heqb : (x.lv == y.lv) = false := by simpa using heq
                  have HB2 := Lib.hid (HBS.out.keep HX.out HYB.out (.inl (by omega)))
                  clear heq
                  have SX : Hid (w3.cell? ⟨T, 3, none⟩ = some (.bool true) ∧ w3.cell? ⟨T, 4, none⟩ = some (.int .i64 x.ow) ∧ w3.cell? ⟨T, 2, none⟩ = some (.int .i64 x.lv) ∧ w3.cell? ⟨T, 0, none⟩ = some (.int .i64 x.id) ∧ w3.cell? ⟨X, 0, none⟩ = some (.slice (some ⟨g, 0, none⟩) L cap) ∧ w3.cell? ⟨g, b * 7, none⟩ = some (.int .i64 y.id) ∧ w3.cell? ⟨g, b * 7 + 2, none⟩ = some (.int .i64 y.lv)) := ⟨SR.out.1, SR.out.2.1, SR.out.2.2.1, SR.out.2.2.2.1, SR.out.2.2.2.2, SB.out.1, SB.out.2⟩
                  refine wp_region_pl (fun Y => Y.cell? ⟨T, 3, none⟩ = some (.bool true) ∧ Y.cell? ⟨T, 4, none⟩ = some (.int .i64 x.ow) ∧ Y.cell? ⟨T, 2, none⟩ = some (.int .i64 x.lv) ∧ Y.cell? ⟨T, 0, none⟩ = some (.int .i64 x.id) ∧ Y.cell? ⟨X, 0, none⟩ = some (.slice (some ⟨g, 0, none⟩) L cap) ∧ Y.cell? ⟨g, b * 7, none⟩ = some (.int .i64 y.id) ∧ Y.cell? ⟨g, b * 7 + 2, none⟩ = some (.int .i64 y.lv)) ((0, 0) :: (1, 0) :: (2, 0) :: (3, 0) :: (4, 0) :: (5, 0) :: (6, 0) :: (7, 0) :: (8, 0) :: (9, 0) :: (10, 0) :: (11, 0) :: (12, 0) :: (13, 0) :: (14, 0) :: (15, 0) :: (16, 0) :: (17, 0) :: (18, 0) :: (19, 0) :: (20, 0) :: (21, 0) :: (22, 0) :: (23, 0) :: (24, 0) :: (25, 0) :: (26, 0) :: (27, 0) :: (28, 0) :: (29, 0) :: (30, 0) :: (31, 0) :: (32, 0) :: (33, 0) :: (34, 0) :: (35, 0) :: (36, 0) :: (37, 0) :: (38, 0) :: (39, 0) :: (40, 0) :: (41, 0) :: (42, 0) :: (43, 0) :: (44, 0) :: (45, 0) :: (46, 0) :: (47, 0) :: (48, 0) :: (49, 0) :: (50, 0) :: []) (by kernel_rfl) (by kernel_rfl) ?_
                  try simp only [hdr]
                  iterate 37 (apply wpP_go; (focus rfl); (focus rfl); (focus exact SX.out); (focus (rintro Q ⟨s0, s1, s2, s3, s4, s5, s6⟩; go_simp; exact rfl)); intro K hK; go_simp; refine hK _ ?_; clear hK K)
                  iterate 11 (apply wpP_not; (focus rfl); (focus rfl); (focus exact SX.out); intro K hK; go_simp; refine hK _ ?_; clear hK K)
                  iterate 3 (apply wpP_go; (focus rfl); (focus rfl); (focus exact SX.out); (focus (rintro Q ⟨s0, s1, s2, s3, s4, s5, s6⟩; go_simp; exact rfl)); intro K hK; go_simp; refine hK _ ?_; clear hK K)
                  refine wpP_done ?_
                  clear SX SR
                  go_wp2_with fail
                  go_roundw
                  case rel => exact ⟨i + 1, (b : Int), by omega, rfl, by go_num, HR3, HB2⟩
                  case measure => simp [intOf]; omega
          · have howb : (x.ow == t) = false := by simpa using how
            have HB2 := Lib.hid (HBS.out.skip HX.out (fun h => how h.2))
            clear how
            have SX : Hid (w3.cell? ⟨T, 3, none⟩ = some (.bool true) ∧ w3.cell? ⟨T, 4, none⟩ = some (.int .i64 x.ow) ∧ w3.cell? ⟨T, 2, none⟩ = some (.int .i64 x.lv) ∧ w3.cell? ⟨T, 0, none⟩ = some (.int .i64 x.id) ∧ w3.cell? ⟨X, 0, none⟩ = some (.slice (some ⟨g, 0, none⟩) L cap)) := ⟨SR.out.1, SR.out.2.1, SR.out.2.2.1, SR.out.2.2.2.1, SR.out.2.2.2.2⟩
            refine wp_region_pl (fun Y => Y.cell? ⟨T, 3, none⟩ = some (.bool true) ∧ Y.cell? ⟨T, 4, none⟩ = some (.int .i64 x.ow) ∧ Y.cell? ⟨T, 2, none⟩ = some (.int .i64 x.lv) ∧ Y.cell? ⟨T, 0, none⟩ = some (.int .i64 x.id) ∧ Y.cell? ⟨X, 0, none⟩ = some (.slice (some ⟨g, 0, none⟩) L cap)) ((0, 0) :: (1, 0) :: (2, 0) :: (3, 0) :: (4, 0) :: (5, 0) :: (6, 0) :: (7, 0) :: (8, 0) :: (9, 0) :: (10, 0) :: (11, 0) :: (12, 0) :: (13, 0) :: (14, 0) :: (15, 0) :: (16, 0) :: (17, 0) :: (18, 0) :: (19, 0) :: (20, 0) :: (21, 0) :: (22, 0) :: (23, 0) :: (24, 0) :: (25, 0) :: (26, 0) :: (27, 0) :: (28, 0) :: (29, 0) :: (30, 0) :: (31, 0) :: (32, 0) :: (33, 0) :: (34, 0) :: (35, 0) :: (36, 0) :: (37, 0) :: (38, 0) :: (39, 0) :: (40, 0) :: (41, 0) :: (42, 0) :: (43, 0) :: (44, 0) :: (45, 0) :: (46, 0) :: (47, 0) :: (48, 0) :: (49, 0) :: (50, 0) :: []) (by kernel_rfl) (by kernel_rfl) ?_
            try simp only [hdr]
            iterate 9 (apply wpP_go; (focus rfl); (focus rfl); (focus exact SX.out); (focus (rintro Q ⟨s0, s1, s2, s3, s4⟩; go_simp; exact rfl)); intro K hK; go_simp; refine hK _ ?_; clear hK K)
            iterate 41 (apply wpP_not; (focus rfl); (focus rfl); (focus exact SX.out); intro K hK; go_simp; refine hK _ ?_; clear hK K)
            iterate 1 (apply wpP_go; (focus rfl); (focus rfl); (focus exact SX.out); (focus (rintro Q ⟨s0, s1, s2, s3, s4⟩; go_simp; exact rfl)); intro K hK; go_simp; refine hK _ ?_; clear hK K)
            refine wpP_done ?_
            clear SX SR
            go_wp2_with fail
            go_roundw
            case rel => exact ⟨i + 1, bi, by omega, rfl, by go_num, HR3, HB2⟩
            case measure => simp [intOf]; omega
      · have y0 : ¬ (i : Int) < L := by omega
        have hiL : i = L := by omega
        subst hiL
        have hsb := HRI.out.2.size
        have HCW : Hid (Ch D w wr) := HR.out.1.ch.trans (Ch.of_below HRI.out.2 _)
        have HDW : Hid (∀ k, Dk k → D k ∨ (w.heap.size ≤ k ∧ k < wr.heap.size)) := fun k hk => (HR.out.1.dr k hk).imp (fun h => h) (fun h => ⟨h.1, by omega⟩)
        rcases hbc : HBS.out with ⟨rfl, hno⟩ | ⟨b, y, rfl, hbi, hyb, hyo, hyw, hmax⟩
        · have hempty : ∀ a, a ∉ (stT (abF (ab0 s t) l) t).hd := fun a ha => by
            obtain ⟨z, hz, k1, k2, k3⟩ := (HR.out.1.si.hd t a).1 ha
            obtain ⟨v, hv, rfl⟩ := HR.out.2.2.2.2.1.all a (by rw [hz]; rfl)
            obtain ⟨j, hj⟩ := List.mem_iff_getElem?.1 hv
            have hat := HR.out.2.2.2.2.1.at hj
            rw [hz] at hat
            injection hat with hat
            subst hat
            refine hno j v (by rw [← HL.out]; exact (List.getElem?_eq_some_iff.1 hj).1) hj ⟨?_, k3⟩
            rw [HR.out.2.2.2.2.1.od hj]
            exact Bool.and_eq_true _ _ ▸ ⟨k1, decide_eq_true k2⟩
          have HF : Hid (∃ l, l.Pairwise (gtO s) ∧ (∀ a, a ∈ l ↔ a ∈ (stT s t).hd) ∧ RP w D X (n + 8) (abF (ab0 s t) l) wr) := ⟨l, HR.out.1.pw, fun a => by
            rw [HR.out.1.mem a]
            exact ⟨.inl, fun h => h.elim (fun h => h) (fun h => absurd h (hempty a))⟩, Dk, RK.mk' HRI.out.1 (by have := HR.out.2.2.1; omega) (by have := HR.out.2.2.2.1; omega) HR.out.2.2.2.2.1 HR.out.2.2.2.2.2.1, HCW.out, HDW.out⟩
          clear hbc hno hempty
          go_wp2_with fail
          (try simp only [Exit.inBlock, Exit.then])
          refine bodyPost_ret (results_none rfl _ _ _) rfl ?_
          exact ⟨rfl, HF.out⟩
        · have hat := HR.out.2.2.2.2.1.at hyb
          have hodv := HR.out.2.2.2.2.1.od hyb
          rw [hyo] at hodv
          replace hodv := hodv.symm
          rw [Bool.and_eq_true] at hodv
          have hfree := free_of HR.out.1.si hat hodv.1 hyw HR.out.1.st ht
          have HPA := Lib.hid (rpass_any HRI.out.1 HR.out.2.2.1 HR.out.2.2.2.1 (by omega) hyb hodv.1 (s := abF (ab0 s t) l) (fun x' h1 h2 => HR.out.2.2.2.2.1.set hyb h1 h2 rfl) HR.out.2.2.2.2.2.1)
          have hpf := pass_free (s := abF (ab0 s t) l) (s' := abF (ab0 s t) l) (x := y) (y := y.ob) (id := y.id) rfl hat rfl rfl rfl (fun _ _ => rfl) (fun _ => rfl)
          have hin : y.id ∈ (stT (abF (ab0 s t) l) t).hd := (HR.out.1.si.hd t y.id).2 ⟨y.ob, hat, hodv.1, of_decide_eq_true hodv.2, hyw⟩
          have HNX : Hid (∀ w5, RP wr Dk X (n + 1 + l.length + 1) (passS (abF (ab0 s t) l) y) w5 → ∃ l' Dk', AB w w5 D X n s t l' Dk' ∧ l'.length = l.length + 1) := fun w5 h5 => by
            obtain ⟨D5, hk5, hc5, hd5⟩ := h5
            have hs5 := hc5.size
            have hsw := HCW.out.size
            have hlv := HR.out.1.lv
            refine ⟨l ++ [y.id], D5, ⟨?_, ?_, ?_, fun j => ?_, ?_, ?_, fun a => ?_, ?_, fun k hk => ?_⟩, by rw [List.length_append]; rfl⟩
            · rw [abF_add, show n + 1 + (l ++ [y.id]).length = n + 1 + l.length + 1 by rw [List.length_append]; rfl]
              exact hk5.congr hpf.1 (fun t => ⟨(hpf.2 t).1, fun _ => (hpf.2 t).2⟩)
            · rw [abF_add]; exact hfree.1
            · rw [abF_add, hfree.2.1]; exact HR.out.1.st
            · rw [abF_add, hfree.2.2.1]; exact hlv j
            · rw [List.pairwise_append]
              exact ⟨HR.out.1.pw, List.pairwise_singleton _ _, fun a ha b hb => by rw [List.mem_singleton.1 hb]; exact HR.out.1.gt a ha _ hin⟩
            · rw [abF_add]
              intro a ha b hb
              obtain ⟨hb1, hb2⟩ := (hfree.2.2.2 b).1 hb
              rcases List.mem_append.1 ha with ha | ha
              · exact HR.out.1.gt a ha b hb2
              · rw [List.mem_singleton.1 ha]
                obtain ⟨z, hz, k1, k2, k3⟩ := (HR.out.1.si.hd t b).1 hb2
                obtain ⟨v, hv, rfl⟩ := HR.out.2.2.2.2.1.all b (by rw [hz]; rfl)
                obtain ⟨j, hj⟩ := List.mem_iff_getElem?.1 hv
                have hatv := HR.out.2.2.2.2.1.at hj
                rw [hz] at hatv
                injection hatv with hatv
                subst hatv
                have hg := hmax j v (by rw [← HL.out]; exact (List.getElem?_eq_some_iff.1 hj).1) hj (by rw [HR.out.2.2.2.2.1.od hj]; exact Bool.and_eq_true _ _ ▸ ⟨k1, decide_eq_true k2⟩) k3 (fun e => hb1 (by rw [e, hyb] at hj; injection hj with hj; rw [hj]))
                have e1 : lvOf s y.id = y.lv := by rw [← hlv]; unfold lvOf; rw [hat]; rfl
                have e2 : lvOf s v.id = v.lv := by rw [← hlv]; unfold lvOf; rw [hz]; rfl
                unfold gtO
                rw [e1, e2]
                exact hg
            · rw [abF_add, HR.out.1.mem a, List.mem_append, List.mem_singleton, hfree.2.2.2 a]
              constructor
              · rintro (h | h)
                · exact .inl (.inl h)
                · by_cases e : a = y.id
                  · exact .inl (.inr e)
                  · exact .inr ⟨e, h⟩
              · rintro ((h | h) | h)
                · exact .inl h
                · rw [h]; exact .inr hin
                · exact .inr h.2
            · exact HCW.out.andThen hc5 (fun k hk hk2 => by
                rcases HDW.out k hk with h | h
                · exact h
                · omega)
            · rcases hd5 k hk with h | ⟨h, h'⟩
              · rcases HDW.out k h with h | ⟨h, h'⟩
                · exact .inl h
                · exact .inr ⟨h, by omega⟩
              · exact .inr ⟨by omega, h'⟩
          have hb0 : ¬ (b : Int) < 0 := by omega
          clear hbc hmax hat hodv hfree hpf hin hyb hyo hyw
          go_wp2_with fail
          refine HPA.out.mono ?_
          rintro e w5 ⟨rfl, h5⟩
          have HA5 := Lib.hid (HNX.out w5 h5)
          clear h5 HPA HNX
          go_wp2_with fail
          obtain ⟨l', Dk', hab', hll'⟩ := HA5.out
          have hlen' := hab'.len HI.out
          go_roundg (7 - l'.length)
          case measure => have := HR.out.2.2.2.2.2.2; omega
          case rel => exact ⟨l', Dk', hab', rfl⟩
end
end Go.Proofs.Ytefgfmnnaglfmaa
