/- BootNextIsUsedOnce walked. Condition: the round constants lie in block 0. -/
import Derived.Test.YtdinbpdpalgohaaGreatDoorY19
namespace Go.Proofs.YtdinbpdpalgohaaGreatDoor
open Go.RowKit
attribute [local go_sem] Ms.set_new
theorem NI.ids {k j i : Nat} {ord : List Int} {b : BM} (h : NI k j i ord b) : ∀ x ∈ b.cand, isId x = true := fun x hx => by
  rw [h.cand] at hx
  have h1 := (List.mem_filter.1 hx).1
  have h2 := List.mem_of_mem_drop h1
  rw [← h.od] at h2
  exact okO_id (ordV_ok _) x h2
theorem stepCells (w : World) (x c : Int) : (w.alloc (.cells #[.int .i64 x, .int .i64 c] 40)).cell? ⟨w.heap.size, 0, none⟩ = some (.int .i64 x) ∧ (w.alloc (.cells #[.int .i64 x, .int .i64 c] 40)).cell? ⟨w.heap.size, 1, none⟩ = some (.int .i64 c) :=
  have h : Row _ _ _ 2 (stp x c) := Row.ofList w 40 _ _ 2 rfl
  ⟨h.cell (i := 0) (by omega), h.cell (i := 1) (by omega)⟩
theorem RdI.cellO {w : World} {g o n c i : Nat} {l : List Int} {x : Int} (h : RdI w (.slice (some ⟨g, o, none⟩) n c) l) (hi : l[i]? = some x) : w.cell? ⟨g, o + i, none⟩ = some (.int .i64 x) := by
  obtain ⟨a', c', e, _, _, _, h4⟩ := h
  obtain ⟨g', o', ea, hx⟩ := h4 (by intro q; rw [q] at hi; cases hi)
  injection e with e1
  rw [ea] at e1
  injection e1 with e1
  injection e1 with e1 e2
  subst e1 e2
  exact hx i x hi
set_option maxRecDepth 100000 in
set_option maxHeartbeats 4000000 in
theorem next_any (a : Option Addr) (len cap : Nat) (l : List BC) (id : Int) (w : World) (hl : CallS w a len cap l) (hr : Ms.Rnd w) (h0 : 0 < w.heap.size) : Calls Tryz.prog 6 #[.slice a len cap, .int .i64 id] w fun e w' => e = .returned (.bool true) ∧ Below w.heap.size w w' := by
  have HA := Lib.hid hl
  have HAW := Lib.hid (awake_any w hr h0)
  have HLG := Lib.hid (large_any a len cap l w hl)
  have HBD := Lib.hid (board_any 1000 (by omega) w hr h0)
  have hcap : len ≤ cap := hl.2.1
  have hcapM := hl.2.2.1
  unfold maxLen at hcapM
  obtain ⟨q, hq⟩ : ∃ q, lrg l = q := ⟨_, rfl⟩
  rw [hq] at HLG
  have HQ := Lib.hid hq
  clear hl hq hr
  have HP0 := Lib.hid h0
  go_enter Tryz.func6, Tryz.ntmps6
  go_wp2_with fail
  refine HLG.out.mono ?_
  rintro e w' ⟨rfl, rfl⟩
  clear HLG
  cases q
  case true =>
    clear HBD
    go_wp2_with fail
    refine HAW.out.mono ?_
    rintro e w' ⟨rfl, b1⟩
    have HB1 := Lib.hid b1
    go_wp2_with fail
    go_ret
    exact ⟨rfl, HB1.out⟩
  case false =>
    have hnb := not_big (l := l) (fun q => by have := (lrg_iff l).2 q; rw [HQ.out] at this; cases this)
    have HOD := Lib.hid hnb.1
    have hle : len ≤ 25 := by have h1 := hnb.2; have h2 := HA.out.1; omega
    clear hnb HAW HQ
    go_wp2_with fail
    refine HBD.out.mono ?_
    rintro e w1 ⟨X, L, M, S, O, fl, rfl, hbw, hcal, b1⟩
    have HB1 := Lib.hid b1
    have HF1 := Lib.hid (BF.of O hbw)
    have HS1 : Hid (SI 0 (⟨fl, st0, [], [], -1, []⟩ : BM)) := ⟨hcal, rfl, rfl, rfl⟩
    clear hbw hcal b1 HBD
    go_wp2_with fail
    go_loopw [9] (fun z wr => ∃ (i : Nat) (b : BM), i ≤ len ∧ z = .int .i64 (i : Int) ∧ Hid (SI i b) ∧ Hid (BF wr w.heap.size (fun _ => False) M S L (32 + i) b) ∧ Hid (Below w.heap.size w wr)) (fun z _ => len - (intOf z).toNat)
    case atStart => exact ⟨0, _, by omega, rfl, HS1, HF1, HB1⟩
    case round =>
      clear HS1 HF1 HB1
      obtain ⟨i, b, hi, rfl, HS, HF, HB⟩ := hrel
      by_cases hlt : i < len
      · have y0 : (i : Int) < len := by omega
        obtain ⟨bb, o, c, rfl, hc, hrd, hx⟩ := HA.out.at hlt
        have hX := hx.below HB.out hx.lt
        have hco : c.od.length ≤ 20 := HOD.out c (List.mem_of_getElem? hc)
        have HMD : Hid (∀ W, Calls Tryz.prog 11 #[.int .i64 c.kd, .int .i64 12] W fun e w' => e = .returned (.int .i64 ((mo c.kd 12 : Nat) : Int)) ∧ W = w') := fun W => mod_any c.kd 12 W (by omega) (by omega)
        have hDO := do_any HF.out HS.out.cal.blk (by omega) (by rw [HS.out.cand]; exact fun x hx => (by cases hx)) (by rw [HS.out.es]; decide) (by rw [HS.out.log]; decide) c (hrd.below HB.out (Nat.le_refl _)) hco
        have hS2 : mo c.kd 12 < 5 → SI (i + 1) (doB b c).2.2 := fun h => do_si HS.out (by omega) h c
        unfold cBa at hDO
        generalize doB b c = r at *
        have HDO := Lib.hid hDO
        have HS2 := Lib.hid hS2
        generalize mo c.kd 12 = m at *
        obtain ⟨c0, c1, c2, c3, c4, c5, c6, clt⟩ := hX
        clear hDO hS2 hx hrd hc hco
        by_cases h5 : m < 5
        · have h5I : (m : Int) < 5 := by omega
          go_wp2_with fail
          refine (HMD.out _).mono ?_
          rintro e w' ⟨rfl, rfl⟩
          go_wp2_with fail
          refine HDO.out.mono ?_
          rintro e w2 ⟨rfl, bl⟩
          have HF2 := Lib.hid bl.bf
          have HB2 : Hid (Below w.heap.size w w2) := HB.out.trans bl.bel
          have HS3 := Lib.hid (HS2.out h5)
          clear bl HDO HF HB HS HS2 c0 c1 c2 c3 c4 c5 c6 clt
          go_wp2_with fail
          go_roundw
          case rel => exact ⟨i + 1, r.2.2, by omega, by go_num, HS3, HF2, HB2⟩
          case measure => simp [intOf]; omega
        · have h5I : ¬ (m : Int) < 5 := by omega
          have HS3 := Lib.hid (HS.out.mono (Nat.le_succ i))
          have HF3 := Lib.hid (HF.out.mono (n' := 32 + (i + 1)) (by omega))
          clear HDO HS2 HS HF
          go_wp2_with fail
          refine (HMD.out _).mono ?_
          rintro e w' ⟨rfl, rfl⟩
          go_wp2_with fail
          go_roundw
          case rel => exact ⟨i + 1, b, by omega, by go_num, HS3, HF3, HB⟩
          case measure => simp [intOf]; omega
      · have y0 : ¬ (i : Int) < len := by omega
        have HMJ : Hid (∀ W, Calls Tryz.prog 11 #[.int .i64 id, .int .i64 5] W fun e w' => e = .returned (.int .i64 ((mo id 5 : Nat) : Int)) ∧ W = w') := fun W => mod_any id 5 W (by omega) (by omega)
        obtain ⟨b1, b2, b3, e1, k1, e2, ⟨k2, i2, s2, l2⟩, e3, ni⟩ := next_plain HS.out (by omega) (j := mo id 5) (mo_lt id 5 (by omega))
        generalize mo id 5 = j at *
        have hi25 : i ≤ 25 := by omega
        have HNI := Lib.hid (And.intro e3 ni)
        have HK2 := Lib.hid (And.intro i2 (And.intro s2 l2))
        have HE2 := Lib.hid (And.intro e2 k2)
        have HE1 := Lib.hid (And.intro e1 k1)
        have HK0 := Lib.hid HS.out.cal.blk
        have HOR := Lib.hid HF.out.order
        clear e1 k1 e2 k2 i2 s2 l2 e3 ni HA HOD
        go_wp2_with fail
        refine (HMJ.out _).mono ?_
        rintro e w' ⟨rfl, rfl⟩
        clear HMJ
        go_wp2_with fail
        refine HOR.out.mono ?_
        rintro e w2 ⟨v, rfl, hv, hvg, bb2⟩
        obtain ⟨oa, oc, rfl, hoc, hocm⟩ := hv.shape
        obtain ⟨F1, hF1, hF2⟩ : ∃ F1 : Nat → Prop, BF w2 w.heap.size F1 M S L 57 b ∧ ∀ g, (Value.slice oa (ordV b.st.V).length oc).ownBlock = some g → F1 g := ⟨_, (HF.out.mono (n' := 57) (by omega)).news bb2, fun g hg => .inr ⟨hvg g hg, by obtain ⟨_, _, e, _, _, h3, _⟩ := hv; exact h3 g hg⟩⟩
        have HFO := Lib.hid hF2
        have HF1 := Lib.hid hF1
        have HB2 : Hid (Below w.heap.size w w2) := HB.out.trans (bb2.mono HB.out.size)
        have HOK := Lib.hid (okO_len (ordV_ok b.st.V))
        have HRO := Lib.hid hv
        have HOI : Hid (∀ x ∈ ordV b.st.V, isId x = true) := fun x hx => okO_id (ordV_ok b.st.V) x hx
        generalize ordV b.st.V = ord at *
        obtain ⟨n, hn⟩ : ∃ n, ord.length = n := ⟨_, rfl⟩
        have HN := Lib.hid hn
        rw [hn] at HRO HFO hoc HOK ⊢
        have hn16 : n ≤ 16 := HOK.out
        have HSN : Hid (Calls Tryz.prog 29 #[fptr M, .int .i64 (j : Int)] w2 fun e w' => e = .returned (.int .i64 0) ∧ BL w2 w' w.heap.size F1 M S L 58 b1) := by
          have := HF1.out.setNext (n := 57) HK0.out (by omega) (j : Int)
          rw [HE1.out.1] at this
          exact this
        clear hv hvg bb2 hF1 hF2 hn HOR HF HB HK0
        go_wp2_with fail
        refine HSN.out.mono ?_
        rintro e w3 ⟨rfl, bl⟩
        have HRO3 := Lib.hid (HRO.out.ch bl.ch (fun g hg q => q (HFO.out g hg)))
        have HB3 : Hid (Below w.heap.size w w3) := HB2.out.trans bl.bel
        have HBG : Hid (Calls Tryz.prog 16 #[fptr M] w3 fun e w' => e = .returned (.int .i64 0) ∧ BL w3 w' w.heap.size F1 M S L 59 b2) := by
          have := bl.bf.begin (n := 58) HE1.out.2 (by omega)
          rw [HE2.out.1] at this
          exact this
        clear bl HSN HF1 HRO HB2 HE1
        go_wp2_with fail
        refine HBG.out.mono ?_
        rintro e w4 ⟨rfl, bl⟩
        have HRO4 := Lib.hid (HRO3.out.ch bl.ch (fun g hg q => q (HFO.out g hg)))
        have HB4 : Hid (Below w.heap.size w w4) := HB3.out.trans bl.bel
        have HTR : Hid (Calls Tryz.prog 17 #[fptr M, .slice none 0 0] w4 (LT w4 w.heap.size F1 M S L 60 (((j : Int), 6), 0, b3))) := by
          have := bl.bf.try (n := 59) HE2.out.2 (by omega) HK2.out.1 (by rw [HK2.out.2.1]; decide) (by rw [HK2.out.2.2]; decide) (RdT.nil _) (fun g hg => (by cases hg)) (fun x hx => (by cases hx))
          rw [HNI.out.1] at this
          exact this
        clear bl HBG HRO3 HB3 HE2 HK2
        go_wp2_with fail
        refine HTR.out.mono ?_
        rintro e w5 ⟨rfl, bl⟩
        obtain ⟨x0, x1⟩ := stepCells w5 (j : Int) 6
        have HF6 := Lib.hid (bl.bf.below (w' := w5.alloc (.cells #[.int .i64 (j : Int), .int .i64 6] 40)) ((Below.refl _ _).alloc (Nat.le_refl _) _))
        have HRO6 : Hid (RdI (w5.alloc (.cells #[.int .i64 (j : Int), .int .i64 6] 40)) (.slice oa n oc) ord) := (HRO4.out.ch bl.ch (fun g hg q => q (HFO.out g hg))).below ((Below.refl _ _).alloc (Nat.le_refl _) _)
        have HB6 : Hid (Below w.heap.size w (w5.alloc (.cells #[.int .i64 (j : Int), .int .i64 6] 40))) := (HB4.out.trans bl.bel).alloc ((HB4.out.trans bl.bel).size) _
        have HN3 := Lib.hid HNI.out.2
        clear bl HTR HRO4 HB4 HNI
        go_wp2_with fail
        generalize w5.alloc (.cells #[.int .i64 (j : Int), .int .i64 6] 40) = w6 at *
        clear x0 x1
        have hkk : i + 2 ≤ 27 := by omega
        generalize i + 2 = k at *
        go_loopw [15] (fun z wq => ∃ (u : Nat) (b : BM), u ≤ n ∧ z = .int .i64 (u : Int) ∧ Hid (NI k j u ord b) ∧ Hid (BF wq w.heap.size F1 M S L (60 + u) b) ∧ Hid (RdI wq (.slice oa n oc) ord) ∧ Hid (Below w.heap.size w wq)) (fun z _ => n - (intOf z).toNat)
        case atStart => exact ⟨0, b3, by omega, rfl, HN3, HF6, HRO6, HB6⟩
        case round =>
          clear HN3 HF6 HRO6 HB6
          obtain ⟨u, b5, hu, rfl, HN3, HF, HRO, HB⟩ := hrel
          by_cases hlu : u < n
          · have y1 : (u : Int) < n := by omega
            have hul : u < ord.length := by rw [HN.out]; exact hlu
            obtain ⟨g, o, c', e, _, _, hc⟩ := HRO.out.cellAt hul
            rw [HN.out] at e
            injection e with e1 _ e3
            subst e1 e3
            by_cases hoj : ord[u] = (j : Int)
            · have HN4 := Lib.hid (ni_skip HN3.out hul hoj)
              have HF4 := Lib.hid (HF.out.mono (n' := 60 + (u + 1)) (by omega))
              rw [hoj] at hc
              clear HN3 HF hoj hul
              go_wp2_with fail
              go_roundw
              case rel => exact ⟨u + 1, b5, by omega, by go_num, HN4, HF4, HRO, HB⟩
              case measure => simp [intOf]; omega
            · obtain ⟨b6, e6, n6⟩ := ni_try HN3.out hul hoj
              have HN6 := Lib.hid n6
              have HOU : Hid (ord[u]? = some ord[u]) := List.getElem?_eq_getElem hul
              have HTR : Hid (Calls Tryz.prog 17 #[fptr M, .slice none 0 0] wr (LT wr w.heap.size F1 M S L (60 + u + 1) ((ord[u], 6), 0, b6))) := by
                have := HF.out.try (n := 60 + u) HN3.out.cal.blk (by omega) HN3.out.ids (by rw [HN3.out.es]; decide) (by have := HN3.out.log; omega) (RdT.nil _) (fun g hg => (by cases hg)) (fun x hx => (by cases hx))
                rw [e6] at this
                exact this
              generalize ord[u] = oi at *
              clear e6 n6 HN3 hul HF
              go_wp2_with fail
              refine HTR.out.mono ?_
              rintro e w7 ⟨rfl, bl⟩
              obtain ⟨x0, x1⟩ := stepCells w7 oi 6
              have HF8 := Lib.hid (bl.bf.below (w' := w7.alloc (.cells #[.int .i64 oi, .int .i64 6] 40)) ((Below.refl _ _).alloc (Nat.le_refl _) _))
              have HRO8 : Hid (RdI (w7.alloc (.cells #[.int .i64 oi, .int .i64 6] 40)) (.slice (some ⟨g, o, none⟩) n oc) ord) := (HRO.out.ch bl.ch (fun g hg q => q (HFO.out g hg))).below ((Below.refl _ _).alloc (Nat.le_refl _) _)
              have HB8 : Hid (Below w.heap.size w (w7.alloc (.cells #[.int .i64 oi, .int .i64 6] 40))) := (HB.out.trans bl.bel).alloc ((HB.out.trans bl.bel).size) _
              have HX0 := Lib.hid x0
              clear bl HTR HRO HB hc x0 x1
              go_wp2_with fail
              generalize w7.alloc (.cells #[.int .i64 oi, .int .i64 6] 40) = w8 at *
              generalize w7.heap.size = E at *
              have S1 : Hid (w8.drew.cell? ⟨E, 0, none⟩ = some (.int .i64 oi) ∧ w8.drew.cell? ⟨g, o + u, none⟩ = some (.int .i64 oi)) := ⟨HX0.out, HRO8.out.cellO HOU.out⟩
              have HF9 := Lib.hid (HF8.out.below ((Below.refl _ _).drew))
              have HRO9 := Lib.hid (HRO8.out.below ((Below.refl _ _).drew))
              have HB9 := Lib.hid HB8.out.drew
              clear HF8 HRO8 HB8 HX0 HOU
              refine wp_region_pl (fun Y => Y.cell? ⟨E, 0, none⟩ = some (.int .i64 oi) ∧ Y.cell? ⟨g, o + u, none⟩ = some (.int .i64 oi)) ((0, 0) :: (1, 0) :: (2, 0) :: (3, 0) :: (4, 0) :: (5, 0) :: (6, 0) :: (7, 0) :: (8, 0) :: (9, 0) :: (10, 0) :: []) (by kernel_rfl) (by kernel_rfl) ?_
              generalize w8.drew = w9 at *
              iterate 11 (apply wpP_go; (focus rfl); (focus rfl); (focus exact S1.out); (focus (rintro Y ⟨s0, s1⟩; go_simp; exact rfl)); intro K hK; go_simp; refine hK _ ?_; clear hK K)
              refine wpP_done ?_
              go_wp2_with fail
              go_roundw
              case rel => exact ⟨u + 1, b6, by omega, by go_num, HN6, HF9, HRO9, HB9⟩
              case measure => simp [intOf]; omega
          · have y1 : ¬ (u : Int) < n := by omega
            have eu : u = n := by omega
            subst eu
            obtain ⟨e7, b8, e8, ⟨k8, s8, l8⟩, c8⟩ := ni_end (k := k) (j := j) (b := b5) (ord := ord) (by rw [HN.out]; exact HN3.out) (by omega)
            have HTR : Hid (Calls Tryz.prog 17 #[fptr M, .slice none 0 0] wr (LT wr w.heap.size F1 M S L (60 + u + 1) ((0, 0), 6, b5))) := by
              have := HF.out.try (n := 60 + u) HN3.out.cal.blk (by omega) HN3.out.ids (by rw [HN3.out.es]; decide) (by have := HN3.out.log; omega) (RdT.nil _) (fun g hg => (by cases hg)) (fun x hx => (by cases hx))
              rw [e7] at this
              exact this
            have HK8 := Lib.hid (And.intro e8 (And.intro k8 (And.intro s8 l8)))
            have HC8 := Lib.hid c8
            have HBK := Lib.hid HN3.out.cal.blk
            clear e7 e8 k8 s8 l8 c8 HN3 HF
            go_wp2_with fail
            refine HTR.out.mono ?_
            rintro e w7 ⟨rfl, bl⟩
            have HF8 := Lib.hid (bl.bf.below (w' := w7.alloc (.cells #[.int .i64 0, .int .i64 0] 40)) ((Below.refl _ _).alloc (Nat.le_refl _) _))
            have HRO8 : Hid (RdI (w7.alloc (.cells #[.int .i64 0, .int .i64 0] 40)) (.slice oa u oc) ord) := (HRO.out.ch bl.ch (fun g hg q => q (HFO.out g hg))).below ((Below.refl _ _).alloc (Nat.le_refl _) _)
            have HB8 : Hid (Below w.heap.size w (w7.alloc (.cells #[.int .i64 0, .int .i64 0] 40))) := (HB.out.trans bl.bel).alloc ((HB.out.trans bl.bel).size) _
            have HBG : Hid (Calls Tryz.prog 16 #[fptr M] (w7.alloc (.cells #[.int .i64 0, .int .i64 0] 40)) fun e w' => e = .returned (.int .i64 0) ∧ BL (w7.alloc (.cells #[.int .i64 0, .int .i64 0] 40)) w' w.heap.size F1 M S L (60 + u + 2) b8) := by
              have := HF8.out.begin (n := 60 + u + 1) HBK.out (by omega)
              rw [HK8.out.1] at this
              exact this
            clear bl HTR HRO HB HF8
            go_wp2_with fail
            generalize w7.alloc (.cells #[.int .i64 0, .int .i64 0] 40) = w8 at *
            refine HBG.out.mono ?_
            rintro e w9 ⟨rfl, bl⟩
            have HF9 := Lib.hid bl.bf
            have HRO9 := Lib.hid (HRO8.out.ch bl.ch (fun g hg q => q (HFO.out g hg)))
            have HB9 := Lib.hid (HB8.out.trans bl.bel)
            clear bl HBG HRO8 HB8
            have htr := HF9.out.try (n := 60 + u + 2) HK8.out.2.1 (by omega) (by rw [HC8.out]; exact HOI.out) (by rw [HK8.out.2.2.1]; decide) (by rw [HK8.out.2.2.2]; decide) (RdT.nil _) (fun g hg => (by cases hg)) (fun x hx => (by cases hx))
            rcases ni_first HC8.out with ⟨eo, e9⟩ | ⟨x, r, b9, eo, e9⟩
            · rw [e9] at htr
              have HTR := Lib.hid htr
              have hu0 : u = 0 := by have := HN.out; rw [eo] at this; simpa using this.symm
              subst hu0
              clear htr e9 eo HF9
              go_wp2_with fail
              refine HTR.out.mono ?_
              rintro e w10 ⟨rfl, bl⟩
              have HF8 := Lib.hid (bl.bf.below (w' := w10.alloc (.cells #[.int .i64 0, .int .i64 0] 40)) ((Below.refl _ _).alloc (Nat.le_refl _) _))
              have HB8 : Hid (Below w.heap.size w (w10.alloc (.cells #[.int .i64 0, .int .i64 0] 40))) := (HB9.out.trans bl.bel).alloc ((HB9.out.trans bl.bel).size) _
              have HAW := Lib.hid (awake_any _ HF8.out.rnd HF8.out.pos)
              clear bl HTR
              go_wp2_with fail
              refine HAW.out.mono ?_
              rintro e w11 ⟨rfl, bb⟩
              have HBF : Hid (Below w.heap.size w w11) := HB8.out.trans (bb.mono HB8.out.size)
              go_wp2_with fail
              go_ret
              exact ⟨rfl, HBF.out⟩
            · rw [e9] at htr
              have HTR := Lib.hid htr
              have hu0 : u ≠ 0 := by have := HN.out; rw [eo] at this; simp at this; omega
              have hu0I : ¬ (u : Int) = 0 := by omega
              have y2 : (0 : Int) < u := by omega
              have y3 : 0 < u := by omega
              have hul : 0 < ord.length := by rw [HN.out]; omega
              have HOU : Hid (ord[0]? = some x) := by show _ = _; rw [eo]; rfl
              obtain ⟨g, o, c', e, _, _, hc⟩ := HRO9.out.cellAt hul
              rw [HN.out] at e
              injection e with e1 _ e3
              subst e1 e3
              clear htr e9 eo HF9 hc hul
              go_wp2_with fail
              refine HTR.out.mono ?_
              rintro e w10 ⟨rfl, bl⟩
              obtain ⟨x0, x1⟩ := stepCells w10 x 6
              have HX0 := Lib.hid x0
              have HF8 := Lib.hid (bl.bf.below (w' := w10.alloc (.cells #[.int .i64 x, .int .i64 6] 40)) ((Below.refl _ _).alloc (Nat.le_refl _) _))
              have HRO8 : Hid (RdI (w10.alloc (.cells #[.int .i64 x, .int .i64 6] 40)) (.slice (some ⟨g, o, none⟩) u oc) ord) := (HRO9.out.ch bl.ch (fun g hg q => q (HFO.out g hg))).below ((Below.refl _ _).alloc (Nat.le_refl _) _)
              have HB8 : Hid (Below w.heap.size w (w10.alloc (.cells #[.int .i64 x, .int .i64 6] 40))) := (HB9.out.trans bl.bel).alloc ((HB9.out.trans bl.bel).size) _
              have hE : w10.heap.size < (w10.alloc (.cells #[.int .i64 x, .int .i64 6] 40)).heap.size := by simp
              have hg8 : g < (w10.alloc (.cells #[.int .i64 x, .int .i64 6] 40)).heap.size := by obtain ⟨_, _, _, _, _, h3, _⟩ := HRO8.out; exact h3 g rfl
              have HEG := Lib.hid (And.intro hE hg8)
              clear bl HTR x0 x1 HRO9 HB9 hE hg8
              go_wp2_with fail
              generalize w10.alloc (.cells #[.int .i64 x, .int .i64 6] 40) = w8 at *
              generalize w10.heap.size = E at *
              have S1 : Hid (w8.drew.cell? ⟨E, 0, none⟩ = some (.int .i64 x) ∧ w8.drew.cell? ⟨g, o, none⟩ = some (.int .i64 x)) := ⟨HX0.out, HRO8.out.cellO HOU.out⟩
              have hfd := HF8.out.below ((Below.refl _ w8).drew)
              have HAW := Lib.hid (awake_any w8.drew hfd.rnd hfd.pos)
              have HB9 := Lib.hid HB8.out.drew
              have HEG9 : Hid (E < w8.drew.heap.size ∧ g < w8.drew.heap.size) := HEG.out
              clear HF8 HRO8 HB8 HX0 HOU hfd HEG
              refine wp_region_pl (fun Y => Y.cell? ⟨E, 0, none⟩ = some (.int .i64 x) ∧ Y.cell? ⟨g, o, none⟩ = some (.int .i64 x)) ((0, 0) :: (1, 0) :: (2, 0) :: (3, 0) :: (4, 0) :: (5, 0) :: (6, 0) :: (7, 0) :: (8, 0) :: (9, 0) :: (10, 0) :: (11, 1) :: (12, 0) :: (13, 0) :: []) (by kernel_rfl) (by kernel_rfl) ?_
              generalize w8.drew = w9 at *
              iterate 11 (apply wpP_go; (focus rfl); (focus rfl); (focus exact S1.out); (focus (rintro Y ⟨s0, s1⟩; go_simp; exact rfl)); intro K hK; go_simp; refine hK _ ?_; clear hK K)
              apply wpP_one
              focus rfl
              intro K hK
              go_simp
              refine HAW.out.mono ?_
              rintro e w11 ⟨rfl, bb⟩
              have S2 : Hid (w11.cell? ⟨E, 0, none⟩ = some (.int .i64 x) ∧ w11.cell? ⟨g, o, none⟩ = some (.int .i64 x)) := ⟨(bb.cell (p := ⟨E, 0, none⟩) HEG9.out.1).trans S1.out.1, (bb.cell (p := ⟨g, o, none⟩) HEG9.out.2).trans S1.out.2⟩
              have HBF : Hid (Below w.heap.size w w11) := HB9.out.trans (bb.mono HB9.out.size)
              refine hK _ _ S2.out ?_
              clear hK K bb HAW S1
              iterate 2 (apply wpP_go; (focus rfl); (focus rfl); (focus exact S2.out); (focus (rintro Y ⟨s0, s1⟩; go_simp; exact rfl)); intro K hK; go_simp; refine hK _ ?_; clear hK K)
              refine wpP_done ?_
              go_wp2_with fail
              go_ret
              exact ⟨rfl, HBF.out⟩
end Go.Proofs.YtdinbpdpalgohaaGreatDoor
