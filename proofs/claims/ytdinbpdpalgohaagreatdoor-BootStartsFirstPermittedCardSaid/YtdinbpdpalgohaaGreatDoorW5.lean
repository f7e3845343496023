/- BootStartsFirstPermitted walked, and its card. Conditions: those that each theorem names. -/
import Derived.Test.YtdinbpdpalgohaaGreatDoorY21
import Derived.Test.YtdinbpdpalgohaaGreatDoorY20
import Derived.Test.YtdinbpdpalgohaaGreatDoorY18
namespace Go.Proofs.YtdinbpdpalgohaaGreatDoor
open Go.RowKit
attribute [local go_sem ↓] alloc34 load34 store34 Ms.alloc26 Ms.load26n Ms.store26n
attribute [local go_sem] Ms.set_new Ms.stN_b8 cs32
def stI (st : Option Nat) : Int := match st with | none => -1 | some s => s
/-- Not started yet, or started. -/
def RS (k : Nat) (ord : List Int) (V : Vars) (im : List ByteArray) (u : Nat) (st : Option Nat) (b : BM) : Prop := match st with
  | none => FI k ord V u b
  | some s => s < 16 ∧ s < im.length ∧ ∃ us, FSt (k + 1) s us im b
theorem rdE_at {w : World} {v : Value} {es : List Ms.Ev} (h : Ms.RdE w v es) {i : Nat} {e : Ms.Ev} (he : es[i]? = some e) : ∃ g o c, v = .slice (some ⟨g, o, none⟩) es.length c ∧ g < w.heap.size ∧ w.cell? ⟨g, o + i * 34, none⟩ = some (.int .i64 e.r) ∧ w.rangeAt g (o + i * 34 + 1) (Ms.arr 32 (Ms.b8 e.d)).toList := by
  obtain ⟨a, c, rfl, h⟩ := h
  obtain ⟨b, o, rfl, hl, hr⟩ := h (by intro q; rw [q] at he; cases he)
  have hx := hr i e he
  refine ⟨b, o, c, rfl, hl, hx 0 _ rfl, fun j u hu => ?_⟩
  have hj : j < 32 := by have := (List.getElem?_eq_some_iff.1 hu).1; simpa [Ms.arr] using this
  rw [show o + i * 34 + 1 + j = o + i * 34 + (1 + j) by omega]
  refine hx (1 + j) _ ?_
  unfold Ms.evc
  rw [Nat.add_comm 1 j, List.getElem?_cons_succ, List.getElem?_append_left (by simp [Ms.arr]; exact hj)]
  exact hu
set_option maxRecDepth 100000 in
set_option maxHeartbeats 4000000 in
theorem first_any (a : Option Addr) (len cap : Nat) (l : List BC) (cc : BC) (w00 : World) (hl0 : CallS w00 a len cap l) (_hrd0 : RdJ w00 cc.ol cc.od) (hr0 : Ms.Rnd w00) (h00 : 0 < w00.heap.size) : Calls Tryz.prog 5 #[.slice a len cap, .agg #[.int .i64 cc.kd, .int .i64 cc.id, .int .i64 cc.im, .int .i64 cc.tr, cc.ol, .bool cc.ina, .bool cc.raw]] w00 fun e w' => e = .returned (.bool true) ∧ Below w00.heap.size w00 w' := by
  have hX := CX.made w00 cc
  have hB00 : Below w00.heap.size w00 (w00.alloc (.cells #[.int .i64 cc.kd, .int .i64 cc.id, .int .i64 cc.im, .int .i64 cc.tr, cc.ol, .bool cc.ina, .bool cc.raw] 54)) := (Below.refl _ _).alloc (Nat.le_refl _) _
  have hl := hl0.below hB00 (Nat.le_refl _)
  have hr : Ms.Rnd (w00.alloc (.cells #[.int .i64 cc.kd, .int .i64 cc.id, .int .i64 cc.im, .int .i64 cc.tr, cc.ol, .bool cc.ina, .bool cc.raw] 54)) := hr0.below hB00 h00
  have h0 : 0 < (w00.alloc (.cells #[.int .i64 cc.kd, .int .i64 cc.id, .int .i64 cc.im, .int .i64 cc.tr, cc.ol, .bool cc.ina, .bool cc.raw] 54)).heap.size := Nat.lt_of_lt_of_le h00 hB00.size
  clear hl0 hr0
  have HBW := Lib.hid hB00
  have HXC := Lib.hid hX
  clear hB00 hX
  go_enter Tryz.func5, Tryz.ntmps5
  go_upto_region 1 with fail
  generalize w00.alloc (.cells #[.int .i64 cc.kd, .int .i64 cc.id, .int .i64 cc.im, .int .i64 cc.tr, cc.ol, .bool cc.ina, .bool cc.raw] 54) = w at *
  obtain ⟨T, hT⟩ : ∃ T, w00.heap.size = T := ⟨_, rfl⟩
  have HT := Lib.hid hT
  rw [hT] at HXC ⊢
  clear hT h00
  have HA := Lib.hid hl
  have HAW := Lib.hid (awake_any w hr h0)
  have HLG := Lib.hid (large_any a len cap l w hl)
  have HBD := Lib.hid (board_any 1000 (by omega) w hr h0)
  have hcap : len ≤ cap := hl.2.1
  have hcapM := hl.2.2.1
  unfold maxLen at hcapM
  obtain ⟨q, hq⟩ : ∃ q, lrg l = q := ⟨_, rfl⟩
  rw [hq] at HLG
  have HQ := Lib.hid hq
  clear hl hq hr
  go_wp2_with fail
  refine HLG.out.mono ?_
  rintro e w' ⟨rfl, rfl⟩
  clear HLG
  cases q
  case true =>
    clear HBD
    go_wp2_with fail
    refine HAW.out.mono ?_
    rintro e w' ⟨rfl, b1⟩
    have HB1 : Hid (Below w00.heap.size w00 w') := HBW.out.trans (b1.mono HBW.out.size)
    go_wp2_with fail
    go_ret
    exact ⟨rfl, HB1.out⟩
  case false =>
    have hnb := not_big (l := l) (fun q => by have := (lrg_iff l).2 q; rw [HQ.out] at this; cases this)
    have HOD := Lib.hid hnb.1
    have hle : len ≤ 25 := by have h1 := hnb.2; have h2 := HA.out.1; omega
    clear hnb HAW HQ
    go_wp2_with fail
    refine HBD.out.mono ?_
    rintro e w1 ⟨X, L, M, S, O, fl, rfl, hbw, hcal, b1⟩
    have HB1 := Lib.hid b1
    have HF1 := Lib.hid (BF.of O hbw)
    have HS1 : Hid (SI 0 (⟨fl, st0, [], [], -1, []⟩ : BM)) := ⟨hcal, rfl, rfl, rfl⟩
    clear hbw hcal b1 HBD
    go_wp2_with fail
    go_loopw [9] (fun z wr => ∃ (i : Nat) (b : BM), i ≤ len ∧ z = .int .i64 (i : Int) ∧ Hid (SI i b) ∧ Hid (BF wr w.heap.size (fun _ => False) M S L (32 + i) b) ∧ Hid (Below w.heap.size w wr)) (fun z _ => len - (intOf z).toNat)
    case atStart => exact ⟨0, _, by omega, rfl, HS1, HF1, HB1⟩
    case round =>
      clear HS1 HF1 HB1
      obtain ⟨i, b, hi, rfl, HS, HF, HB⟩ := hrel
      by_cases hlt : i < len
      · have y0 : (i : Int) < len := by omega
        obtain ⟨bb, o, c, rfl, hc, hrd, hx⟩ := HA.out.at hlt
        have hX := hx.below HB.out hx.lt
        have hco : c.od.length ≤ 20 := HOD.out c (List.mem_of_getElem? hc)
        have HMD : Hid (∀ W, Calls Tryz.prog 11 #[.int .i64 c.kd, .int .i64 12] W fun e w' => e = .returned (.int .i64 ((mo c.kd 12 : Nat) : Int)) ∧ W = w') := fun W => mod_any c.kd 12 W (by omega) (by omega)
        have hDO := do_any HF.out HS.out.cal.blk (by omega) (by rw [HS.out.cand]; exact fun x hx => (by cases hx)) (by rw [HS.out.es]; decide) (by rw [HS.out.log]; decide) c (hrd.below HB.out (Nat.le_refl _)) hco
        have hS2 : mo c.kd 12 < 5 → SI (i + 1) (doB b c).2.2 := fun h => do_si HS.out (by omega) h c
        unfold cBa at hDO
        generalize doB b c = r at *
        have HDO := Lib.hid hDO
        have HS2 := Lib.hid hS2
        generalize mo c.kd 12 = m at *
        obtain ⟨c0, c1, c2, c3, c4, c5, c6, clt⟩ := hX
        clear hDO hS2 hx hrd hc hco
        by_cases h5 : m < 5
        · have h5I : (m : Int) < 5 := by omega
          go_wp2_with fail
          refine (HMD.out _).mono ?_
          rintro e w' ⟨rfl, rfl⟩
          go_wp2_with fail
          refine HDO.out.mono ?_
          rintro e w2 ⟨rfl, bl⟩
          have HF2 := Lib.hid bl.bf
          have HB2 : Hid (Below w.heap.size w w2) := HB.out.trans bl.bel
          have HS3 := Lib.hid (HS2.out h5)
          clear bl HDO HF HB HS HS2 c0 c1 c2 c3 c4 c5 c6 clt
          go_wp2_with fail
          go_roundw
          case rel => exact ⟨i + 1, r.2.2, by omega, by go_num, HS3, HF2, HB2⟩
          case measure => simp [intOf]; omega
        · have h5I : ¬ (m : Int) < 5 := by omega
          have HS3 := Lib.hid (HS.out.mono (Nat.le_succ i))
          have HF3 := Lib.hid (HF.out.mono (n' := 32 + (i + 1)) (by omega))
          clear HDO HS2 HS HF
          go_wp2_with fail
          refine (HMD.out _).mono ?_
          rintro e w' ⟨rfl, rfl⟩
          go_wp2_with fail
          go_roundw
          case rel => exact ⟨i + 1, b, by omega, by go_num, HS3, HF3, HB⟩
          case measure => simp [intOf]; omega
      · have y0 : ¬ (i : Int) < len := by omega
        obtain ⟨b1, b2, ⟨e1, k1⟩, e2, fi⟩ := fi_init HS.out (by omega)
        have hi25 : i ≤ 25 := by omega
        have HE2 := Lib.hid e2
        have HFI := Lib.hid fi
        have HK1 := Lib.hid k1
        have HBG : Hid (Calls Tryz.prog 16 #[fptr M] wr fun e w' => e = .returned (.int .i64 0) ∧ BL wr w' w.heap.size (fun _ => False) M S L 58 b1) := by
          have := (HF.out.mono (n' := 57) (by omega)).begin HS.out.cal.blk (by omega)
          rw [e1] at this
          exact this
        clear e1 k1 e2 fi HA HOD HF HS
        go_wp2_with fail
        refine HBG.out.mono ?_
        rintro e w2 ⟨rfl, bl⟩
        have HB2 : Hid (Below w.heap.size w w2) := HB.out.trans bl.bel
        have HBG2 : Hid (Calls Tryz.prog 16 #[fptr M] w2 fun e w' => e = .returned (.int .i64 0) ∧ BL w2 w' w.heap.size (fun _ => False) M S L 59 b2) := by
          have := bl.bf.begin (n := 58) HK1.out (by omega)
          rw [HE2.out] at this
          exact this
        clear bl HBG HB HE2 HK1
        go_wp2_with fail
        refine HBG2.out.mono ?_
        rintro e w3 ⟨rfl, bl⟩
        have HF3 := Lib.hid bl.bf
        have HB3 : Hid (Below w.heap.size w w3) := HB2.out.trans bl.bel
        have hX3 := HXC.out.below HB3.out HXC.out.lt
        have HIS : Hid (Calls Tryz.prog 26 #[cBa cc] w3 fun e w' => ∃ g, e = .returned (.slice (some ⟨g, 0, none⟩) (mo cc.tr 3 + 3) 5) ∧ w3.heap.size ≤ g ∧ RdT w' (.slice (some ⟨g, 0, none⟩) (mo cc.tr 3 + 3) 5) (imgL cc) ∧ Below w3.heap.size w3 w') := images_any cc w3
        unfold cBa at HIS
        have HIZ := Lib.hid (imgL_size cc)
        have HIL := Lib.hid (imgL_len cc)
        have hm3 : mo cc.tr 3 < 3 := mo_lt cc.tr 3 (by omega)
        generalize imgL cc = im at *
        generalize mo cc.tr 3 + 3 = il at *
        obtain ⟨c0, c1, c2, c3, c4, c5, c6, clt⟩ := hX3
        clear bl HBG2 HB2
        go_wp2_with fail
        refine HIS.out.mono ?_
        rintro e w4 ⟨g, rfl, hg, ht, b4⟩
        obtain ⟨F1, hF1, hF2⟩ : ∃ F1 : Nat → Prop, BF w4 w.heap.size F1 M S L 59 b2 ∧ F1 g := ⟨_, HF3.out.news b4, .inr ⟨hg, by obtain ⟨_, _, _, _, _, h3, _⟩ := ht; exact h3 g rfl⟩⟩
        have HF4 := Lib.hid hF1
        have HG := Lib.hid hF2
        have HT4 := Lib.hid ht
        have HB4 : Hid (Below w.heap.size w w4) := HB3.out.trans (b4.mono HB3.out.size)
        have HOR := Lib.hid hF1.order
        clear hF1 hF2 hg ht b4 HIS HF3 HB3 c0 c1 c2 c3 c4 c5 c6 clt
        go_wp2_with fail
        refine HOR.out.mono ?_
        rintro e w5 ⟨v, rfl, hv, hvg, b5⟩
        obtain ⟨oa, oc, rfl, hoc, hocm⟩ := hv.shape
        obtain ⟨F2, hF1, hF2, hF3⟩ : ∃ F2 : Nat → Prop, BF w5 w.heap.size F2 M S L 59 b2 ∧ F2 g ∧ ∀ g, (Value.slice oa (ordV b2.st.V).length oc).ownBlock = some g → F2 g := ⟨_, HF4.out.news b5, .inl HG.out, fun g hg => .inr ⟨hvg g hg, by obtain ⟨_, _, e, _, _, h3, _⟩ := hv; exact h3 g hg⟩⟩
        have HF5 := Lib.hid hF1
        have HFG := Lib.hid hF2
        have HFO := Lib.hid hF3
        have HT5 := Lib.hid (HT4.out.below b5)
        have HB5 : Hid (Below w.heap.size w w5) := HB4.out.trans (b5.mono HB4.out.size)
        have HRO := Lib.hid hv
        have HOL := Lib.hid HFI.out.len
        have HFI5 := HFI
        clear hF1 hF2 hF3 hv hvg b5 HOR HF4 HG HT4 HB4
        obtain ⟨V2, hV2⟩ : ∃ V, b2.st.V = V := ⟨_, rfl⟩
        rw [hV2] at HFI HFO HRO HOL hoc ⊢
        clear HFI5 hV2
        generalize ordV V2 = ord at *
        obtain ⟨n, hn⟩ : ∃ n, ord.length = n := ⟨_, rfl⟩
        have HN := Lib.hid hn
        rw [hn] at HRO HFO hoc HOL ⊢
        have hn16 : n ≤ 16 := HOL.out
        clear hn
        go_wp2_with fail
        have hkk : i + 2 ≤ 27 := by omega
        generalize i + 2 = k at *
        have HRS : Hid (RS k ord V2 im 0 none b2) := HFI.out
        go_loopw [13, 14] (fun x z wq => ∃ (u : Nat) (st : Option Nat) (b5 : BM), u ≤ n ∧ x = .int .i64 (stI st) ∧ z = .int .i64 (u : Int) ∧ Hid (RS k ord V2 im u st b5) ∧ Hid (BF wq w.heap.size F2 M S L (60 + u) b5) ∧ Hid (RdT wq (.slice (some ⟨g, 0, none⟩) il 5) im) ∧ Hid (RdI wq (.slice oa n oc) ord) ∧ Hid (Below w.heap.size w wq)) (fun _ z _ => n - (intOf z).toNat)
        case atStart => exact ⟨0, none, b2, by omega, rfl, rfl, HRS, HF5.out.mono (by omega), HT5, HRO, HB5⟩
        case round =>
          clear HRS HF5 HT5 HRO HB5 HFI
          obtain ⟨u, st, b5, hu, rfl, rfl, HRS, HF, HTT, HRO, HB⟩ := hrel
          by_cases hlu : u < n
          · have y1 : (u : Int) < n := by omega
            cases st with
            | some s => as_aux_lemma =>
              obtain ⟨hs16, hsl, us, fs⟩ : s < 16 ∧ s < im.length ∧ ∃ us, FSt (k + 1) s us im b5 := HRS.out
              obtain ⟨e6, b7, e7, c7, hu7, hO7⟩ := fs_end fs (by omega) hs16
              rw [show stI (some s) = (s : Int) from rfl]
              have hsI : ¬ (s : Int) < 0 := by omega
              have hsl2 : s < il := by rw [← HIL.out]; exact hsl
              have hslI : (s : Int) < il := by omega
              have hFG : ∀ g', (Value.slice (some ⟨g, 0, none⟩) il 5).ownBlock = some g' → F2 g' := fun g' hg' => by
                have e : g = g' := by simpa [Value.ownBlock] using hg'
                rw [← e]; exact HFG.out
              have htr := HF.out.try (n := 60 + u) fs.cal.blk (by omega) (by rw [fs.cand]; exact fun x hx => (by cases hx)) (by rw [fs.es]; simp) (by have := fs.log; omega) HTT.out hFG HIZ.out
              rw [e6] at htr
              have HTR := Lib.hid htr
              have HFP := Lib.hid hFG
              have HES := Lib.hid fs.es
              have HE7 := Lib.hid (And.intro e7 fs.cal.blk)
              have HU7 := Lib.hid (And.intro hu7 hO7)
              clear fs e6 e7 c7 hu7 hO7 htr hFG HRS HF HRO
              go_wp2_with fail
              refine HTR.out.mono ?_
              rintro e w7 ⟨rfl, bl⟩
              have HF8 := Lib.hid (bl.bf.below (w' := w7.alloc (.cells #[.int .i64 0, .int .i64 0] 40)) ((Below.refl _ _).alloc (Nat.le_refl _) _))
              have HT8 : Hid (RdT (w7.alloc (.cells #[.int .i64 0, .int .i64 0] 40)) (.slice (some ⟨g, 0, none⟩) il 5) im) := (HTT.out.ch bl.ch (fun g' hg' q => q (HFP.out g' hg'))).below ((Below.refl _ _).alloc (Nat.le_refl _) _)
              have HB8 : Hid (Below w.heap.size w (w7.alloc (.cells #[.int .i64 0, .int .i64 0] 40))) := (HB.out.trans bl.bel).alloc ((HB.out.trans bl.bel).size) _
              have hev := HF8.out.events (by rw [HES.out]; simp)
              rw [HES.out] at hev
              have HEV := Lib.hid hev
              clear bl HTR HTT HB hev
              go_wp2_with fail
              generalize w7.alloc (.cells #[.int .i64 0, .int .i64 0] 40) = w8 at *
              refine HEV.out.mono ?_
              rintro e w9 ⟨v9, rfl, ho9, b9⟩
              obtain ⟨ge, oe, ce, rfl, hge, hr0, hd0⟩ := rdE_at (i := 0) ho9.rd rfl
              have hge8 := (ownN_rg ho9 rfl).2
              rw [Nat.zero_mul, Nat.add_zero] at hr0 hd0
              obtain ⟨F3, hF3, hF4, hF5⟩ : ∃ F3 : Nat → Prop, BF w9 w.heap.size F3 M S L (60 + u + 1) b5 ∧ F3 ge ∧ F3 g := ⟨_, HF8.out.news b9, .inr ⟨hge8, hge⟩, .inl HFG.out⟩
              have HF9 := Lib.hid hF3
              have HFE := Lib.hid (And.intro hF4 hF5)
              have HT9 := Lib.hid (HT8.out.below b9)
              have HB9 : Hid (Below w.heap.size w w9) := HB8.out.trans (b9.mono HB8.out.size)
              obtain ⟨sx, hsx⟩ : ∃ q, im.getD s ⟨#[]⟩ = q := ⟨_, rfl⟩
              have hdg : Ms.arr 32 (Ms.b8 (Ms.sumD sx.data.toList)) = Ms.arr 32 (Ms.b8 (dgF (sumS sx))) := by
                have e := sumD_dg sx.data.toList
                unfold dgA at e
                injection e with e
                exact e.symm
              rw [hsx] at hd0
              have hsz : sx.size ≤ 1073741824 := by
                rw [← hsx, List.getD_eq_getElem?_getD]
                rcases hg : im[s]? with _ | q
                · exact of_decide_eq_true rfl
                · exact HIZ.out q (List.mem_of_getElem? hg)
              have hcs : w9.cell? ⟨g, s, none⟩ = some (.string sx) := by
                have hx : s < im.length := by rw [HIL.out]; exact hsl2
                obtain ⟨g9, o9, c9, e, _, _, _, hc9⟩ := HT9.out.cellAt hx
                injection e with e1
                injection e1 with e1
                injection e1 with e1 e2
                subst e1
                rw [← e2, Nat.zero_add] at hc9
                rw [hc9, ← hsx, List.getD_eq_getElem?_getD, List.getElem?_eq_getElem hx]
                rfl
              have hgl : g < w9.heap.size := by obtain ⟨_, _, _, _, _, h3, _⟩ := HT9.out; exact h3 g rfl
              have HRG9 : Hid (w9.drew.rangeAt ge (oe + 1) (Ms.arr 32 (Ms.b8 (dgF (sumS sx)))).toList) := by
                show World.rangeAt _ _ _ _
                rw [← hdg]; exact hd0
              have HQS : Hid ((Ms.arr 32 (Ms.b8 (dgF (sumS sx)))).size = 32) := Ms.arr_size _ _
              have S1 : Hid (Ms.ldN 32 w9.drew (.pointer (some ⟨ge, oe + 1, none⟩)) = some (Ms.arr 32 (Ms.b8 (dgF (sumS sx)))) ∧ w9.drew.cell? ⟨ge, oe, none⟩ = some (.int .i64 4) ∧ w9.drew.cell? ⟨g, s, none⟩ = some (.string sx)) := ⟨Ms.ldN_of HRG9.out HQS.out, hr0, hcs⟩
              have HF10 := Lib.hid (HF9.out.below ((Below.refl _ _).drew))
              have HB10 : Hid (Below w.heap.size w w9.drew) := HB9.out.drew
              have HL10 : Hid (ge < w9.drew.heap.size ∧ g < w9.drew.heap.size) := ⟨hge, hgl⟩
              have HSM := Lib.hid (sum_str sx w9.drew hsz HF10.out.rnd HF10.out.pos)
              have heq : ∀ Y, (binOp .neq 31 (.agg (Ms.arr 32 (Ms.b8 (dgF (sumS sx))))) (.agg (Ms.arr 32 (Ms.b8 (dgF (sumS sx)))))).run Tryz.prog Y = .ok (.bool false) Y := fun Y => by
                rw [neDg (sumS_len _) (sumS_len _)]; simp
              generalize Ms.arr 32 (Ms.b8 (dgF (sumS sx))) = dq at *
              clear ho9 b9 hge hr0 hd0 hge8 hF3 hF4 hF5 hdg hsx hsz hcs hgl HEV HF8 HT8 HB8 HF9 HT9 HB9
              go_wp2_with fail
              refine wp_region_pl (fun Y => Ms.ldN 32 Y (.pointer (some ⟨ge, oe + 1, none⟩)) = some (dq) ∧ Y.cell? ⟨ge, oe, none⟩ = some (.int .i64 4) ∧ Y.cell? ⟨g, s, none⟩ = some (.string sx)) ((0, 0) :: (1, 0) :: (2, 0) :: (3, 0) :: (4, 0) :: (5, 0) :: (6, 0) :: (7, 0) :: (8, 0) :: (9, 0) :: (10, 0) :: (11, 0) :: (12, 1) :: (13, 0) :: (14, 0) :: (15, 0) :: (16, 0) :: (17, 0) :: (18, 0) :: (19, 0) :: (20, 0) :: (21, 0) :: (22, 0) :: (23, 0) :: (24, 1) :: (25, 0) :: (26, 0) :: []) (by kernel_rfl) (by kernel_rfl) ?_
              generalize w9.drew = w10 at *
              iterate 12 (apply wpP_go; (focus rfl); (focus rfl); (focus exact S1.out); (focus (rintro Y ⟨s0, s1, s2⟩; go_simp; exact rfl)); intro K hK; go_simp; refine hK _ ?_; clear hK K)
              apply wpP_one
              focus rfl
              intro K hK
              go_simp
              refine HSM.out.mono ?_
              rintro e w11 ⟨rfl, b11⟩
              have HRG11 := Lib.hid (Ms.rangeAt_below HRG9.out b11 HL10.out.1)
              have ldk : Ms.ldN 32 w11 (.pointer (some ⟨ge, oe + 1, none⟩)) = some dq := Ms.ldN_of HRG11.out HQS.out
              have S2 : Hid (Ms.ldN 32 w11 (.pointer (some ⟨ge, oe + 1, none⟩)) = some dq ∧ w11.cell? ⟨ge, oe, none⟩ = some (.int .i64 4) ∧ w11.cell? ⟨g, s, none⟩ = some (.string sx)) := ⟨ldk, (b11.cell (p := ⟨ge, oe, none⟩) HL10.out.1).trans S1.out.2.1, (b11.cell (p := ⟨g, s, none⟩) HL10.out.2).trans S1.out.2.2⟩
              have HF11 := Lib.hid (HF10.out.below b11)
              have HB11 : Hid (Below w.heap.size w w11) := HB10.out.trans (b11.mono HB10.out.size)
              refine hK _ _ S2.out ?_
              clear hK K S1 HF10 HB10 b11 HSM ldk
              have S1 := S2
              clear S2
              iterate 11 (apply wpP_go; (focus rfl); (focus rfl); (focus exact S1.out); (focus (rintro Y ⟨s0, s1, s2⟩; go_simp; exact rfl)); intro K hK; go_simp; refine hK _ ?_; clear hK K)
              apply wpP_one
              focus rfl
              intro K hK
              go_simp
              have HSC : Hid (Calls Tryz.prog 18 #[fptr M] w11 fun e w' => e = .returned (.int .i64 0) ∧ BL w11 w' w.heap.size F3 M S L (60 + u + 1 + 1) b7) := by
                have := HF11.out.succ HE7.out.2 (by omega)
                rw [HE7.out.1] at this
                exact this
              refine HSC.out.mono ?_
              rintro e w12 ⟨rfl, bl⟩
              have ldk : Ms.ldN 32 w12 (.pointer (some ⟨ge, oe + 1, none⟩)) = some dq := Ms.ldN_of (Ms.rangeAt_ch HRG11.out bl.ch (HF11.out.lt _ HFE.out.1) (fun q => q HFE.out.1)) HQS.out
              have S2 : Hid (Ms.ldN 32 w12 (.pointer (some ⟨ge, oe + 1, none⟩)) = some dq ∧ w12.cell? ⟨ge, oe, none⟩ = some (.int .i64 4) ∧ w12.cell? ⟨g, s, none⟩ = some (.string sx)) := ⟨ldk, (bl.ch.cell ⟨ge, oe, none⟩ (HF11.out.lt _ HFE.out.1) (fun q => q HFE.out.1)).trans S1.out.2.1, (bl.ch.cell ⟨g, s, none⟩ (HF11.out.lt _ HFE.out.2) (fun q => q HFE.out.2)).trans S1.out.2.2⟩
              have HF12 := Lib.hid bl.bf
              have HB12 : Hid (Below w.heap.size w w12) := HB11.out.trans bl.bel
              refine hK _ _ S2.out ?_
              clear hK K S1 HF11 HB11 bl HSC ldk
              have S1 := S2
              clear S2
              iterate 2 (apply wpP_go; (focus rfl); (focus rfl); (focus exact S1.out); (focus (rintro Y ⟨s0, s1, s2⟩; go_simp; exact rfl)); intro K hK; go_simp; refine hK _ ?_; clear hK K)
              refine wpP_done ?_
              clear S1 heq
              have hEN := HF12.out.entry (s : Int)
              rw [entT_ex, HU7.out.1, HU7.out.2, if_pos rfl] at hEN
              generalize exE b7.st.V (s : Int) = en at *
              obtain ⟨ei, ed, ea, enn, eu⟩ := en
              unfold enV entA at hEN
              simp only at hEN
              have HEN := Lib.hid hEN
              have hst9 := fun (W : World) => st34 (nE_row W) ei ed ea enn
              clear hEN
              go_wp2_with fail
              refine HEN.out.mono ?_
              rintro e w13 ⟨rfl, b13⟩
              have hb14 : Below w12.heap.size w12 (w13.alloc (.cells (Ms.arr 35 (ecl ei ed ea enn)) 34)) := b13.alloc b13.size _
              have HB14 : Hid (Below w.heap.size w (w13.alloc (.cells (Ms.arr 35 (ecl ei ed ea enn)) 34))) := HB12.out.trans (hb14.mono HB12.out.size)
              have hf14 := HF12.out.below hb14
              have HAW := Lib.hid (awake_any _ hf14.rnd hf14.pos)
              clear b13 hb14 HEN HF12 HB12 hf14
              go_wp2_with fail
              refine HAW.out.mono ?_
              rintro e w15 ⟨rfl, bb⟩
              have HBF : Hid (Below w.heap.size w w15) := HB14.out.trans (bb.mono HB14.out.size)
              clear bb HAW HB14 hst9
              go_wp2_with fail
              go_ret
              exact ⟨rfl, HBW.out.trans (HBF.out.mono HBW.out.size)⟩
            | none =>
              have HFI : Hid (FI k ord V2 u b5) := HRS.out
              have hul : u < ord.length := by rw [HN.out]; exact hlu
              obtain ⟨x, hx16, hxe⟩ := HFI.out.nat hul
              have HXE := Lib.hid hxe
              obtain ⟨g1, o, c', e, _, _, hc⟩ := HRO.out.cellAt hul
              rw [HN.out] at e
              injection e with e1 _ e3
              subst e1 e3
              rw [hxe] at hc
              have hEN := HF.out.entry (x : Int)
              rw [HFI.out.vv, entT_ex] at hEN
              have HLD : Hid ((entO V2 (x : Int)).isSome = true → (exE V2 (x : Int)).d.length = 32) := fun h => by
                obtain ⟨e, he⟩ := Option.isSome_iff_exists.1 h
                have : exE V2 (x : Int) = e := by unfold exE; rw [he]; rfl
                rw [this]
                exact (entO_some he).2.2.1
              have HXG := Lib.hid (exC_g0 V2 x im)
              have HLU : Hid ((entO V2 (x : Int)).isSome = true → (exE V2 (x : Int)).u ≤ 255) := fun h => by
                obtain ⟨e, he⟩ := Option.isSome_iff_exists.1 h
                have : exE V2 (x : Int) = e := by unfold exE; rw [he]; rfl
                rw [this]
                exact (entO_some he).2.2.2.2
              have HST : Hid (exC V2 x im = 0 → ∃ b', tryB b5 im = (((x : Int), 0), 0, b') ∧ FSt (k + 1) x ((exE V2 (x : Int)).u + 1) im b') := fun h0 => fi_start HFI.out (by omega) hul hxe hx16 h0
              have HSK : Hid (exC V2 x im ≠ 0 → ∃ b', tryB b5 im = (((x : Int), exC V2 x im), 0, b') ∧ FI k ord V2 (u + 1) b') := fun h0 => fi_skip HFI.out hul hxe h0
              obtain ⟨cx, hcx⟩ : ∃ q, exC V2 x im = q := ⟨_, rfl⟩
              rw [hcx] at HXG HST HSK
              obtain ⟨sx, hsx⟩ : ∃ s, im.getD x ⟨#[]⟩ = s := ⟨_, rfl⟩
              have HGG : Hid (g0 V2 x im = ((entO V2 (x : Int)).isSome && decide (x < il) && decide (sx.size ≠ 0) && (exE V2 x).a && decide ((exE V2 x).d = sumS sx) && decide ((exE V2 x).u < (exE V2 x).n))) := by
                show _ = _
                unfold g0
                rw [hsx, HIL.out]
              have HSX := Lib.hid hsx
              have hsz : sx.size ≤ 1073741824 := by
                rw [← hsx, List.getD_eq_getElem?_getD]
                rcases hg : im[x]? with _ | q
                · exact of_decide_eq_true rfl
                · exact HIZ.out q (List.mem_of_getElem? hg)
              have HSZ := Lib.hid hsz
              unfold enV entA at hEN
              generalize g0 V2 x im = gg at *
              generalize (entO V2 (x : Int)).isSome = iss at *
              generalize exE V2 (x : Int) = en at *
              obtain ⟨ei, ed, ea, enn, eu⟩ := en
              have HEC : Hid ((iss = true ∧ (if iss = true then (0 : Int) else 6) = 0) ∨ (iss = false ∧ (if iss = true then (0 : Int) else 6) = 6)) := by
                cases iss
                · exact .inr ⟨rfl, rfl⟩
                · exact .inl ⟨rfl, rfl⟩
              generalize (if iss = true then (0 : Int) else 6) = ec at *
              simp only at hEN HGG HLD HXG HLU HST
              have HEN := Lib.hid hEN
              have hst9 := fun (W : World) => st34 (nE_row W) ei ed ea enn
              clear hEN hxe hsx hsz HRS hcx
              go_wp2_with fail
              refine HEN.out.mono ?_
              rintro e w6 ⟨rfl, b6⟩
              have hb7 : Below wr.heap.size wr (w6.alloc (.cells (Ms.arr 35 (ecl ei ed ea enn)) 34)) := b6.alloc b6.size _
              have HF7 := Lib.hid (HF.out.below hb7)
              have HT7 := Lib.hid (HTT.out.below hb7)
              have HRO7 := Lib.hid (HRO.out.below hb7)
              have HB7 : Hid (Below w.heap.size w (w6.alloc (.cells (Ms.arr 35 (ecl ei ed ea enn)) 34))) := HB.out.trans (hb7.mono HB.out.size)
              have HRE7 : Hid (Row (w6.alloc (.cells (Ms.arr 35 (ecl ei ed ea enn)) 34)) w6.heap.size 34 35 (ecl ei ed ea enn)) := Row.ofList w6 34 _ _ 35 rfl
              clear b6 hb7 HEN HF HTT HRO HB
              go_upto_region 21 with fail
              clear hst9
              generalize w6.alloc (.cells (Ms.arr 35 (ecl ei ed ea enn)) 34) = w7 at *
              generalize w6.heap.size = E at *
              have hgl : g < w7.drew.heap.size := by obtain ⟨_, _, _, _, _, h3, _⟩ := HT7.out; exact h3 g rfl
              have HGL := Lib.hid hgl
              clear hgl
              go_cut [19] (fun s19 wx => s19 = .bool gg ∧ Hid (BF wx w.heap.size F2 M S L (60 + u) b5) ∧ Hid (Row wx E 34 35 (ecl ei ed ea enn)) ∧ Hid (RdT wx (.slice (some ⟨g, 0, none⟩) il 5) im) ∧ Hid (RdI wx (.slice (some ⟨g1, o, none⟩) n oc) ord) ∧ Hid (Below w.heap.size w wx))
              case first => as_aux_lemma =>
                have HF8 := Lib.hid (HF7.out.below ((Below.refl _ _).drew))
                have HT8 := Lib.hid (HT7.out.below ((Below.refl _ _).drew))
                have HRO8 := Lib.hid (HRO7.out.below ((Below.refl _ _).drew))
                have HB8 : Hid (Below w.heap.size w w7.drew) := HB7.out.drew
                have S1 : Hid (Row w7.drew E 34 35 (ecl ei ed ea enn) ∧ (x < il → w7.drew.cell? ⟨g, x, none⟩ = some (.string sx))) := ⟨HRE7.out.drew, fun h => by
                  have hx : x < im.length := by rw [HIL.out]; exact h
                  obtain ⟨g9, o9, c9, e, _, _, _, hc9⟩ := HT8.out.cellAt hx
                  injection e with e1
                  injection e1 with e1
                  injection e1 with e1 e2
                  subst e1
                  rw [← e2, Nat.zero_add] at hc9
                  rw [hc9, ← HSX.out, List.getD_eq_getElem?_getD, List.getElem?_eq_getElem hx]
                  rfl⟩
                have HSM := Lib.hid (sum_str sx w7.drew HSZ.out HF8.out.rnd HF8.out.pos)
                obtain ⟨em, hem⟩ : ∃ b, (sx.toList == []) = b := ⟨_, rfl⟩
                have hem2 : (sx.toList != []) = !em := by rw [← hem]; rfl
                have HEM : Hid (decide (sx.size ≠ 0) = !em) := by
                  show _ = _
                  rw [← hem, ByteArray.toList_eq, bsz]
                  cases sx.data.toList <;> simp
                clear HF7 HT7 HRO7 HB7 HRE7
                rcases HEC.out with ⟨e1, e2⟩ | ⟨e1, e2⟩
                · subst e1 e2
                  rw [Bool.true_and] at HGG
                  by_cases hxl : x < il
                  · have hxI : (x : Int) < il := by omega
                    have e3 : decide (x < il) = true := decide_eq_true hxl
                    rw [e3, Bool.true_and] at HGG
                    rw [HEM.out] at HGG
                    clear e3 HEC
                    cases em
                    case true =>
                      rw [Bool.not_true, Bool.false_and, Bool.false_and, Bool.false_and] at HGG
                      refine wp_region_pl (fun Y => Row Y E 34 35 (ecl ei ed ea enn) ∧ (x < il → Y.cell? ⟨g, x, none⟩ = some (.string sx))) ((0, 0) :: (1, 0) :: (2, 0) :: (3, 0) :: (4, 0) :: (5, 0) :: (6, 0) :: (7, 0) :: (8, 0) :: (9, 0) :: (10, 0) :: (11, 0) :: (12, 0) :: (13, 0) :: (14, 0) :: (15, 0) :: (16, 0) :: (17, 0) :: (18, 0) :: (19, 0) :: (20, 0) :: (21, 0) :: (22, 0) :: (23, 0) :: (24, 0) :: (25, 0) :: (26, 0) :: (27, 0) :: (28, 0) :: (29, 0) :: (30, 0) :: (31, 0) :: (32, 0) :: (33, 0) :: (34, 0) :: (35, 0) :: []) (by kernel_rfl) (by kernel_rfl) ?_
                      generalize w7.drew = w8 at *
                      iterate 16 (apply wpP_go; (focus rfl); (focus rfl); (focus exact S1.out); (focus (rintro Y ⟨r1, r2⟩; have c33 : Y.cell? ⟨E, 33, none⟩ = some (.bool ea) := r1.cell (i := 33) (by omega); have c34 : Y.cell? ⟨E, 34, none⟩ = some (.int .i64 (enn : Int)) := r1.cell (i := 34) (by omega); have ld := ld_dg r1; have cx := r2 hxl; go_simp; exact rfl)); intro K hK; go_simp; refine hK _ ?_; clear hK K)
                      iterate 2 (apply wpP_not; (focus rfl); (focus rfl); (focus exact S1.out); intro K hK; go_simp; refine hK _ ?_; clear hK K)
                      iterate 2 (apply wpP_go; (focus rfl); (focus rfl); (focus exact S1.out); (focus (rintro Y ⟨r1, r2⟩; have c33 : Y.cell? ⟨E, 33, none⟩ = some (.bool ea) := r1.cell (i := 33) (by omega); have c34 : Y.cell? ⟨E, 34, none⟩ = some (.int .i64 (enn : Int)) := r1.cell (i := 34) (by omega); have ld := ld_dg r1; have cx := r2 hxl; go_simp; exact rfl)); intro K hK; go_simp; refine hK _ ?_; clear hK K)
                      iterate 8 (apply wpP_not; (focus rfl); (focus rfl); (focus exact S1.out); intro K hK; go_simp; refine hK _ ?_; clear hK K)
                      iterate 2 (apply wpP_go; (focus rfl); (focus rfl); (focus exact S1.out); (focus (rintro Y ⟨r1, r2⟩; have c33 : Y.cell? ⟨E, 33, none⟩ = some (.bool ea) := r1.cell (i := 33) (by omega); have c34 : Y.cell? ⟨E, 34, none⟩ = some (.int .i64 (enn : Int)) := r1.cell (i := 34) (by omega); have ld := ld_dg r1; have cx := r2 hxl; go_simp; exact rfl)); intro K hK; go_simp; refine hK _ ?_; clear hK K)
                      iterate 4 (apply wpP_not; (focus rfl); (focus rfl); (focus exact S1.out); intro K hK; go_simp; refine hK _ ?_; clear hK K)
                      iterate 2 (apply wpP_go; (focus rfl); (focus rfl); (focus exact S1.out); (focus (rintro Y ⟨r1, r2⟩; have c33 : Y.cell? ⟨E, 33, none⟩ = some (.bool ea) := r1.cell (i := 33) (by omega); have c34 : Y.cell? ⟨E, 34, none⟩ = some (.int .i64 (enn : Int)) := r1.cell (i := 34) (by omega); have ld := ld_dg r1; have cx := r2 hxl; go_simp; exact rfl)); intro K hK; go_simp; refine hK _ ?_; clear hK K)
                      refine wpP_done ?_
                      go_wp2_with fail
                      go_meet
                      exact ⟨by rw [HGG.out], HF8, Lib.hid S1.out.1, HT8, HRO8, HB8⟩
                    case false =>
                      rw [Bool.not_false, Bool.true_and] at HGG
                      cases ea
                      · rw [Bool.false_and, Bool.false_and] at HGG
                        refine wp_region_pl (fun Y => Row Y E 34 35 (ecl ei ed false enn) ∧ (x < il → Y.cell? ⟨g, x, none⟩ = some (.string sx))) ((0, 0) :: (1, 0) :: (2, 0) :: (3, 0) :: (4, 0) :: (5, 0) :: (6, 0) :: (7, 0) :: (8, 0) :: (9, 0) :: (10, 0) :: (11, 0) :: (12, 0) :: (13, 0) :: (14, 0) :: (15, 0) :: (16, 0) :: (17, 0) :: (18, 0) :: (19, 0) :: (20, 0) :: (21, 0) :: (22, 0) :: (23, 0) :: (24, 0) :: (25, 0) :: (26, 0) :: (27, 0) :: (28, 0) :: (29, 0) :: (30, 0) :: (31, 0) :: (32, 0) :: (33, 0) :: (34, 0) :: (35, 0) :: []) (by kernel_rfl) (by kernel_rfl) ?_
                        generalize w7.drew = w8 at *
                        iterate 20 (apply wpP_go; (focus rfl); (focus rfl); (focus exact S1.out); (focus (rintro Y ⟨r1, r2⟩; have c33 : Y.cell? ⟨E, 33, none⟩ = some (.bool false) := r1.cell (i := 33) (by omega); have c34 : Y.cell? ⟨E, 34, none⟩ = some (.int .i64 (enn : Int)) := r1.cell (i := 34) (by omega); have ld := ld_dg r1; have cx := r2 hxl; go_simp; exact rfl)); intro K hK; go_simp; refine hK _ ?_; clear hK K)
                        iterate 8 (apply wpP_not; (focus rfl); (focus rfl); (focus exact S1.out); intro K hK; go_simp; refine hK _ ?_; clear hK K)
                        iterate 2 (apply wpP_go; (focus rfl); (focus rfl); (focus exact S1.out); (focus (rintro Y ⟨r1, r2⟩; have c33 : Y.cell? ⟨E, 33, none⟩ = some (.bool false) := r1.cell (i := 33) (by omega); have c34 : Y.cell? ⟨E, 34, none⟩ = some (.int .i64 (enn : Int)) := r1.cell (i := 34) (by omega); have ld := ld_dg r1; have cx := r2 hxl; go_simp; exact rfl)); intro K hK; go_simp; refine hK _ ?_; clear hK K)
                        iterate 4 (apply wpP_not; (focus rfl); (focus rfl); (focus exact S1.out); intro K hK; go_simp; refine hK _ ?_; clear hK K)
                        iterate 2 (apply wpP_go; (focus rfl); (focus rfl); (focus exact S1.out); (focus (rintro Y ⟨r1, r2⟩; have c33 : Y.cell? ⟨E, 33, none⟩ = some (.bool false) := r1.cell (i := 33) (by omega); have c34 : Y.cell? ⟨E, 34, none⟩ = some (.int .i64 (enn : Int)) := r1.cell (i := 34) (by omega); have ld := ld_dg r1; have cx := r2 hxl; go_simp; exact rfl)); intro K hK; go_simp; refine hK _ ?_; clear hK K)
                        refine wpP_done ?_
                        go_wp2_with fail
                        go_meet
                        exact ⟨by rw [HGG.out], HF8, Lib.hid S1.out.1, HT8, HRO8, HB8⟩
                      · rw [Bool.true_and] at HGG
                        have heq : ∀ Y, (binOp .eql 31 (.agg (Ms.arr 32 (Ms.b8 (dgF ed)))) (.agg (Ms.arr 32 (Ms.b8 (dgF (sumS sx)))))).run Tryz.prog Y = .ok (.bool (decide (ed = sumS sx))) Y := fun Y => eqDg (HLD.out rfl) (sumS_len _) Y
                        generalize decide (ed = sumS sx) = dq at *
                        cases dq
                        · rw [Bool.false_and] at HGG
                          refine wp_region_pl (fun Y => Row Y E 34 35 (ecl ei ed true enn) ∧ (x < il → Y.cell? ⟨g, x, none⟩ = some (.string sx))) ((0, 0) :: (1, 0) :: (2, 0) :: (3, 0) :: (4, 0) :: (5, 0) :: (6, 0) :: (7, 0) :: (8, 0) :: (9, 0) :: (10, 0) :: (11, 0) :: (12, 0) :: (13, 0) :: (14, 0) :: (15, 0) :: (16, 0) :: (17, 0) :: (18, 0) :: (19, 0) :: (20, 0) :: (21, 0) :: (22, 0) :: (23, 0) :: (24, 0) :: (25, 0) :: (26, 1) :: (27, 0) :: (28, 0) :: (29, 0) :: (30, 0) :: (31, 0) :: (32, 0) :: (33, 0) :: (34, 0) :: (35, 0) :: []) (by kernel_rfl) (by kernel_rfl) ?_
                          generalize w7.drew = w8 at *
                          iterate 26 (apply wpP_go; (focus rfl); (focus rfl); (focus exact S1.out); (focus (rintro Y ⟨r1, r2⟩; have c33 : Y.cell? ⟨E, 33, none⟩ = some (.bool true) := r1.cell (i := 33) (by omega); have c34 : Y.cell? ⟨E, 34, none⟩ = some (.int .i64 (enn : Int)) := r1.cell (i := 34) (by omega); have ld := ld_dg r1; have cx := r2 hxl; go_simp; exact rfl)); intro K hK; go_simp; refine hK _ ?_; clear hK K)
                          apply wpP_one
                          focus rfl
                          intro K hK
                          go_simp
                          refine HSM.out.mono ?_
                          rintro e w9 ⟨rfl, b9⟩
                          have HF9 := Lib.hid (HF8.out.below b9)
                          have HT9 := Lib.hid (HT8.out.below b9)
                          have HRO9 := Lib.hid (HRO8.out.below b9)
                          have HB9 : Hid (Below w.heap.size w w9) := HB8.out.trans (b9.mono HB8.out.size)
                          have HRE9 := Lib.hid (S1.out.1.below b9 S1.out.1.lt)
                          have S2 : Hid (Row w9 E 34 35 (ecl ei ed true enn) ∧ (x < il → w9.cell? ⟨g, x, none⟩ = some (.string sx))) := ⟨HRE9.out, fun h => (b9.cell (p := ⟨g, x, none⟩) HGL.out).trans (S1.out.2 h)⟩
                          refine hK _ _ S2.out ?_
                          clear hK K S1 HF8 HT8 HRO8 HB8 b9 HSM
                          have S1 := S2
                          have HF8 := HF9
                          have HT8 := HT9
                          have HRO8 := HRO9
                          have HB8 := HB9
                          clear S2
                          iterate 3 (apply wpP_go; (focus rfl); (focus rfl); (focus exact S1.out); (focus (rintro Y ⟨r1, r2⟩; have c33 : Y.cell? ⟨E, 33, none⟩ = some (.bool true) := r1.cell (i := 33) (by omega); have c34 : Y.cell? ⟨E, 34, none⟩ = some (.int .i64 (enn : Int)) := r1.cell (i := 34) (by omega); have ld := ld_dg r1; have cx := r2 hxl; go_simp; exact rfl)); intro K hK; go_simp; refine hK _ ?_; clear hK K)
                          iterate 4 (apply wpP_not; (focus rfl); (focus rfl); (focus exact S1.out); intro K hK; go_simp; refine hK _ ?_; clear hK K)
                          iterate 2 (apply wpP_go; (focus rfl); (focus rfl); (focus exact S1.out); (focus (rintro Y ⟨r1, r2⟩; have c33 : Y.cell? ⟨E, 33, none⟩ = some (.bool true) := r1.cell (i := 33) (by omega); have c34 : Y.cell? ⟨E, 34, none⟩ = some (.int .i64 (enn : Int)) := r1.cell (i := 34) (by omega); have ld := ld_dg r1; have cx := r2 hxl; go_simp; exact rfl)); intro K hK; go_simp; refine hK _ ?_; clear hK K)
                          refine wpP_done ?_
                          go_wp2_with fail
                          go_meet
                          exact ⟨by rw [HGG.out], HF8, Lib.hid S1.out.1, HT8, HRO8, HB8⟩
                        · rw [Bool.true_and] at HGG
                          by_cases huu : eu < enn
                          · have huI : (eu : Int) < enn := by omega
                            rw [decide_eq_true huu] at HGG
                            refine wp_region_pl (fun Y => Row Y E 34 35 (ecl ei ed true enn) ∧ (x < il → Y.cell? ⟨g, x, none⟩ = some (.string sx))) ((0, 0) :: (1, 0) :: (2, 0) :: (3, 0) :: (4, 0) :: (5, 0) :: (6, 0) :: (7, 0) :: (8, 0) :: (9, 0) :: (10, 0) :: (11, 0) :: (12, 0) :: (13, 0) :: (14, 0) :: (15, 0) :: (16, 0) :: (17, 0) :: (18, 0) :: (19, 0) :: (20, 0) :: (21, 0) :: (22, 0) :: (23, 0) :: (24, 0) :: (25, 0) :: (26, 1) :: (27, 0) :: (28, 0) :: (29, 0) :: (30, 0) :: (31, 0) :: (32, 0) :: (33, 0) :: (34, 0) :: (35, 0) :: []) (by kernel_rfl) (by kernel_rfl) ?_
                            generalize w7.drew = w8 at *
                            iterate 26 (apply wpP_go; (focus rfl); (focus rfl); (focus exact S1.out); (focus (rintro Y ⟨r1, r2⟩; have c33 : Y.cell? ⟨E, 33, none⟩ = some (.bool true) := r1.cell (i := 33) (by omega); have c34 : Y.cell? ⟨E, 34, none⟩ = some (.int .i64 (enn : Int)) := r1.cell (i := 34) (by omega); have ld := ld_dg r1; have cx := r2 hxl; go_simp; exact rfl)); intro K hK; go_simp; refine hK _ ?_; clear hK K)
                            apply wpP_one
                            focus rfl
                            intro K hK
                            go_simp
                            refine HSM.out.mono ?_
                            rintro e w9 ⟨rfl, b9⟩
                            have HF9 := Lib.hid (HF8.out.below b9)
                            have HT9 := Lib.hid (HT8.out.below b9)
                            have HRO9 := Lib.hid (HRO8.out.below b9)
                            have HB9 : Hid (Below w.heap.size w w9) := HB8.out.trans (b9.mono HB8.out.size)
                            have HRE9 := Lib.hid (S1.out.1.below b9 S1.out.1.lt)
                            have S2 : Hid (Row w9 E 34 35 (ecl ei ed true enn) ∧ (x < il → w9.cell? ⟨g, x, none⟩ = some (.string sx))) := ⟨HRE9.out, fun h => (b9.cell (p := ⟨g, x, none⟩) HGL.out).trans (S1.out.2 h)⟩
                            refine hK _ _ S2.out ?_
                            clear hK K S1 HF8 HT8 HRO8 HB8 b9 HSM
                            have S1 := S2
                            have HF8 := HF9
                            have HT8 := HT9
                            have HRO8 := HRO9
                            have HB8 := HB9
                            clear S2
                            iterate 9 (apply wpP_go; (focus rfl); (focus rfl); (focus exact S1.out); (focus (rintro Y ⟨r1, r2⟩; have c33 : Y.cell? ⟨E, 33, none⟩ = some (.bool true) := r1.cell (i := 33) (by omega); have c34 : Y.cell? ⟨E, 34, none⟩ = some (.int .i64 (enn : Int)) := r1.cell (i := 34) (by omega); have ld := ld_dg r1; have cx := r2 hxl; go_simp; exact rfl)); intro K hK; go_simp; refine hK _ ?_; clear hK K)
                            refine wpP_done ?_
                            go_wp2_with fail
                            go_meet
                            exact ⟨by rw [HGG.out], HF8, Lib.hid S1.out.1, HT8, HRO8, HB8⟩
                          · have huI : ¬ (eu : Int) < enn := by omega
                            rw [decide_eq_false huu] at HGG
                            refine wp_region_pl (fun Y => Row Y E 34 35 (ecl ei ed true enn) ∧ (x < il → Y.cell? ⟨g, x, none⟩ = some (.string sx))) ((0, 0) :: (1, 0) :: (2, 0) :: (3, 0) :: (4, 0) :: (5, 0) :: (6, 0) :: (7, 0) :: (8, 0) :: (9, 0) :: (10, 0) :: (11, 0) :: (12, 0) :: (13, 0) :: (14, 0) :: (15, 0) :: (16, 0) :: (17, 0) :: (18, 0) :: (19, 0) :: (20, 0) :: (21, 0) :: (22, 0) :: (23, 0) :: (24, 0) :: (25, 0) :: (26, 1) :: (27, 0) :: (28, 0) :: (29, 0) :: (30, 0) :: (31, 0) :: (32, 0) :: (33, 0) :: (34, 0) :: (35, 0) :: []) (by kernel_rfl) (by kernel_rfl) ?_
                            generalize w7.drew = w8 at *
                            iterate 26 (apply wpP_go; (focus rfl); (focus rfl); (focus exact S1.out); (focus (rintro Y ⟨r1, r2⟩; have c33 : Y.cell? ⟨E, 33, none⟩ = some (.bool true) := r1.cell (i := 33) (by omega); have c34 : Y.cell? ⟨E, 34, none⟩ = some (.int .i64 (enn : Int)) := r1.cell (i := 34) (by omega); have ld := ld_dg r1; have cx := r2 hxl; go_simp; exact rfl)); intro K hK; go_simp; refine hK _ ?_; clear hK K)
                            apply wpP_one
                            focus rfl
                            intro K hK
                            go_simp
                            refine HSM.out.mono ?_
                            rintro e w9 ⟨rfl, b9⟩
                            have HF9 := Lib.hid (HF8.out.below b9)
                            have HT9 := Lib.hid (HT8.out.below b9)
                            have HRO9 := Lib.hid (HRO8.out.below b9)
                            have HB9 : Hid (Below w.heap.size w w9) := HB8.out.trans (b9.mono HB8.out.size)
                            have HRE9 := Lib.hid (S1.out.1.below b9 S1.out.1.lt)
                            have S2 : Hid (Row w9 E 34 35 (ecl ei ed true enn) ∧ (x < il → w9.cell? ⟨g, x, none⟩ = some (.string sx))) := ⟨HRE9.out, fun h => (b9.cell (p := ⟨g, x, none⟩) HGL.out).trans (S1.out.2 h)⟩
                            refine hK _ _ S2.out ?_
                            clear hK K S1 HF8 HT8 HRO8 HB8 b9 HSM
                            have S1 := S2
                            have HF8 := HF9
                            have HT8 := HT9
                            have HRO8 := HRO9
                            have HB8 := HB9
                            clear S2
                            iterate 9 (apply wpP_go; (focus rfl); (focus rfl); (focus exact S1.out); (focus (rintro Y ⟨r1, r2⟩; have c33 : Y.cell? ⟨E, 33, none⟩ = some (.bool true) := r1.cell (i := 33) (by omega); have c34 : Y.cell? ⟨E, 34, none⟩ = some (.int .i64 (enn : Int)) := r1.cell (i := 34) (by omega); have ld := ld_dg r1; have cx := r2 hxl; go_simp; exact rfl)); intro K hK; go_simp; refine hK _ ?_; clear hK K)
                            refine wpP_done ?_
                            go_wp2_with fail
                            go_meet
                            exact ⟨by rw [HGG.out], HF8, Lib.hid S1.out.1, HT8, HRO8, HB8⟩
                  · have hxI : ¬ (x : Int) < il := by omega
                    have e3 : decide (x < il) = false := decide_eq_false hxl
                    rw [e3, Bool.false_and, Bool.false_and, Bool.false_and, Bool.false_and] at HGG
                    clear e3 HEC
                    refine wp_region_pl (fun Y => Row Y E 34 35 (ecl ei ed ea enn) ∧ (x < il → Y.cell? ⟨g, x, none⟩ = some (.string sx))) ((0, 0) :: (1, 0) :: (2, 0) :: (3, 0) :: (4, 0) :: (5, 0) :: (6, 0) :: (7, 0) :: (8, 0) :: (9, 0) :: (10, 0) :: (11, 0) :: (12, 0) :: (13, 0) :: (14, 0) :: (15, 0) :: (16, 0) :: (17, 0) :: (18, 0) :: (19, 0) :: (20, 0) :: (21, 0) :: (22, 0) :: (23, 0) :: (24, 0) :: (25, 0) :: (26, 0) :: (27, 0) :: (28, 0) :: (29, 0) :: (30, 0) :: (31, 0) :: (32, 0) :: (33, 0) :: (34, 0) :: (35, 0) :: []) (by kernel_rfl) (by kernel_rfl) ?_
                    generalize w7.drew = w8 at *
                    iterate 9 (apply wpP_go; (focus rfl); (focus rfl); (focus exact S1.out); (focus (rintro Y ⟨r1, r2⟩; have c33 : Y.cell? ⟨E, 33, none⟩ = some (.bool ea) := r1.cell (i := 33) (by omega); have c34 : Y.cell? ⟨E, 34, none⟩ = some (.int .i64 (enn : Int)) := r1.cell (i := 34) (by omega); have ld := ld_dg r1; go_simp; exact rfl)); intro K hK; go_simp; refine hK _ ?_; clear hK K)
                    iterate 5 (apply wpP_not; (focus rfl); (focus rfl); (focus exact S1.out); intro K hK; go_simp; refine hK _ ?_; clear hK K)
                    iterate 2 (apply wpP_go; (focus rfl); (focus rfl); (focus exact S1.out); (focus (rintro Y ⟨r1, r2⟩; have c33 : Y.cell? ⟨E, 33, none⟩ = some (.bool ea) := r1.cell (i := 33) (by omega); have c34 : Y.cell? ⟨E, 34, none⟩ = some (.int .i64 (enn : Int)) := r1.cell (i := 34) (by omega); have ld := ld_dg r1; go_simp; exact rfl)); intro K hK; go_simp; refine hK _ ?_; clear hK K)
                    iterate 2 (apply wpP_not; (focus rfl); (focus rfl); (focus exact S1.out); intro K hK; go_simp; refine hK _ ?_; clear hK K)
                    iterate 2 (apply wpP_go; (focus rfl); (focus rfl); (focus exact S1.out); (focus (rintro Y ⟨r1, r2⟩; have c33 : Y.cell? ⟨E, 33, none⟩ = some (.bool ea) := r1.cell (i := 33) (by omega); have c34 : Y.cell? ⟨E, 34, none⟩ = some (.int .i64 (enn : Int)) := r1.cell (i := 34) (by omega); have ld := ld_dg r1; go_simp; exact rfl)); intro K hK; go_simp; refine hK _ ?_; clear hK K)
                    iterate 8 (apply wpP_not; (focus rfl); (focus rfl); (focus exact S1.out); intro K hK; go_simp; refine hK _ ?_; clear hK K)
                    iterate 2 (apply wpP_go; (focus rfl); (focus rfl); (focus exact S1.out); (focus (rintro Y ⟨r1, r2⟩; have c33 : Y.cell? ⟨E, 33, none⟩ = some (.bool ea) := r1.cell (i := 33) (by omega); have c34 : Y.cell? ⟨E, 34, none⟩ = some (.int .i64 (enn : Int)) := r1.cell (i := 34) (by omega); have ld := ld_dg r1; go_simp; exact rfl)); intro K hK; go_simp; refine hK _ ?_; clear hK K)
                    iterate 4 (apply wpP_not; (focus rfl); (focus rfl); (focus exact S1.out); intro K hK; go_simp; refine hK _ ?_; clear hK K)
                    iterate 2 (apply wpP_go; (focus rfl); (focus rfl); (focus exact S1.out); (focus (rintro Y ⟨r1, r2⟩; have c33 : Y.cell? ⟨E, 33, none⟩ = some (.bool ea) := r1.cell (i := 33) (by omega); have c34 : Y.cell? ⟨E, 34, none⟩ = some (.int .i64 (enn : Int)) := r1.cell (i := 34) (by omega); have ld := ld_dg r1; go_simp; exact rfl)); intro K hK; go_simp; refine hK _ ?_; clear hK K)
                    refine wpP_done ?_
                    go_wp2_with fail
                    go_meet
                    exact ⟨by rw [HGG.out], HF8, Lib.hid S1.out.1, HT8, HRO8, HB8⟩
                · subst e1 e2
                  rw [Bool.false_and, Bool.false_and, Bool.false_and, Bool.false_and, Bool.false_and] at HGG
                  clear HEC
                  refine wp_region_pl (fun Y => Row Y E 34 35 (ecl ei ed ea enn) ∧ (x < il → Y.cell? ⟨g, x, none⟩ = some (.string sx))) ((0, 0) :: (1, 0) :: (2, 0) :: (3, 0) :: (4, 0) :: (5, 0) :: (6, 0) :: (7, 0) :: (8, 0) :: (9, 0) :: (10, 0) :: (11, 0) :: (12, 0) :: (13, 0) :: (14, 0) :: (15, 0) :: (16, 0) :: (17, 0) :: (18, 0) :: (19, 0) :: (20, 0) :: (21, 0) :: (22, 0) :: (23, 0) :: (24, 0) :: (25, 0) :: (26, 0) :: (27, 0) :: (28, 0) :: (29, 0) :: (30, 0) :: (31, 0) :: (32, 0) :: (33, 0) :: (34, 0) :: (35, 0) :: []) (by kernel_rfl) (by kernel_rfl) ?_
                  generalize w7.drew = w8 at *
                  iterate 3 (apply wpP_go; (focus rfl); (focus rfl); (focus exact S1.out); (focus (rintro Y ⟨r1, r2⟩; have c33 : Y.cell? ⟨E, 33, none⟩ = some (.bool ea) := r1.cell (i := 33) (by omega); have c34 : Y.cell? ⟨E, 34, none⟩ = some (.int .i64 (enn : Int)) := r1.cell (i := 34) (by omega); have ld := ld_dg r1; go_simp; exact rfl)); intro K hK; go_simp; refine hK _ ?_; clear hK K)
                  iterate 4 (apply wpP_not; (focus rfl); (focus rfl); (focus exact S1.out); intro K hK; go_simp; refine hK _ ?_; clear hK K)
                  iterate 2 (apply wpP_go; (focus rfl); (focus rfl); (focus exact S1.out); (focus (rintro Y ⟨r1, r2⟩; have c33 : Y.cell? ⟨E, 33, none⟩ = some (.bool ea) := r1.cell (i := 33) (by omega); have c34 : Y.cell? ⟨E, 34, none⟩ = some (.int .i64 (enn : Int)) := r1.cell (i := 34) (by omega); have ld := ld_dg r1; go_simp; exact rfl)); intro K hK; go_simp; refine hK _ ?_; clear hK K)
                  iterate 5 (apply wpP_not; (focus rfl); (focus rfl); (focus exact S1.out); intro K hK; go_simp; refine hK _ ?_; clear hK K)
                  iterate 2 (apply wpP_go; (focus rfl); (focus rfl); (focus exact S1.out); (focus (rintro Y ⟨r1, r2⟩; have c33 : Y.cell? ⟨E, 33, none⟩ = some (.bool ea) := r1.cell (i := 33) (by omega); have c34 : Y.cell? ⟨E, 34, none⟩ = some (.int .i64 (enn : Int)) := r1.cell (i := 34) (by omega); have ld := ld_dg r1; go_simp; exact rfl)); intro K hK; go_simp; refine hK _ ?_; clear hK K)
                  iterate 2 (apply wpP_not; (focus rfl); (focus rfl); (focus exact S1.out); intro K hK; go_simp; refine hK _ ?_; clear hK K)
                  iterate 2 (apply wpP_go; (focus rfl); (focus rfl); (focus exact S1.out); (focus (rintro Y ⟨r1, r2⟩; have c33 : Y.cell? ⟨E, 33, none⟩ = some (.bool ea) := r1.cell (i := 33) (by omega); have c34 : Y.cell? ⟨E, 34, none⟩ = some (.int .i64 (enn : Int)) := r1.cell (i := 34) (by omega); have ld := ld_dg r1; go_simp; exact rfl)); intro K hK; go_simp; refine hK _ ?_; clear hK K)
                  iterate 8 (apply wpP_not; (focus rfl); (focus rfl); (focus exact S1.out); intro K hK; go_simp; refine hK _ ?_; clear hK K)
                  iterate 2 (apply wpP_go; (focus rfl); (focus rfl); (focus exact S1.out); (focus (rintro Y ⟨r1, r2⟩; have c33 : Y.cell? ⟨E, 33, none⟩ = some (.bool ea) := r1.cell (i := 33) (by omega); have c34 : Y.cell? ⟨E, 34, none⟩ = some (.int .i64 (enn : Int)) := r1.cell (i := 34) (by omega); have ld := ld_dg r1; go_simp; exact rfl)); intro K hK; go_simp; refine hK _ ?_; clear hK K)
                  iterate 4 (apply wpP_not; (focus rfl); (focus rfl); (focus exact S1.out); intro K hK; go_simp; refine hK _ ?_; clear hK K)
                  iterate 2 (apply wpP_go; (focus rfl); (focus rfl); (focus exact S1.out); (focus (rintro Y ⟨r1, r2⟩; have c33 : Y.cell? ⟨E, 33, none⟩ = some (.bool ea) := r1.cell (i := 33) (by omega); have c34 : Y.cell? ⟨E, 34, none⟩ = some (.int .i64 (enn : Int)) := r1.cell (i := 34) (by omega); have ld := ld_dg r1; go_simp; exact rfl)); intro K hK; go_simp; refine hK _ ?_; clear hK K)
                  refine wpP_done ?_
                  go_wp2_with fail
                  go_meet
                  exact ⟨by rw [HGG.out], HF8, Lib.hid S1.out.1, HT8, HRO8, HB8⟩
              case rest =>
                clear HF7 HT7 HRO7 HB7 HRE7 HGL
                obtain ⟨rfl, HF7, HRE7, HT7, HRO7, HB7⟩ := hcut
                have hdnd := HF7.out.denied
                rw [HFI.out.vv] at hdnd
                obtain ⟨dn, hdn⟩ : ∃ l, denV V2 = l := ⟨_, rfl⟩
                rw [hdn] at hdnd HXG
                have HDY := Lib.hid hdnd
                have HGE : Hid (gg = true → ed.length = 32) := fun q => by
                  rw [HGG.out] at q
                  cases iss
                  · simp at q
                  · exact HLD.out rfl
                have HGX : Hid (gg = true → x < il) := fun q => by
                  rw [HGG.out] at q
                  simp only [Bool.and_eq_true, decide_eq_true_eq] at q
                  exact q.1.1.1.1.2
                have HGU : Hid (gg = true → eu ≤ 255) := fun q => by
                  rw [HGG.out] at q
                  cases iss
                  · simp at q
                  · exact HLU.out rfl
                clear hdnd hdn HGG HEC HLD HLU HSX HSZ
                go_wp2_with fail
                refine HDY.out.mono ?_
                rintro e w8 ⟨v8, rfl, ho8, b8⟩
                have HF8 := Lib.hid (HF7.out.below b8)
                have HRE8 := Lib.hid (HRE7.out.below b8 HRE7.out.lt)
                have HT8 := Lib.hid (HT7.out.below b8)
                have HRO8 := Lib.hid (HRO7.out.below b8)
                have HB8 : Hid (Below w.heap.size w w8) := HB7.out.trans (b8.mono HB7.out.size)
                have HRD8 := Lib.hid ho8.rd
                have HD32 : Hid (∀ d ∈ dn, d.length = 32) := ho8.2.1
                obtain ⟨va, vc, rfl, hvc, hvcm⟩ := ho8.rd.shape
                clear ho8 b8 HDY HF7 HRE7 HT7 HRO7 HB7
                go_wp2_with fail
                go_loopw [19, 21] (fun y z wq => ∃ j : Nat, j ≤ dn.length ∧ y = .bool (gg && decide (ed ∉ dn.take j)) ∧ z = .int .i64 (j : Int) ∧ Hid (BF wq w.heap.size F2 M S L (60 + u) b5) ∧ Hid (Row wq E 34 35 (ecl ei ed ea enn)) ∧ Hid (RdT wq (.slice (some ⟨g, 0, none⟩) il 5) im) ∧ Hid (RdI wq (.slice (some ⟨g1, o, none⟩) n oc) ord) ∧ Hid (RdD wq (.slice va dn.length vc) dn) ∧ Hid (Below w.heap.size w wq)) (fun _ z _ => dn.length - (intOf z).toNat)
                case atStart => exact ⟨0, by omega, by simp, rfl, HF8, HRE8, HT8, HRO8, HRD8, HB8⟩
                case round =>
                  clear HF8 HRE8 HT8 HRO8 HRD8 HB8
                  obtain ⟨j, hj, rfl, rfl, HF, HRE, HTT, HRO, HRD, HB⟩ := hrel
                  by_cases hjl : j < dn.length
                  · have y2 : (j : Int) < dn.length := by omega
                    obtain ⟨gd, od, cd, e, _, _, hc⟩ := HRD.out.at hjl
                    injection e with e1 _ e3
                    subst e1 e3
                    have HKN : Hid ((gg && decide (ed ∉ dn.take (j + 1))) = ((gg && decide (ed ∉ dn.take j)) && !decide (dn[j] = ed))) := by
                      show _ = _
                      rw [Bool.and_assoc]
                      congr 1
                      rw [List.take_succ_eq_append_getElem hjl, Bool.eq_iff_iff]
                      simp only [decide_eq_true_eq, Bool.and_eq_true, Bool.not_eq_true', decide_eq_false_iff_not, List.mem_append, List.mem_singleton, not_or]
                      exact ⟨fun h => ⟨h.1, fun q => h.2 q.symm⟩, fun h => ⟨h.1, fun q => h.2 q.symm⟩⟩
                    have HDL := Lib.hid (HD32.out _ (List.getElem_mem hjl))
                    have S1 : Hid (Ms.ldN 32 wr.drew (.pointer (some ⟨gd, od + j * 32, none⟩)) = some (Ms.arr 32 (Ms.b8 (dgF dn[j]))) ∧ Row wr.drew E 34 35 (ecl ei ed ea enn)) := ⟨by rw [Ms.ldN_drew]; exact hc, HRE.out.drew⟩
                    generalize dn[j] = dj at *
                    have HGK : Hid ((gg && decide (ed ∉ dn.take j)) = true → gg = true) := fun q => (Bool.and_eq_true _ _ ▸ q : _ ∧ _).1
                    generalize (gg && decide (ed ∉ dn.take j)) = kn at *
                    have HFn := Lib.hid (HF.out.below ((Below.refl _ _).drew))
                    have HRn : Hid (Row wr.drew E 34 35 (ecl ei ed ea enn)) := HRE.out.drew
                    have HTn := Lib.hid (HTT.out.below ((Below.refl _ _).drew))
                    have HOn := Lib.hid (HRO.out.below ((Below.refl _ _).drew))
                    have HDn := Lib.hid (HRD.out.below ((Below.refl _ _).drew))
                    have HBn : Hid (Below w.heap.size w wr.drew) := HB.out.drew
                    clear hc HF HRE HTT HRO HRD HB
                    cases kn
                    · obtain ⟨cj, hcj⟩ : ∃ q, Ms.arr 32 (Ms.b8 (dgF dj)) = q := ⟨_, rfl⟩
                      rw [hcj] at S1
                      clear hcj
                      go_wp2_with fail
                      refine wp_region_pl (fun Y => Ms.ldN 32 Y (.pointer (some ⟨gd, od + j * 32, none⟩)) = some cj ∧ Row Y E 34 35 (ecl ei ed ea enn)) ((0, 0) :: (1, 0) :: (2, 0) :: (3, 0) :: (4, 0) :: (5, 0) :: (6, 0) :: (7, 0) :: (8, 0) :: (9, 0) :: (10, 0) :: []) (by kernel_rfl) (by kernel_rfl) ?_
                      iterate 2 (apply wpP_go; (focus rfl); (focus rfl); (focus exact S1.out); (focus (rintro Y ⟨s0, s1⟩; have ld := ld_dg s1; go_simp; exact rfl)); intro K hK; go_simp; refine hK _ ?_; clear hK K)
                      iterate 7 (apply wpP_not; (focus rfl); (focus rfl); (focus exact S1.out); intro K hK; go_simp; refine hK _ ?_; clear hK K)
                      iterate 2 (apply wpP_go; (focus rfl); (focus rfl); (focus exact S1.out); (focus (rintro Y ⟨s0, s1⟩; have ld := ld_dg s1; go_simp; exact rfl)); intro K hK; go_simp; refine hK _ ?_; clear hK K)
                      refine wpP_done ?_
                      clear S1
                      rw [Bool.false_and] at HKN
                      generalize wr.drew = wn at *
                      go_wp2_with fail
                      go_roundw
                      case rel => exact ⟨j + 1, by omega, by rw [HKN.out], by go_num, HFn, HRn, HTn, HOn, HDn, HBn⟩
                      case measure => simp [intOf]; omega
                    · have heq : ∀ Y, (binOp .neq 31 (.agg (Ms.arr 32 (Ms.b8 (dgF dj)))) (.agg (Ms.arr 32 (Ms.b8 (dgF ed))))).run Tryz.prog Y = .ok (.bool (!decide (dj = ed))) Y := fun Y => neDg HDL.out (HGE.out (HGK.out rfl)) Y
                      generalize Ms.arr 32 (Ms.b8 (dgF dj)) = cj at *
                      rw [Bool.true_and] at HKN
                      generalize (!decide (dj = ed)) = q at *
                      go_wp2_with fail
                      refine wp_region_pl (fun Y => Ms.ldN 32 Y (.pointer (some ⟨gd, od + j * 32, none⟩)) = some cj ∧ Row Y E 34 35 (ecl ei ed ea enn)) ((0, 0) :: (1, 0) :: (2, 0) :: (3, 0) :: (4, 0) :: (5, 0) :: (6, 0) :: (7, 0) :: (8, 0) :: (9, 0) :: (10, 0) :: []) (by kernel_rfl) (by kernel_rfl) ?_
                      iterate 11 (apply wpP_go; (focus rfl); (focus rfl); (focus exact S1.out); (focus (rintro Y ⟨s0, s1⟩; have ld := ld_dg s1; go_simp; exact rfl)); intro K hK; go_simp; refine hK _ ?_; clear hK K)
                      refine wpP_done ?_
                      clear S1 heq
                      generalize wr.drew = wn at *
                      go_wp2_with fail
                      go_roundw
                      case rel => exact ⟨j + 1, by omega, by rw [HKN.out], by go_num, HFn, HRn, HTn, HOn, HDn, HBn⟩
                      case measure => simp [intOf]; omega
                  · have ej : j = dn.length := by omega
                    have y2 : ¬ (j : Int) < dn.length := by omega
                    rw [ej, List.take_length] at *
                    have HOK : Hid (cx = 0 ↔ (gg && decide (ed ∉ dn)) = true) := by
                      show _ ↔ _
                      rw [HXG.out, Bool.and_eq_true, decide_eq_true_eq]
                    have HGO : Hid ((gg && decide (ed ∉ dn)) = true → gg = true) := fun q => (Bool.and_eq_true _ _ ▸ q : _ ∧ _).1
                    generalize (gg && decide (ed ∉ dn)) = ok at *
                    have hFG : ∀ g', (Value.slice (some ⟨g, 0, none⟩) il 5).ownBlock = some g' → F2 g' := fun g' hg' => by
                      have e : g = g' := by simpa [Value.ownBlock] using hg'
                      rw [← e]; exact HFG.out
                    have htr := HF.out.try (n := 60 + u) HFI.out.cal.blk (by omega) HFI.out.ids (by rw [HFI.out.es]; decide) (by have := HFI.out.log; omega) HTT.out hFG HIZ.out
                    have HFP := Lib.hid hFG
                    by_cases h0 : cx = 0
                    · have hok : ok = true := HOK.out.1 h0
                      obtain ⟨b6, e6, fs⟩ := HST.out h0
                      rw [e6] at htr
                      have HTR := Lib.hid htr
                      have heu := HGU.out (HGO.out hok)
                      have hxl : x < im.length := by rw [HIL.out]; exact HGX.out (HGO.out hok)
                      have HFS := Lib.hid fs
                      subst hok h0
                      clear htr e6 fs HST HSK HFI HRE HRD HXG HOK HGE HGU HGX HGO HF hFG
                      go_wp2_with fail
                      refine HTR.out.mono ?_
                      rintro e w9 ⟨rfl, bl⟩
                      obtain ⟨x0, x1⟩ := stepCells w9 (x : Int) 0
                      have HF9 := Lib.hid (bl.bf.below (w' := w9.alloc (.cells #[.int .i64 (x : Int), .int .i64 0] 40)) ((Below.refl _ _).alloc (Nat.le_refl _) _))
                      have HT9 : Hid (RdT (w9.alloc (.cells #[.int .i64 (x : Int), .int .i64 0] 40)) (.slice (some ⟨g, 0, none⟩) il 5) im) := (HTT.out.ch bl.ch (fun g' hg' q => q (HFP.out g' hg'))).below ((Below.refl _ _).alloc (Nat.le_refl _) _)
                      have HRO9 : Hid (RdI (w9.alloc (.cells #[.int .i64 (x : Int), .int .i64 0] 40)) (.slice (some ⟨g1, o, none⟩) n oc) ord) := (HRO.out.ch bl.ch (fun g' hg' q => q (HFO.out g' hg'))).below ((Below.refl _ _).alloc (Nat.le_refl _) _)
                      have HB9 : Hid (Below w.heap.size w (w9.alloc (.cells #[.int .i64 (x : Int), .int .i64 0] 40))) := (HB.out.trans bl.bel).alloc ((HB.out.trans bl.bel).size) _
                      obtain ⟨dd, aa, nn, hdd, hnn, hO⟩ := HFS.out.ent
                      have hEN := HF9.out.entry (x : Int)
                      unfold entT at hEN
                      rw [hO] at hEN
                      unfold enV entA at hEN
                      simp only at hEN
                      have HEN := Lib.hid hEN
                      have hst9 := fun (W : World) => st34 (nE_row W) (x : Int) dd aa nn
                      have hu2 : ((eu + 1 : Nat) : Int) = (eu : Int) + 1 := by omega
                      have hu3 : (eu : Int) + 1 ≤ 256 := by omega
                      clear bl HTR HTT HRO HB hO hEN hdd hnn
                      go_wp2_with fail
                      refine HEN.out.mono ?_
                      rintro e w10 ⟨rfl, b10⟩
                      generalize w9.alloc (.cells #[.int .i64 (x : Int), .int .i64 0] 40) = w9s at *
                      have hb11 : Below w9s.heap.size w9s (w10.alloc (.cells (Ms.arr 35 (ecl (x : Int) dd aa nn)) 34)) := b10.alloc b10.size _
                      have HF11 := Lib.hid ((HF9.out.below hb11).mono (n' := 60 + (u + 1)) (by omega))
                      have HT11 := Lib.hid (HT9.out.below hb11)
                      have HRO11 := Lib.hid (HRO9.out.below hb11)
                      have HB11 : Hid (Below w.heap.size w (w10.alloc (.cells (Ms.arr 35 (ecl (x : Int) dd aa nn)) 34))) := HB9.out.trans (hb11.mono HB9.out.size)
                      clear b10 hb11 HEN HF9 HT9 HRO9 HB9 x0 x1
                      go_wp2_with fail
                      generalize w10.alloc (.cells (Ms.arr 35 (ecl (x : Int) dd aa nn)) 34) = w11 at *
                      clear hst9
                      go_roundw
                      case rel => exact ⟨u + 1, some x, b6, by omega, by rfl, by go_num, ⟨hx16, hxl, _, HFS.out⟩, HF11, HT11, HRO11, HB11⟩
                      case measure => simp [intOf]; omega
                    · have hok : ok = false := by
                        cases ok
                        · rfl
                        · exact absurd (HOK.out.2 rfl) h0
                      obtain ⟨b6, e6, fs⟩ := HSK.out h0
                      rw [e6] at htr
                      have HTR := Lib.hid htr
                      have HFS : Hid (RS k ord V2 im (u + 1) none b6) := fs
                      have hcb : (cx == 0) = false := by simpa using h0
                      subst hok
                      clear htr e6 fs HST HSK HFI HRE HRD HXG HOK HGE HGU HGX HGO HF hFG h0
                      go_wp2_with fail
                      refine HTR.out.mono ?_
                      rintro e w9 ⟨rfl, bl⟩
                      obtain ⟨x0, x1⟩ := stepCells w9 (x : Int) cx
                      have HF9 := Lib.hid ((bl.bf.below (w' := w9.alloc (.cells #[.int .i64 (x : Int), .int .i64 cx] 40)) ((Below.refl _ _).alloc (Nat.le_refl _) _)).mono (n' := 60 + (u + 1)) (by omega))
                      have HT9 : Hid (RdT (w9.alloc (.cells #[.int .i64 (x : Int), .int .i64 cx] 40)) (.slice (some ⟨g, 0, none⟩) il 5) im) := (HTT.out.ch bl.ch (fun g' hg' q => q (HFP.out g' hg'))).below ((Below.refl _ _).alloc (Nat.le_refl _) _)
                      have HRO9 : Hid (RdI (w9.alloc (.cells #[.int .i64 (x : Int), .int .i64 cx] 40)) (.slice (some ⟨g1, o, none⟩) n oc) ord) := (HRO.out.ch bl.ch (fun g' hg' q => q (HFO.out g' hg'))).below ((Below.refl _ _).alloc (Nat.le_refl _) _)
                      have HB9 : Hid (Below w.heap.size w (w9.alloc (.cells #[.int .i64 (x : Int), .int .i64 cx] 40))) := (HB.out.trans bl.bel).alloc ((HB.out.trans bl.bel).size) _
                      clear bl HTR HTT HRO HB
                      go_wp2_with fail
                      generalize w9.alloc (.cells #[.int .i64 (x : Int), .int .i64 cx] 40) = w9s at *
                      clear x0 x1
                      go_roundw
                      case rel => exact ⟨u + 1, none, b6, by omega, by rfl, by go_num, HFS, HF9, HT9, HRO9, HB9⟩
                      case measure => simp [intOf]; omega
          · have y1 : ¬ (u : Int) < n := by omega
            cases st with
            | some s => as_aux_lemma =>
              obtain ⟨hs16, hsl, us, fs⟩ : s < 16 ∧ s < im.length ∧ ∃ us, FSt (k + 1) s us im b5 := HRS.out
              obtain ⟨e6, b7, e7, c7, hu7, hO7⟩ := fs_end fs (by omega) hs16
              rw [show stI (some s) = (s : Int) from rfl]
              have hsI : ¬ (s : Int) < 0 := by omega
              have hsl2 : s < il := by rw [← HIL.out]; exact hsl
              have hslI : (s : Int) < il := by omega
              have hFG : ∀ g', (Value.slice (some ⟨g, 0, none⟩) il 5).ownBlock = some g' → F2 g' := fun g' hg' => by
                have e : g = g' := by simpa [Value.ownBlock] using hg'
                rw [← e]; exact HFG.out
              have htr := HF.out.try (n := 60 + u) fs.cal.blk (by omega) (by rw [fs.cand]; exact fun x hx => (by cases hx)) (by rw [fs.es]; simp) (by have := fs.log; omega) HTT.out hFG HIZ.out
              rw [e6] at htr
              have HTR := Lib.hid htr
              have HFP := Lib.hid hFG
              have HES := Lib.hid fs.es
              have HE7 := Lib.hid (And.intro e7 fs.cal.blk)
              have HU7 := Lib.hid (And.intro hu7 hO7)
              clear fs e6 e7 c7 hu7 hO7 htr hFG HRS HF HRO
              go_wp2_with fail
              refine HTR.out.mono ?_
              rintro e w7 ⟨rfl, bl⟩
              have HF8 := Lib.hid (bl.bf.below (w' := w7.alloc (.cells #[.int .i64 0, .int .i64 0] 40)) ((Below.refl _ _).alloc (Nat.le_refl _) _))
              have HT8 : Hid (RdT (w7.alloc (.cells #[.int .i64 0, .int .i64 0] 40)) (.slice (some ⟨g, 0, none⟩) il 5) im) := (HTT.out.ch bl.ch (fun g' hg' q => q (HFP.out g' hg'))).below ((Below.refl _ _).alloc (Nat.le_refl _) _)
              have HB8 : Hid (Below w.heap.size w (w7.alloc (.cells #[.int .i64 0, .int .i64 0] 40))) := (HB.out.trans bl.bel).alloc ((HB.out.trans bl.bel).size) _
              have hev := HF8.out.events (by rw [HES.out]; simp)
              rw [HES.out] at hev
              have HEV := Lib.hid hev
              clear bl HTR HTT HB hev
              go_wp2_with fail
              generalize w7.alloc (.cells #[.int .i64 0, .int .i64 0] 40) = w8 at *
              refine HEV.out.mono ?_
              rintro e w9 ⟨v9, rfl, ho9, b9⟩
              obtain ⟨ge, oe, ce, rfl, hge, hr0, hd0⟩ := rdE_at (i := 0) ho9.rd rfl
              have hge8 := (ownN_rg ho9 rfl).2
              rw [Nat.zero_mul, Nat.add_zero] at hr0 hd0
              obtain ⟨F3, hF3, hF4, hF5⟩ : ∃ F3 : Nat → Prop, BF w9 w.heap.size F3 M S L (60 + u + 1) b5 ∧ F3 ge ∧ F3 g := ⟨_, HF8.out.news b9, .inr ⟨hge8, hge⟩, .inl HFG.out⟩
              have HF9 := Lib.hid hF3
              have HFE := Lib.hid (And.intro hF4 hF5)
              have HT9 := Lib.hid (HT8.out.below b9)
              have HB9 : Hid (Below w.heap.size w w9) := HB8.out.trans (b9.mono HB8.out.size)
              obtain ⟨sx, hsx⟩ : ∃ q, im.getD s ⟨#[]⟩ = q := ⟨_, rfl⟩
              have hdg : Ms.arr 32 (Ms.b8 (Ms.sumD sx.data.toList)) = Ms.arr 32 (Ms.b8 (dgF (sumS sx))) := by
                have e := sumD_dg sx.data.toList
                unfold dgA at e
                injection e with e
                exact e.symm
              rw [hsx] at hd0
              have hsz : sx.size ≤ 1073741824 := by
                rw [← hsx, List.getD_eq_getElem?_getD]
                rcases hg : im[s]? with _ | q
                · exact of_decide_eq_true rfl
                · exact HIZ.out q (List.mem_of_getElem? hg)
              have hcs : w9.cell? ⟨g, s, none⟩ = some (.string sx) := by
                have hx : s < im.length := by rw [HIL.out]; exact hsl2
                obtain ⟨g9, o9, c9, e, _, _, _, hc9⟩ := HT9.out.cellAt hx
                injection e with e1
                injection e1 with e1
                injection e1 with e1 e2
                subst e1
                rw [← e2, Nat.zero_add] at hc9
                rw [hc9, ← hsx, List.getD_eq_getElem?_getD, List.getElem?_eq_getElem hx]
                rfl
              have hgl : g < w9.heap.size := by obtain ⟨_, _, _, _, _, h3, _⟩ := HT9.out; exact h3 g rfl
              have HRG9 : Hid (w9.drew.rangeAt ge (oe + 1) (Ms.arr 32 (Ms.b8 (dgF (sumS sx)))).toList) := by
                show World.rangeAt _ _ _ _
                rw [← hdg]; exact hd0
              have HQS : Hid ((Ms.arr 32 (Ms.b8 (dgF (sumS sx)))).size = 32) := Ms.arr_size _ _
              have S1 : Hid (Ms.ldN 32 w9.drew (.pointer (some ⟨ge, oe + 1, none⟩)) = some (Ms.arr 32 (Ms.b8 (dgF (sumS sx)))) ∧ w9.drew.cell? ⟨ge, oe, none⟩ = some (.int .i64 4) ∧ w9.drew.cell? ⟨g, s, none⟩ = some (.string sx)) := ⟨Ms.ldN_of HRG9.out HQS.out, hr0, hcs⟩
              have HF10 := Lib.hid (HF9.out.below ((Below.refl _ _).drew))
              have HB10 : Hid (Below w.heap.size w w9.drew) := HB9.out.drew
              have HL10 : Hid (ge < w9.drew.heap.size ∧ g < w9.drew.heap.size) := ⟨hge, hgl⟩
              have HSM := Lib.hid (sum_str sx w9.drew hsz HF10.out.rnd HF10.out.pos)
              have heq : ∀ Y, (binOp .neq 31 (.agg (Ms.arr 32 (Ms.b8 (dgF (sumS sx))))) (.agg (Ms.arr 32 (Ms.b8 (dgF (sumS sx)))))).run Tryz.prog Y = .ok (.bool false) Y := fun Y => by
                rw [neDg (sumS_len _) (sumS_len _)]; simp
              generalize Ms.arr 32 (Ms.b8 (dgF (sumS sx))) = dq at *
              clear ho9 b9 hge hr0 hd0 hge8 hF3 hF4 hF5 hdg hsx hsz hcs hgl HEV HF8 HT8 HB8 HF9 HT9 HB9
              go_wp2_with fail
              refine wp_region_pl (fun Y => Ms.ldN 32 Y (.pointer (some ⟨ge, oe + 1, none⟩)) = some (dq) ∧ Y.cell? ⟨ge, oe, none⟩ = some (.int .i64 4) ∧ Y.cell? ⟨g, s, none⟩ = some (.string sx)) ((0, 0) :: (1, 0) :: (2, 0) :: (3, 0) :: (4, 0) :: (5, 0) :: (6, 0) :: (7, 0) :: (8, 0) :: (9, 0) :: (10, 0) :: (11, 0) :: (12, 1) :: (13, 0) :: (14, 0) :: (15, 0) :: (16, 0) :: (17, 0) :: (18, 0) :: (19, 0) :: (20, 0) :: (21, 0) :: (22, 0) :: (23, 0) :: (24, 1) :: (25, 0) :: (26, 0) :: []) (by kernel_rfl) (by kernel_rfl) ?_
              generalize w9.drew = w10 at *
              iterate 12 (apply wpP_go; (focus rfl); (focus rfl); (focus exact S1.out); (focus (rintro Y ⟨s0, s1, s2⟩; go_simp; exact rfl)); intro K hK; go_simp; refine hK _ ?_; clear hK K)
              apply wpP_one
              focus rfl
              intro K hK
              go_simp
              refine HSM.out.mono ?_
              rintro e w11 ⟨rfl, b11⟩
              have HRG11 := Lib.hid (Ms.rangeAt_below HRG9.out b11 HL10.out.1)
              have ldk : Ms.ldN 32 w11 (.pointer (some ⟨ge, oe + 1, none⟩)) = some dq := Ms.ldN_of HRG11.out HQS.out
              have S2 : Hid (Ms.ldN 32 w11 (.pointer (some ⟨ge, oe + 1, none⟩)) = some dq ∧ w11.cell? ⟨ge, oe, none⟩ = some (.int .i64 4) ∧ w11.cell? ⟨g, s, none⟩ = some (.string sx)) := ⟨ldk, (b11.cell (p := ⟨ge, oe, none⟩) HL10.out.1).trans S1.out.2.1, (b11.cell (p := ⟨g, s, none⟩) HL10.out.2).trans S1.out.2.2⟩
              have HF11 := Lib.hid (HF10.out.below b11)
              have HB11 : Hid (Below w.heap.size w w11) := HB10.out.trans (b11.mono HB10.out.size)
              refine hK _ _ S2.out ?_
              clear hK K S1 HF10 HB10 b11 HSM ldk
              have S1 := S2
              clear S2
              iterate 11 (apply wpP_go; (focus rfl); (focus rfl); (focus exact S1.out); (focus (rintro Y ⟨s0, s1, s2⟩; go_simp; exact rfl)); intro K hK; go_simp; refine hK _ ?_; clear hK K)
              apply wpP_one
              focus rfl
              intro K hK
              go_simp
              have HSC : Hid (Calls Tryz.prog 18 #[fptr M] w11 fun e w' => e = .returned (.int .i64 0) ∧ BL w11 w' w.heap.size F3 M S L (60 + u + 1 + 1) b7) := by
                have := HF11.out.succ HE7.out.2 (by omega)
                rw [HE7.out.1] at this
                exact this
              refine HSC.out.mono ?_
              rintro e w12 ⟨rfl, bl⟩
              have ldk : Ms.ldN 32 w12 (.pointer (some ⟨ge, oe + 1, none⟩)) = some dq := Ms.ldN_of (Ms.rangeAt_ch HRG11.out bl.ch (HF11.out.lt _ HFE.out.1) (fun q => q HFE.out.1)) HQS.out
              have S2 : Hid (Ms.ldN 32 w12 (.pointer (some ⟨ge, oe + 1, none⟩)) = some dq ∧ w12.cell? ⟨ge, oe, none⟩ = some (.int .i64 4) ∧ w12.cell? ⟨g, s, none⟩ = some (.string sx)) := ⟨ldk, (bl.ch.cell ⟨ge, oe, none⟩ (HF11.out.lt _ HFE.out.1) (fun q => q HFE.out.1)).trans S1.out.2.1, (bl.ch.cell ⟨g, s, none⟩ (HF11.out.lt _ HFE.out.2) (fun q => q HFE.out.2)).trans S1.out.2.2⟩
              have HF12 := Lib.hid bl.bf
              have HB12 : Hid (Below w.heap.size w w12) := HB11.out.trans bl.bel
              refine hK _ _ S2.out ?_
              clear hK K S1 HF11 HB11 bl HSC ldk
              have S1 := S2
              clear S2
              iterate 2 (apply wpP_go; (focus rfl); (focus rfl); (focus exact S1.out); (focus (rintro Y ⟨s0, s1, s2⟩; go_simp; exact rfl)); intro K hK; go_simp; refine hK _ ?_; clear hK K)
              refine wpP_done ?_
              clear S1 heq
              have hEN := HF12.out.entry (s : Int)
              rw [entT_ex, HU7.out.1, HU7.out.2, if_pos rfl] at hEN
              generalize exE b7.st.V (s : Int) = en at *
              obtain ⟨ei, ed, ea, enn, eu⟩ := en
              unfold enV entA at hEN
              simp only at hEN
              have HEN := Lib.hid hEN
              have hst9 := fun (W : World) => st34 (nE_row W) ei ed ea enn
              clear hEN
              go_wp2_with fail
              refine HEN.out.mono ?_
              rintro e w13 ⟨rfl, b13⟩
              have hb14 : Below w12.heap.size w12 (w13.alloc (.cells (Ms.arr 35 (ecl ei ed ea enn)) 34)) := b13.alloc b13.size _
              have HB14 : Hid (Below w.heap.size w (w13.alloc (.cells (Ms.arr 35 (ecl ei ed ea enn)) 34))) := HB12.out.trans (hb14.mono HB12.out.size)
              have hf14 := HF12.out.below hb14
              have HAW := Lib.hid (awake_any _ hf14.rnd hf14.pos)
              clear b13 hb14 HEN HF12 HB12 hf14
              go_wp2_with fail
              refine HAW.out.mono ?_
              rintro e w15 ⟨rfl, bb⟩
              have HBF : Hid (Below w.heap.size w w15) := HB14.out.trans (bb.mono HB14.out.size)
              clear bb HAW HB14 hst9
              go_wp2_with fail
              go_ret
              exact ⟨rfl, HBW.out.trans (HBF.out.mono HBW.out.size)⟩
            | none => as_aux_lemma =>
              have eu : u = n := by omega
              subst eu
              have HFI : Hid (FI k ord V2 ord.length b5) := by rw [HN.out]; exact HRS.out
              obtain ⟨e6, e7⟩ := fi_end (L := im) HFI.out
              have hFG : ∀ g', (Value.slice (some ⟨g, 0, none⟩) il 5).ownBlock = some g' → F2 g' := fun g' hg' => by
                have e : g = g' := by simpa [Value.ownBlock] using hg'
                rw [← e]; exact HFG.out
              have htr := HF.out.try (n := 60 + u) HFI.out.cal.blk (by omega) HFI.out.ids (by rw [HFI.out.es]; decide) (by have := HFI.out.log; have := HN.out; omega) HTT.out hFG HIZ.out
              rw [e6] at htr
              have HTR := Lib.hid htr
              have HES := Lib.hid HFI.out.es
              have HE7 := Lib.hid (And.intro e7 HFI.out.cal.blk)
              clear e6 e7 htr hFG HRS HF HRO HFI
              go_wp2_with fail
              refine HTR.out.mono ?_
              rintro e w7 ⟨rfl, bl⟩
              have HF8 := Lib.hid (bl.bf.below (w' := w7.alloc (.cells #[.int .i64 0, .int .i64 0] 40)) ((Below.refl _ _).alloc (Nat.le_refl _) _))
              have HB8 : Hid (Below w.heap.size w (w7.alloc (.cells #[.int .i64 0, .int .i64 0] 40))) := (HB.out.trans bl.bel).alloc ((HB.out.trans bl.bel).size) _
              have hev := HF8.out.events (by rw [HES.out]; simp)
              rw [HES.out] at hev
              have HEV := Lib.hid hev
              clear bl HTR HTT HB hev
              go_wp2_with fail
              generalize w7.alloc (.cells #[.int .i64 0, .int .i64 0] 40) = w8 at *
              refine HEV.out.mono ?_
              rintro e w9 ⟨v9, rfl, ho9, b9⟩
              obtain ⟨va, vc, rfl⟩ := Ms.own_len ho9
              have HF9 := Lib.hid (HF8.out.below b9)
              have HB9 : Hid (Below w.heap.size w w9) := HB8.out.trans (b9.mono HB8.out.size)
              have HSC : Hid (Calls Tryz.prog 18 #[fptr M] w9 fun e w' => e = .returned (.int .i64 9) ∧ BL w9 w' w.heap.size F2 M S L (60 + u + 1 + 1) b5) := by
                have := HF9.out.succ HE7.out.2 (by omega)
                rw [HE7.out.1] at this
                exact this
              clear ho9 b9 HEV HF8 HB8 HF9
              go_wp2_with fail
              refine HSC.out.mono ?_
              rintro e w12 ⟨rfl, bl⟩
              have HB12 : Hid (Below w.heap.size w w12) := HB9.out.trans bl.bel
              have HAW := Lib.hid (awake_any _ bl.bf.rnd bl.bf.pos)
              clear bl HSC HB9
              go_wp2_with fail
              refine HAW.out.mono ?_
              rintro e w15 ⟨rfl, bb⟩
              have HBF : Hid (Below w.heap.size w w15) := HB12.out.trans (bb.mono HB12.out.size)
              clear bb HAW HB12
              go_wp2_with fail
              go_ret
              exact ⟨rfl, HBW.out.trans (HBF.out.mono HBW.out.size)⟩
end Go.Proofs.YtdinbpdpalgohaaGreatDoor
namespace Go.Proofs.YtdinbpdpalgohaaGreatDoor.bootStartsFirstPermittedDone
open Go.ChangeShapes Go.WideShapes Go.ChangeAt Go.RowKit Go.Deep
open Go.ChangeMaps (open_string shut_string)

set_option maxRecDepth 100000 in
theorem contract (H : Type) (enc : TypeId × Value → H) (W : World) (base : Nat) (args : Array Value) (ds gs : List (DataW H)) (before : List MemPlace)
    (hval0 : ∀ (j : Nat) t v, Tryz.f5.params[j]? = some t → args[j]? = some v → Value.okWide Tryz.prog W .any base t v)
    (hW : DataW.Whole enc Tryz.prog Tryz.f5.params.toList Rows.bootStartsFirstPermittedSpec.vars false W args.toList ds gs before) (hL : laidMetH Tryz.prog Rows.bootStartsFirstPermittedRow.laid W) :
    Calls Tryz.prog 5 args W fun e W' => ∃ v, e = .returned v ∧ Rows.bootStartsFirstPermittedSpec.post enc Tryz.prog Tryz.f5 false true false false W args v W' := by
  have hR : Ms.Rnd W := rnd_of hL
  have h00 : 0 < W.heap.size := rnd_pos hR
  have hval := hval0
  have hW' := hW
  obtain ⟨p, q, hA0, hV, rfl, hfz, hnd⟩ := hW
  have hA : DataW.TrodAll enc Tryz.prog W 0 (fun _ => true) true Tryz.f5.params.toList args.toList ds p := hA0
  rw [Tryz.params5] at hA hval
  obtain ⟨v0, vs0, d0, ds0, p0, q0, hargs, rfl, rfl, h0, r0⟩ := trodAll_cons hA
  obtain ⟨v1, vs1, d1, ds1, p1, q1, rfl, rfl, rfl, h1, r1⟩ := trodAll_cons r0
  obtain ⟨rfl, rfl, rfl⟩ := trodAll_nil r1
  obtain rfl : args = #[v0, v1] := by cases args; simp_all
  obtain ⟨rfl, rfl⟩ := trodVars_none hV
  obtain ⟨a0, len0, cap0, rfl⟩ := okWide_slice Tryz.underlying52 (hval 0 52 v0 rfl rfl)
  have k0 := h0
  have lt0 : ∀ x ∈ p0, x.block < W.heap.size := by obtain ⟨m, hm⟩ := k0; exact DataW.trod_lt m _ _ _ hm
  obtain ⟨f0, s0⟩ : ∃ f, CallS W a0 len0 cap0 f := by
    obtain ⟨fuel, hf⟩ := h0
    obtain ⟨A, l, c, f, hcs, hs⟩ := open_calls hf
    simp [Value.cells] at hcs
    obtain ⟨rfl, rfl, rfl⟩ := hcs
    exact ⟨f, hs⟩
  obtain ⟨cs1, rfl, hsz1⟩ := okWide_struct Tryz.underlying54 (hval 1 54 v1 rfl rfl)
  have k1 := h1
  have lt1 : ∀ x ∈ p1, x.block < W.heap.size := by obtain ⟨m, hm⟩ := k1; exact DataW.trod_lt m _ _ _ hm
  obtain ⟨f1, s1, hx1⟩ : ∃ c : BC, RdJ W c.ol c.od ∧ cs1 = #[.int .i64 c.kd, .int .i64 c.id, .int .i64 c.im, .int .i64 c.tr, c.ol, .bool c.ina, .bool c.raw] := by
    obtain ⟨fuel, hf⟩ := h1
    obtain ⟨c, hr, e⟩ := open_call hf
    exact ⟨c, hr, by cases cs1; simp [Value.cells, cB] at e; subst e; rfl⟩
  subst hx1
  clear hA0 hval0
  refine (first_any a0 len0 cap0 f0 f1 W s0 s1 hR h00).mono fun e W' ⟨he, bel⟩ => ?_
  subst he
  exact ⟨_, rfl, _, _, _, [], _, [], hW', trodAll_mk1 (shut_bool Tryz.underlying4 _), (trodAll_cons_mk (Below.trod laidOut (by kernel_rfl) (of_decide_eq_true (by kernel_rfl)) k0 bel lt0) (trodAll_cons_mk (Below.trod laidOut (by kernel_rfl) (of_decide_eq_true (by kernel_rfl)) k1 bel lt1) trodAll_mk0)), rfl, bel.frame _, fun h => by cases h⟩

theorem laid_met (os : Os) : laidMet Tryz.prog Rows.bootStartsFirstPermittedRow.laid ((laidWorld os).forCall (fun _ _ => 0) ⟨#[], #[.slice none 0 0, .agg #[.int .i64 0, .int .i64 0, .int .i64 0, .int .i64 0, .slice none 0 0, .bool false, .bool false]], []⟩).memory :=
  laidMet_of_run' 8 (by kernel_rfl) (by kernel_rfl)
theorem reads (os : Os) {H : Type} (enc : TypeId × Value → H) : ∃ places, DataW.whole enc Tryz.prog ((laidWorld os).forCall (fun _ _ => 0) ⟨#[], #[.slice none 0 0, .agg #[.int .i64 0, .int .i64 0, .int .i64 0, .int .i64 0, .slice none 0 0, .bool false, .bool false]], []⟩).memory Tryz.f5.params.toList Rows.bootStartsFirstPermittedSpec.vars false (#[.slice none 0 0, .agg #[.int .i64 0, .int .i64 0, .int .i64 0, .int .i64 0, .slice none 0 0, .bool false, .bool false]] : Array Value).toList 8 = some ([.nil, .agg [.lit (.int .i64 0), .lit (.int .i64 0), .lit (.int .i64 0), .lit (.int .i64 0), .nil, .lit (.bool false), .lit (.bool false)]], [], places) :=
  ⟨[], by kernel_rfl⟩

set_option maxRecDepth 100000 in
theorem lifted (os : Os) (started : os.Started) (H : Type) (enc : TypeId × Value → H) (F : Stop.Interp) :
    ReturnsInHanded {} Tryz.checked os 5 .any ((OpenSpec.ofChange Rows.bootStartsFirstPermittedSpec).preRow enc Tryz.prog Tryz.f5 Rows.bootStartsFirstPermittedRow.domain false Rows.bootStartsFirstPermittedRow.laid) (((OpenSpec.ofChange Rows.bootStartsFirstPermittedSpec).at F).post enc Tryz.prog Tryz.f5 false true false false) := by
  obtain ⟨places, hx⟩ := reads os enc
  refine returnsInHanded_of_row (C := Tryz.checked) (s := OpenSpec.ofChange Rows.bootStartsFirstPermittedSpec) own started (by kernel_rfl) Tryz.func5
    (witness_row_at (enc := enc) (C := Tryz.checked) false (laidWorld os) #[.slice none 0 0, .agg #[.int .i64 0, .int .i64 0, .int .i64 0, .int .i64 0, .slice none 0 0, .bool false, .bool false]] rfl (by kernel_rfl) (by kernel_rfl) (by kernel_rfl)
      (OpenSpec.preRow_of_cond 8 hx (by kernel_rfl) (fun k hk => by cases hk) (by kernel_rfl) (laid_met os))) ?_
  intro W base args ds gs before hval hW _ _ _ hL _ _
  exact contract H enc W base args ds gs before hval hW hL

theorem said : Rows.BootStartsFirstPermittedSaid :=
  OpenClaim.holds_of_cond 5 Tryz.f5 rfl rfl rfl rfl rfl rfl rfl ⟨rfl, rfl, rfl, rfl, rfl⟩ rfl rfl rfl rfl rfl (by kernel_rfl) Tryz.func5 (by kernel_rfl)
    (of_decide_eq_true (by kernel_rfl)) (by unfold Func.isWrapper; first | (rw [if_pos (by decide +kernel)]; kernel_rfl) | (rw [if_neg (by decide +kernel)]; exact ⟨rfl, rfl⟩))
    (fun os started H enc _ F => by rw [OpenClaim.pre_eq_preRow]; exact lifted os started H enc F)

theorem plain (f : FuncId) (fn : Func) (hf : Tryz.pinned.checked.prog.funcNamed "platformfw/platformfwlaw43.BootStartsFirstPermitted" = some f) (hfn : Tryz.pinned.checked.prog.funcs[f]? = some fn) :
    true = Tryz.pinned.checked.prog.looks [] ∧ ∀ (j : Nat) t, fn.params[j]? = some t → Tryz.pinned.checked.prog.wantsStandIn t = false := by
  obtain rfl : f = 5 := Option.some.inj ((show Tryz.prog.funcNamed "platformfw/platformfwlaw43.BootStartsFirstPermitted" = some 5 by kernel_rfl).symm.trans hf) |>.symm
  obtain rfl : fn = Tryz.f5 := (Option.some.inj (Tryz.func5.symm.trans hfn)).symm
  refine ⟨by kernel_rfl, fun j t ht => ?_⟩
  rw [Tryz.params5] at ht
  have hall : (Tryz.f5.params.all fun t => !Tryz.prog.wantsStandIn t) = true := by kernel_rfl
  rw [Tryz.params5] at hall
  have := Array.all_eq_true_iff_forall_mem.1 hall t (Array.mem_of_getElem? ht)
  show Tryz.prog.wantsStandIn t = false
  simpa using this

theorem proved : Rows.BootStartsFirstPermittedCardSaid :=
  Claim7.holds_tied_plain_at .later [] _ _ _ _ said (fun _ h => by cases h) (by kernel_rfl) (fun _ h => by cases h) bootStartsFirstPermitted_row_tie rfl ⟨rfl, rfl⟩ (by kernel_rfl) rfl plain (by kernel_rfl)
#print axioms proved
end Go.Proofs.YtdinbpdpalgohaaGreatDoor.bootStartsFirstPermittedDone
