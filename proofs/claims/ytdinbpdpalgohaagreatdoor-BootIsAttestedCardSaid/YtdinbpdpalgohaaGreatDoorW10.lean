/- BootIsAttested walked, and its card. Conditions: those that each theorem names. -/
import Derived.Test.YtdinbpdpalgohaaGreatDoorY19
import Derived.Test.YtdinbpdpalgohaaGreatDoorY22
import Derived.Test.YtdinbpdpalgohaaGreatDoorY20
import Derived.Test.YtdinbpdpalgohaaGreatDoorY18
namespace Go.Proofs.YtdinbpdpalgohaaGreatDoor
open Go.RowKit
/-- A boot: nothing is started yet, or one image is, and no candidate is left. -/
structure AI (k : Nat) (b : BM) : Prop where
  cal : Cal 1000 k b.fl b.st
  es : b.es = [] ∨ (b.cand = [] ∧ ∃ s, b.es = [⟨4, Ms.sumD s, bootT⟩])
  cand : ∀ x ∈ b.cand, isId x = true
  log : b.log.length ≤ k
section
variable {k : Nat} {b : BM} {L : List ByteArray}
theorem ai_begin (h : SI k b) (hk : k < 1000) : ∃ b1, beginB b = (0, b1) ∧ AI (k + 1) b1 ∧ b1.es = [] := by
  obtain ⟨b1, e1, c1, v1, d1, l1, t1, s1⟩ := beginB_cal h.cal hk
  have he : b1.es = [] := s1.trans h.es
  exact ⟨b1, e1, ⟨c1, .inl he, by rw [d1]; exact cndV_id, by rw [l1]; exact Nat.zero_le _⟩, he⟩
theorem ai_try (h : AI k b) (hk : k < 1000) : tryB b L = ((0, 0), 6, b) ∨ ∃ x : Nat, (∃ c b', c ≠ 0 ∧ tryB b L = (((x : Int), c), 0, b') ∧ AI (k + 1) b' ∧ b'.es = b.es) ∨ (∃ b', x < L.length ∧ b.es = [] ∧ tryB b L = (((x : Int), 0), 0, b') ∧ AI (k + 1) b' ∧ b'.es = [⟨4, Ms.sumD (L.getD x ⟨#[]⟩).data.toList, bootT⟩]) := by
  rcases hc : b.cand with _ | ⟨x, r⟩
  · exact .inl (tryB_none hc)
  · right
    have he : b.es = [] := by
      rcases h.es with e | ⟨e, _⟩
      · exact e
      · rw [hc] at e; cases e
    have hx := isId_iff.1 (h.cand x (by rw [hc]; exact List.mem_cons_self ..))
    have hids : ∀ y ∈ r, isId y = true := fun y hy => h.cand y (by rw [hc]; exact List.mem_cons_of_mem _ hy)
    obtain ⟨y, rfl⟩ : ∃ y : Nat, x = (y : Int) := ⟨x.toNat, by omega⟩
    refine ⟨y, ?_⟩
    by_cases h0 : exC b.st.V y L = 0
    · right
      obtain ⟨e, hO, hyl, _⟩ := exC_zero h0
      obtain ⟨b', e1, c1, v1, d1, l1, t1, s1⟩ := tryB_start h.cal hk (by omega) hc hO h0
      rw [he] at s1
      refine ⟨b', hyl, he, e1, ⟨c1, .inr ⟨d1, _, s1⟩, by rw [d1]; exact (fun x hx => (by cases hx)), ?_⟩, s1⟩
      rw [l1, List.length_append]
      have := h.log
      simp
      omega
    · left
      refine ⟨_, _, h0, tryB_skip hc rfl h0, ⟨h.cal.mono (Nat.le_succ _), .inl he, hids, ?_⟩, rfl⟩
      show (b.log ++ [_]).length ≤ _
      rw [List.length_append]
      have := h.log
      simp
      omega
theorem AI.small (h : AI k b) : b.es.length ≤ 1 := by
  rcases h.es with e | ⟨_, s, e⟩ <;> rw [e] <;> simp
theorem AI.byt (h : AI k b) : ∀ e ∈ b.es, Ms.Byt e.d := by
  rcases h.es with e | ⟨_, s, e⟩
  · rw [e]; exact fun x hx => (by cases hx)
  · rw [e]
    intro x hx
    rw [List.mem_singleton.1 hx]
    exact Ms.sumD_byt _
theorem AI.oks (h : AI k b) : b.es.all Ms.okE = true := by
  rcases h.es with e | ⟨_, s, e⟩ <;> rw [e] <;> rfl
end
/-- Register 4 behind one event. -/
theorem reg4_one (D : Nat → Int) (t : ByteArray) : Ms.regs [⟨4, D, t⟩] 4 = Ms.sumD (Ms.dl (fun _ => 0) ++ Ms.dl D) := rfl
theorem vq_own (key : ByteArray) (es : List Ms.Ev) (nonce : ByteArray) (h : es.all Ms.okE = true) : Ms.vq key es nonce (Ms.quoD key (Ms.rgl (Ms.regs es)) nonce) = true := by
  unfold Ms.vq
  rw [h, Bool.true_and, beq_self_eq_true]
end Go.Proofs.YtdinbpdpalgohaaGreatDoor
namespace Go.Proofs.YtdinbpdpalgohaaGreatDoor
open Go.RowKit
attribute [local go_sem ↓] Ms.build26 Ms.alloc26 Ms.load26n Ms.store26n
attribute [local go_sem] Ms.set_new Ms.stN_b8 cs32 Ms.stN_b8c Ms.set_newc
set_option maxRecDepth 100000 in
set_option maxHeartbeats 4000000 in
theorem attested_any (a : Option Addr) (len cap : Nat) (l : List BC) (cc : BC) (key nonce : ByteArray) (w00 : World) (hl0 : CallS w00 a len cap l) (_hrd0 : RdJ w00 cc.ol cc.od) (hr0 : Ms.Rnd w00) (h00 : 0 < w00.heap.size) : Calls Tryz.prog 10 #[.slice a len cap, .agg #[.int .i64 cc.kd, .int .i64 cc.id, .int .i64 cc.im, .int .i64 cc.tr, cc.ol, .bool cc.ina, .bool cc.raw], .string key, .string nonce] w00 fun e w' => e = .returned (.bool true) ∧ Below w00.heap.size w00 w' := by
  have hX := CX.made w00 cc
  have hB00 : Below w00.heap.size w00 (w00.alloc (.cells #[.int .i64 cc.kd, .int .i64 cc.id, .int .i64 cc.im, .int .i64 cc.tr, cc.ol, .bool cc.ina, .bool cc.raw] 54)) := (Below.refl _ _).alloc (Nat.le_refl _) _
  have hl := hl0.below hB00 (Nat.le_refl _)
  have hr : Ms.Rnd (w00.alloc (.cells #[.int .i64 cc.kd, .int .i64 cc.id, .int .i64 cc.im, .int .i64 cc.tr, cc.ol, .bool cc.ina, .bool cc.raw] 54)) := hr0.below hB00 h00
  have h0 : 0 < (w00.alloc (.cells #[.int .i64 cc.kd, .int .i64 cc.id, .int .i64 cc.im, .int .i64 cc.tr, cc.ol, .bool cc.ina, .bool cc.raw] 54)).heap.size := Nat.lt_of_lt_of_le h00 hB00.size
  clear hl0 hr0
  have HBW := Lib.hid hB00
  have HXC := Lib.hid hX
  clear hB00 hX
  go_enter Tryz.func10, Tryz.ntmps10
  go_upto_region 1 with fail
  generalize w00.alloc (.cells #[.int .i64 cc.kd, .int .i64 cc.id, .int .i64 cc.im, .int .i64 cc.tr, cc.ol, .bool cc.ina, .bool cc.raw] 54) = w at *
  obtain ⟨T, hT⟩ : ∃ T, w00.heap.size = T := ⟨_, rfl⟩
  have HT := Lib.hid hT
  rw [hT] at HXC ⊢
  clear hT h00
  have HA := Lib.hid hl
  have HAW := Lib.hid (awake_any w hr h0)
  have HLG := Lib.hid (large_any a len cap l w hl)
  have HBD := Lib.hid (board_any 1000 (by omega) w hr h0)
  have hcap : len ≤ cap := hl.2.1
  have hcapM := hl.2.2.1
  unfold maxLen at hcapM
  obtain ⟨q, hq⟩ : ∃ q, lrg l = q := ⟨_, rfl⟩
  rw [hq] at HLG
  have HQ := Lib.hid hq
  clear hl hq hr
  go_wp2_with fail
  refine HLG.out.mono ?_
  rintro e w' ⟨rfl, rfl⟩
  clear HLG
  cases q
  case true =>
    clear HBD
    go_wp2_with fail
    refine HAW.out.mono ?_
    rintro e w' ⟨rfl, b1⟩
    have HB1 : Hid (Below w00.heap.size w00 w') := HBW.out.trans (b1.mono HBW.out.size)
    go_wp2_with fail
    go_ret
    exact ⟨rfl, HB1.out⟩
  case false =>
    by_cases hk80 : 80 < key.size
    · have hkI : (key.size : Int) > 80 := by omega
      clear HBD
      go_wp2_with fail
      refine HAW.out.mono ?_
      rintro e w' ⟨rfl, b1⟩
      have HB1 : Hid (Below w00.heap.size w00 w') := HBW.out.trans (b1.mono HBW.out.size)
      go_wp2_with fail
      go_ret
      exact ⟨rfl, HB1.out⟩
    have hkI : ¬ (key.size : Int) > 80 := by omega
    by_cases hn80 : 80 < nonce.size
    · have hnI : (nonce.size : Int) > 80 := by omega
      clear HBD
      go_wp2_with fail
      refine HAW.out.mono ?_
      rintro e w' ⟨rfl, b1⟩
      have HB1 : Hid (Below w00.heap.size w00 w') := HBW.out.trans (b1.mono HBW.out.size)
      go_wp2_with fail
      go_ret
      exact ⟨rfl, HB1.out⟩
    have hnI : ¬ (nonce.size : Int) > 80 := by omega
    have hnb := not_big (l := l) (fun q => by have := (lrg_iff l).2 q; rw [HQ.out] at this; cases this)
    have HOD := Lib.hid hnb.1
    have hle : len ≤ 25 := by have h1 := hnb.2; have h2 := HA.out.1; omega
    clear hnb HAW HQ
    go_wp2_with fail
    refine HBD.out.mono ?_
    rintro e w1 ⟨X, L, M, S, O, fl, rfl, hbw, hcal, b1⟩
    have HB1 := Lib.hid b1
    have HF1 := Lib.hid (BF.of O hbw)
    have HS1 : Hid (SI 0 (⟨fl, st0, [], [], -1, []⟩ : BM)) := ⟨hcal, rfl, rfl, rfl⟩
    clear hbw hcal b1 HBD
    go_wp2_with fail
    go_loopw [13] (fun z wr => ∃ (i : Nat) (b : BM), i ≤ len ∧ z = .int .i64 (i : Int) ∧ Hid (SI i b) ∧ Hid (BF wr w.heap.size (fun _ => False) M S L (32 + i) b) ∧ Hid (Below w.heap.size w wr)) (fun z _ => len - (intOf z).toNat)
    case atStart => exact ⟨0, _, by omega, rfl, HS1, HF1, HB1⟩
    case round =>
      clear HS1 HF1 HB1
      obtain ⟨i, b, hi, rfl, HS, HF, HB⟩ := hrel
      by_cases hlt : i < len
      · have y0 : (i : Int) < len := by omega
        obtain ⟨bb, o, c, rfl, hc, hrd, hx⟩ := HA.out.at hlt
        have hX := hx.below HB.out hx.lt
        have hco : c.od.length ≤ 20 := HOD.out c (List.mem_of_getElem? hc)
        have HMD : Hid (∀ W, Calls Tryz.prog 11 #[.int .i64 c.kd, .int .i64 12] W fun e w' => e = .returned (.int .i64 ((mo c.kd 12 : Nat) : Int)) ∧ W = w') := fun W => mod_any c.kd 12 W (by omega) (by omega)
        have hDO := do_any HF.out HS.out.cal.blk (by omega) (by rw [HS.out.cand]; exact fun x hx => (by cases hx)) (by rw [HS.out.es]; decide) (by rw [HS.out.log]; decide) c (hrd.below HB.out (Nat.le_refl _)) hco
        have hS2 : mo c.kd 12 < 5 → SI (i + 1) (doB b c).2.2 := fun h => do_si HS.out (by omega) h c
        unfold cBa at hDO
        generalize doB b c = r at *
        have HDO := Lib.hid hDO
        have HS2 := Lib.hid hS2
        generalize mo c.kd 12 = m at *
        obtain ⟨c0, c1, c2, c3, c4, c5, c6, clt⟩ := hX
        clear hDO hS2 hx hrd hc hco
        by_cases h5 : m < 5
        · have h5I : (m : Int) < 5 := by omega
          go_wp2_with fail
          refine (HMD.out _).mono ?_
          rintro e w' ⟨rfl, rfl⟩
          go_wp2_with fail
          refine HDO.out.mono ?_
          rintro e w2 ⟨rfl, bl⟩
          have HF2 := Lib.hid bl.bf
          have HB2 : Hid (Below w.heap.size w w2) := HB.out.trans bl.bel
          have HS3 := Lib.hid (HS2.out h5)
          clear bl HDO HF HB HS HS2 c0 c1 c2 c3 c4 c5 c6 clt
          go_wp2_with fail
          go_roundw
          case rel => exact ⟨i + 1, r.2.2, by omega, by go_num, HS3, HF2, HB2⟩
          case measure => simp [intOf]; omega
        · have h5I : ¬ (m : Int) < 5 := by omega
          have HS3 := Lib.hid (HS.out.mono (Nat.le_succ i))
          have HF3 := Lib.hid (HF.out.mono (n' := 32 + (i + 1)) (by omega))
          clear HDO HS2 HS HF
          go_wp2_with fail
          refine (HMD.out _).mono ?_
          rintro e w' ⟨rfl, rfl⟩
          go_wp2_with fail
          go_roundw
          case rel => exact ⟨i + 1, b, by omega, by go_num, HS3, HF3, HB⟩
          case measure => simp [intOf]; omega
      · have y0 : ¬ (i : Int) < len := by omega
        obtain ⟨b1, e1, ai1, es1⟩ := ai_begin HS.out (by omega)
        have hi25 : i ≤ 25 := by omega
        have HAI := Lib.hid ai1
        have HES := Lib.hid es1
        have HBG : Hid (Calls Tryz.prog 16 #[fptr M] wr fun e w' => e = .returned (.int .i64 0) ∧ BL wr w' w.heap.size (fun _ => False) M S L 58 b1) := by
          have := (HF.out.mono (n' := 57) (by omega)).begin HS.out.cal.blk (by omega)
          rw [e1] at this
          exact this
        clear e1 ai1 es1 HA HOD HF HS
        go_wp2_with fail
        refine HBG.out.mono ?_
        rintro e w3 ⟨rfl, bl⟩
        have HF3 := Lib.hid bl.bf
        have HB3 : Hid (Below w.heap.size w w3) := HB.out.trans bl.bel
        have hX3 := HXC.out.below HB3.out HXC.out.lt
        have HIS : Hid (Calls Tryz.prog 26 #[cBa cc] w3 fun e w' => ∃ g, e = .returned (.slice (some ⟨g, 0, none⟩) (mo cc.tr 3 + 3) 5) ∧ w3.heap.size ≤ g ∧ RdT w' (.slice (some ⟨g, 0, none⟩) (mo cc.tr 3 + 3) 5) (imgL cc) ∧ Below w3.heap.size w3 w') := images_any cc w3
        unfold cBa at HIS
        have HIZ := Lib.hid (imgL_size cc)
        have HIL := Lib.hid (imgL_len cc)
        have hm3 : mo cc.tr 3 < 3 := mo_lt cc.tr 3 (by omega)
        generalize imgL cc = im at *
        generalize mo cc.tr 3 + 3 = il at *
        obtain ⟨c0, c1, c2, c3, c4, c5, c6, clt⟩ := hX3
        clear bl HBG HB
        go_wp2_with fail
        refine HIS.out.mono ?_
        rintro e w4 ⟨g, rfl, hg, ht, b4⟩
        have hb5 : Below w4.heap.size w4 (w4.alloc (.cells (Ms.arr 32 (Ms.b8 Ms.zD)) 31)) := (Below.refl _ _).alloc (Nat.le_refl _) _
        obtain ⟨F1, hF1, hF2, hF3⟩ : ∃ F1 : Nat → Prop, BF (w4.alloc (.cells (Ms.arr 32 (Ms.b8 Ms.zD)) 31)) w.heap.size F1 M S L 58 b1 ∧ F1 g ∧ F1 w4.heap.size := ⟨_, (HF3.out.news b4).add hb5 (E := w4.heap.size) (Nat.le_refl _) (by simp), .inl (.inr ⟨hg, by obtain ⟨_, _, _, _, _, h3, _⟩ := ht; exact h3 g rfl⟩), .inr rfl⟩
        have HF4 := Lib.hid hF1
        have HG := Lib.hid (And.intro hF2 hF3)
        have HT4 := Lib.hid (ht.below hb5)
        have HB4 : Hid (Below w.heap.size w (w4.alloc (.cells (Ms.arr 32 (Ms.b8 Ms.zD)) 31))) := (HB3.out.trans (b4.mono HB3.out.size)).trans (hb5.mono (Nat.le_trans HB3.out.size b4.size))
        have HW4 : Hid (Row (w4.alloc (.cells (Ms.arr 32 (Ms.b8 Ms.zD)) 31)) w4.heap.size 31 32 (Ms.b8 (Ms.regs b1.es 4))) := by
          rw [HES.out]
          exact Row.ofList w4 31 _ _ 32 rfl
        have hWw : w.heap.size ≤ w4.heap.size := Nat.le_trans HB3.out.size b4.size
        have HGN : Hid (g ≠ w4.heap.size) := fun e => by
          obtain ⟨_, _, _, _, _, h3, _⟩ := ht
          have := h3 g rfl
          omega
        clear hF1 hF2 hF3 hg ht b4 hb5 HIS HF3 HB3 HES c0 c1 c2 c3 c4 c5 c6 clt
        have hkk : i + 1 ≤ 26 := by omega
        generalize i + 1 = k at *
        go_upto_region 16 with fail
        generalize w4.alloc (.cells (Ms.arr 32 (Ms.b8 Ms.zD)) 31) = w5 at *
        generalize w4.heap.size = W at *
        go_upto_block 2 with fail
        go_cut [] (fun wx => ∃ b, Hid (AI 100 b) ∧ Hid (BF wx w.heap.size F1 M S L 100 b) ∧ Hid (Row wx W 31 32 (Ms.b8 (Ms.regs b.es 4))) ∧ Hid (Below w.heap.size w wx))
        case first =>
          go_wp2_with fail
          have HRR : Hid (Ms.regs b1.es 4 = Ms.regs b1.es 4) := rfl
          go_loopw [73] (fun y wq => ∃ (j : Nat) (b : BM), j ≤ 17 ∧ y = .int .i64 (j : Int) ∧ Hid (AI (k + j) b) ∧ Hid (BF wq w.heap.size F1 M S L (58 + j) b) ∧ Hid (RdT wq (.slice (some ⟨g, 0, none⟩) il 5) im) ∧ Hid (Row wq W 31 32 (Ms.b8 (Ms.regs b.es 4))) ∧ Hid (Below w.heap.size w wq)) (fun y _ => 17 - (intOf y).toNat)
          case atStart => exact ⟨0, b1, by omega, rfl, HAI, HF4, HT4, HW4, HB4⟩
          case round =>
            clear HAI HF4 HT4 HW4 HB4 HRR
            obtain ⟨j, b, hj, rfl, HAI, HF, HTT, HW, HB⟩ := hrel
            by_cases hj17 : j < 17
            · have y1 : (j : Int) < 17 := by omega
              have hFG : ∀ g', (Value.slice (some ⟨g, 0, none⟩) il 5).ownBlock = some g' → F1 g' := fun g' hg' => by
                have e : g = g' := by simpa [Value.ownBlock] using hg'
                rw [← e]; exact HG.out.1
              have htr := HF.out.try (n := 58 + j) HAI.out.cal.blk (by omega) HAI.out.cand (by have := HAI.out.small; omega) (by have := HAI.out.log; omega) HTT.out hFG HIZ.out
              have HFG := Lib.hid hFG
              rcases ai_try (L := im) HAI.out (by omega) with e6 | ⟨x, ⟨c, b', hc, e6, ai', es'⟩ | ⟨b', hxl, hes, e6, ai', es'⟩⟩
              · rw [e6] at htr
                have HTR := Lib.hid htr
                clear htr e6 hFG
                go_wp2_with fail
                refine HTR.out.mono ?_
                rintro e w7 ⟨rfl, bl⟩
                have HF8 := Lib.hid ((bl.bf.below (w' := w7.alloc (.cells #[.int .i64 0, .int .i64 0] 40)) ((Below.refl _ _).alloc (Nat.le_refl _) _)).mono (n' := 100) (by omega))
                have HB8 : Hid (Below w.heap.size w (w7.alloc (.cells #[.int .i64 0, .int .i64 0] 40))) := (HB.out.trans bl.bel).alloc ((HB.out.trans bl.bel).size) _
                have HW8 : Hid (Row (w7.alloc (.cells #[.int .i64 0, .int .i64 0] 40)) W 31 32 (Ms.b8 (Ms.regs b.es 4))) := (HW.out.ch bl.ch (fun q => q HG.out.2)).alloc _
                have HA8 : Hid (AI 100 b) := ⟨HAI.out.cal.mono (by omega), HAI.out.es, HAI.out.cand, by have := HAI.out.log; omega⟩
                clear bl HTR HTT HB HF HW HAI
                go_wp2_with fail
                go_meet
                exact ⟨b, HA8, HF8, HW8, HB8⟩
              · rw [e6] at htr
                have HTR := Lib.hid htr
                have HA8 := Lib.hid ai'
                have HES := Lib.hid es'
                have hcb : (c == 0) = false := by simpa using hc
                clear htr e6 hFG ai' es' HAI hc
                go_wp2_with fail
                refine HTR.out.mono ?_
                rintro e w7 ⟨rfl, bl⟩
                obtain ⟨x0, x1⟩ := stepCells w7 (x : Int) c
                have HF8 := Lib.hid (bl.bf.below (w' := w7.alloc (.cells #[.int .i64 (x : Int), .int .i64 c] 40)) ((Below.refl _ _).alloc (Nat.le_refl _) _))
                have HB8 : Hid (Below w.heap.size w (w7.alloc (.cells #[.int .i64 (x : Int), .int .i64 c] 40))) := (HB.out.trans bl.bel).alloc ((HB.out.trans bl.bel).size) _
                have HT8 : Hid (RdT (w7.alloc (.cells #[.int .i64 (x : Int), .int .i64 c] 40)) (.slice (some ⟨g, 0, none⟩) il 5) im) := (HTT.out.ch bl.ch (fun g' hg' q => q (HFG.out g' hg'))).below ((Below.refl _ _).alloc (Nat.le_refl _) _)
                have HW8 : Hid (Row (w7.alloc (.cells #[.int .i64 (x : Int), .int .i64 c] 40)) W 31 32 (Ms.b8 (Ms.regs b'.es 4))) := by
                  rw [HES.out]
                  exact (HW.out.ch bl.ch (fun q => q HG.out.2)).alloc _
                clear bl HTR HTT HB HF HW HES
                go_wp2_with fail
                generalize w7.alloc (.cells #[.int .i64 (x : Int), .int .i64 c] 40) = w8 at *
                clear x0 x1
                go_roundw
                case rel => exact ⟨j + 1, b', by omega, by go_num, HA8, HF8, HT8, HW8, HB8⟩
                case measure => simp [intOf]; omega
              · rw [e6] at htr
                have HTR := Lib.hid htr
                have HA8 := Lib.hid ai'
                have HES := Lib.hid (And.intro hes es')
                have hxil : x < il := by rw [← HIL.out]; exact hxl
                have hx1 : ¬ (x : Int) < 0 := by omega
                have hx2 : ¬ (x : Int) ≥ il := by omega
                have hx3 : (x : Int) < il := by omega
                obtain ⟨sx, hsx⟩ : ∃ s, im.getD x ⟨#[]⟩ = s := ⟨_, rfl⟩
                have hsz : sx.size ≤ 1073741824 := by
                  rw [← hsx, List.getD_eq_getElem?_getD, List.getElem?_eq_getElem hxl]
                  exact HIZ.out _ (List.getElem_mem hxl)
                have HSZ := Lib.hid hsz
                have HSX := Lib.hid hsx
                rw [hsx] at es'
                have HE2 := Lib.hid es'
                have HXL := Lib.hid hxl
                clear htr e6 hFG ai' es' HAI hes hsx hsz hxl
                go_wp2_with fail
                refine HTR.out.mono ?_
                rintro e w7 ⟨rfl, bl⟩
                obtain ⟨x0, x1⟩ := stepCells w7 (x : Int) 0
                have HF8 := Lib.hid (bl.bf.below (w' := w7.alloc (.cells #[.int .i64 (x : Int), .int .i64 0] 40)) ((Below.refl _ _).alloc (Nat.le_refl _) _))
                have HB8 : Hid (Below w.heap.size w (w7.alloc (.cells #[.int .i64 (x : Int), .int .i64 0] 40))) := (HB.out.trans bl.bel).alloc ((HB.out.trans bl.bel).size) _
                have HT8 : Hid (RdT (w7.alloc (.cells #[.int .i64 (x : Int), .int .i64 0] 40)) (.slice (some ⟨g, 0, none⟩) il 5) im) := (HTT.out.ch bl.ch (fun g' hg' q => q (HFG.out g' hg'))).below ((Below.refl _ _).alloc (Nat.le_refl _) _)
                have HW8 : Hid (Row (w7.alloc (.cells #[.int .i64 (x : Int), .int .i64 0] 40)) W 31 32 (Ms.b8 (Ms.regs b.es 4))) := (HW.out.ch bl.ch (fun q => q HG.out.2)).alloc _
                have hcs : (w7.alloc (.cells #[.int .i64 (x : Int), .int .i64 0] 40)).cell? ⟨g, x, none⟩ = some (.string sx) := by
                  obtain ⟨g9, o9, c9, e, _, _, _, hc9⟩ := HT8.out.cellAt HXL.out
                  injection e with e1
                  injection e1 with e1
                  injection e1 with e1 e2
                  subst e1
                  rw [← e2, Nat.zero_add] at hc9
                  rw [hc9, ← HSX.out, List.getD_eq_getElem?_getD, List.getElem?_eq_getElem HXL.out]
                  rfl
                have HSM := Lib.hid (sum_str sx _ HSZ.out HF8.out.rnd HF8.out.pos)
                clear bl HTR HTT HB HF HW
                go_wp2_with fail
                generalize w7.alloc (.cells #[.int .i64 (x : Int), .int .i64 0] 40) = w8 at *
                refine HSM.out.mono ?_
                rintro e w9 ⟨rfl, b9⟩
                have HDN := Lib.hid (Nat.ne_of_gt (Nat.lt_of_lt_of_le HW8.out.lt b9.size))
                have hb10 : Below w8.heap.size w8 (w9.alloc (.cells (Ms.arr 32 (Ms.b8 (dgF (sumS sx)))) 31)) := b9.alloc b9.size _
                have HF10 := Lib.hid (HF8.out.below hb10)
                have HB10 : Hid (Below w.heap.size w (w9.alloc (.cells (Ms.arr 32 (Ms.b8 (dgF (sumS sx)))) 31))) := HB8.out.trans (hb10.mono HB8.out.size)
                have HT10 := Lib.hid (HT8.out.below hb10)
                have HW10 := Lib.hid (HW8.out.below hb10 HW8.out.lt)
                have HD10 : Hid (Row (w9.alloc (.cells (Ms.arr 32 (Ms.b8 (dgF (sumS sx)))) 31)) w9.heap.size 31 32 (Ms.b8 (dgF (sumS sx)))) := dg_row w9 (sumS sx)
                clear b9 hb10 HSM HF8 HB8 HT8 HW8 x0 x1 hcs
                go_upto_region 24 with fail
                generalize w9.alloc (.cells (Ms.arr 32 (Ms.b8 (dgF (sumS sx)))) 31) = w10 at *
                generalize w9.heap.size = D at *
                have HDB : Hid (Ms.Byt (dgF (sumS sx))) := dgF_byt _
                have HF11 := Lib.hid (HF10.out.below ((Below.refl _ _).drew))
                have HB11 : Hid (Below w.heap.size w w10.drew) := HB10.out.drew
                have HT11 := Lib.hid (HT10.out.below ((Below.refl _ _).drew))
                have HW11 : Hid (Row w10.drew W 31 32 (Ms.b8 (Ms.regs b.es 4))) := HW10.out.drew
                have S1 : Hid (Row w10.drew D 31 32 (Ms.b8 (dgF (sumS sx)))) := HD10.out.drew
                obtain ⟨zs, hzs⟩ : ∃ q : ByteArray, (⟨(Ms.dl Ms.zD).toArray⟩ : ByteArray) = q := ⟨_, rfl⟩
                obtain ⟨ds, hds⟩ : ∃ q : ByteArray, (⟨(Ms.dl (dgF (sumS sx))).toArray⟩ : ByteArray) = q := ⟨_, rfl⟩
                have hzl : zs.size = 32 := by rw [← hzs]; rfl
                have hdl : ds.size = 32 := by rw [← hds]; show (Ms.dl _).toArray.size = 32; rw [List.size_toArray, Ms.dl_len]
                have HRG : Hid (Ms.sumD (zs ++ ds).data.toList = Ms.regs b'.es 4) := by
                  show _ = _
                  rw [HE2.out, reg4_one, ← hzs, ← hds, ByteArray.data_append, Array.toList_append]
                  show Ms.sumD (Ms.dl Ms.zD ++ Ms.dl (dgF (sumS sx))) = _
                  rw [dgF_dl (sumS_len _)]
                  rfl
                have HZS := Lib.hid hzs
                have HDS := Lib.hid hds
                clear HF10 HB10 HT10 HW10 HD10 hzs hds
                refine wp_region_pl (fun Y => Row Y D 31 32 (Ms.b8 (dgF (sumS sx)))) ((2, 0) :: (3, 0) :: (0, 1) :: (1, 1) :: (4, 0) :: (5, 1) :: (6, 1) :: []) (by kernel_rfl) (by kernel_rfl) ?_
                generalize w10.drew = w11 at *
                iterate 2 (apply wpP_go; (focus rfl); (focus rfl); (focus exact S1.out); (focus (rintro Y s0; have cv := Ms.rng_str (c := 32) HDB.out (Ms.Row.range0 s0); rw [HDS.out] at cv; go_simp; exact rfl)); intro K hK; go_simp; refine hK _ ?_; clear hK K)
                apply wpP_one
                focus rfl
                intro K hK
                have mk : (Instr.makeSlice 99 (.int .i64 32) (.int .i64 32)).run Tryz.prog w11 = .ok (.slice (some ⟨w11.heap.size, 0, none⟩) 32 32) (w11.alloc (.cells (Ms.arr 32 (Ms.b8 Ms.zD)) 5)) := by kernel_rfl
                go_simp
                have S2 : Hid (Row (w11.alloc (.cells (Ms.arr 32 (Ms.b8 Ms.zD)) 5)) D 31 32 (Ms.b8 (dgF (sumS sx)))) := S1.out.alloc _
                have z12 : Row (w11.alloc (.cells (Ms.arr 32 (Ms.b8 Ms.zD)) 5)) w11.heap.size 5 32 (Ms.b8 Ms.zD) := Row.ofList w11 5 _ _ 32 rfl
                have cv := Ms.rng_str (c := 32) (show Ms.Byt Ms.zD from Ms.regs_byt [] 0) (Ms.Row.range0 z12)
                rw [HZS.out] at cv
                have hb12 : Below w11.heap.size w11 (w11.alloc (.cells (Ms.arr 32 (Ms.b8 Ms.zD)) 5)) := (Below.refl _ _).alloc (Nat.le_refl _) _
                have HF12 := Lib.hid (HF11.out.below hb12)
                have HB12 : Hid (Below w.heap.size w (w11.alloc (.cells (Ms.arr 32 (Ms.b8 Ms.zD)) 5))) := HB11.out.trans (hb12.mono HB11.out.size)
                have HT12 := Lib.hid (HT11.out.below hb12)
                have HW12 : Hid (Row (w11.alloc (.cells (Ms.arr 32 (Ms.b8 Ms.zD)) 5)) W 31 32 (Ms.b8 (Ms.regs b.es 4))) := HW11.out.alloc _
                refine hK _ _ S2.out ?_
                clear hK K mk z12 hb12 S1 HF11 HB11 HT11 HW11
                generalize w11.heap.size = G at *
                generalize w11.alloc (.cells (Ms.arr 32 (Ms.b8 Ms.zD)) 5) = w12 at *
                apply wpP_one
                focus rfl
                intro K hK
                go_simp
                refine hK _ _ S2.out ?_
                clear hK K cv
                have hln : ¬ 9223372036854775807 < zs.size + ds.size := by omega
                apply wpP_go
                focus rfl
                focus rfl
                focus exact S2.out
                focus (rintro Y s0; go_simp; exact rfl)
                intro K hK
                go_simp
                refine hK _ ?_
                clear hK K
                have HSN : Hid (Calls Tryz.prog 14 #[.string (zs ++ ds)] w12 fun e w' => e = .returned (.agg (Ms.arr 32 (Ms.b8 (Ms.regs b'.es 4)))) ∧ Below w12.heap.size w12 w') := by
                  have := Ms.sum_any (zs ++ ds) w12 (by rw [ByteArray.size_append]; omega) HF12.out.rnd HF12.out.pos
                  rw [HRG.out] at this
                  exact this
                apply wpP_one
                focus rfl
                intro K hK
                go_simp
                refine HSN.out.mono ?_
                rintro e w13 ⟨rfl, b13⟩
                have S3 := Lib.hid (S2.out.below b13 S2.out.lt)
                have HF13 := Lib.hid (HF12.out.below b13)
                have HB13 : Hid (Below w.heap.size w w13) := HB12.out.trans (b13.mono HB12.out.size)
                have HT13 := Lib.hid (HT12.out.below b13)
                have HW13 := Lib.hid (HW12.out.below b13 HW12.out.lt)
                refine hK _ _ S3.out ?_
                clear hK K b13 HSN HF12 HB12 HT12 HW12 S2
                have hst : Ms.stN 32 w13 (.pointer (some ⟨W, 0, none⟩)) (.agg (Ms.arr 32 (Ms.b8 (Ms.regs b'.es 4)))) = some (W, 0, Ms.arr 32 (Ms.b8 (Ms.regs b'.es 4))) := Ms.stN_of (by simp [Ms.arr]) (Row.there HW13.out) (Ms.all_one _ _ (fun _ => rfl))
                have cW : Ch (fun k => k = W) w13 (w13.setCells W 0 (Ms.arr 32 (Ms.b8 (Ms.regs b'.es 4))).toList) := Ch.setAll (C := fun k => k = W) (fun _ => rfl) _ _ _ (Ch.refl _ _)
                have HF14 := Lib.hid (HF13.out.own cW (fun k hk _ => by subst hk; exact ⟨HG.out.2, by have := HF13.out.N_le; omega⟩))
                have hgw : ∀ g', (Value.slice (some ⟨g, 0, none⟩) il 5).ownBlock = some g' → ¬ g' = W := fun g' hg' q => by
                  have e : g = g' := by simpa [Value.ownBlock] using hg'
                  exact HGN.out (e.trans q)
                have HT14 := Lib.hid (HT13.out.ch cW hgw)
                have HW14 : Hid (Row (w13.setCells W 0 (Ms.arr 32 (Ms.b8 (Ms.regs b'.es 4))).toList) W 31 32 (Ms.b8 (Ms.regs b'.es 4))) := Ms.Row.setWhole HW13.out
                have HB14 : Hid (Below w.heap.size w (w13.setCells W 0 (Ms.arr 32 (Ms.b8 (Ms.regs b'.es 4))).toList)) := Ms.Below.setAll hWw _ _ _ HB13.out
                have S4 : Hid (Row (w13.setCells W 0 (Ms.arr 32 (Ms.b8 (Ms.regs b'.es 4))).toList) D 31 32 (Ms.b8 (dgF (sumS sx)))) := S3.out.ch cW (fun q => HDN.out q)
                clear cW hgw HF13 HT13 HW13 HB13 S3
                apply wpP_one
                focus rfl
                intro K hK
                go_simp
                refine hK _ _ S4.out ?_
                clear hK K hst
                generalize w13.setCells W 0 (Ms.arr 32 (Ms.b8 (Ms.regs b'.es 4))).toList = w14 at *
                refine wpP_done ?_
                go_wp2_with fail
                go_roundw
                case rel => exact ⟨j + 1, b', by omega, by go_num, HA8, HF14.out.mono (by omega), HT14, HW14, HB14⟩
                case measure => simp [intOf]; omega
            · have y1 : ¬ (j : Int) < 17 := by omega
              have HA8 : Hid (AI 100 b) := ⟨HAI.out.cal.mono (by omega), HAI.out.es, HAI.out.cand, by have := HAI.out.log; omega⟩
              have HF8 := Lib.hid (HF.out.mono (n' := 100) (by omega))
              go_wp2_with fail
              go_meet
              exact ⟨b, HA8, HF8, HW, HB⟩
        case rest =>
          clear HAI HF4 HT4 HW4 HB4
          obtain ⟨b, HAI, HF, HW, HB⟩ := hcut
          have HRE : Hid (Calls Tryz.prog 48 #[fptr L, .int .i64 4] wc fun e w' => e = .returned (.tuple #[.agg (Ms.arr 32 (Ms.b8 (Ms.regs b.es 4))), .int .i64 0]) ∧ Below wc.heap.size wc w') := by
            obtain ⟨O, q1, _⟩ := HF.out
            obtain ⟨v, hv⟩ := q1.log.lg
            exact Ms.register_yes L 4 _ v wc (by omega) hv
          go_wp2_with fail
          refine HRE.out.mono ?_
          rintro e w1 ⟨rfl, bb1⟩
          have hb2 : Below wc.heap.size wc (w1.alloc (.cells (Ms.arr 32 (Ms.b8 (Ms.regs b.es 4))) 31)) := bb1.alloc bb1.size _
          have HF2 := Lib.hid (HF.out.below hb2)
          have HB2 : Hid (Below w.heap.size w (w1.alloc (.cells (Ms.arr 32 (Ms.b8 (Ms.regs b.es 4))) 31))) := HB.out.trans (hb2.mono HB.out.size)
          have HW2 := Lib.hid (HW.out.below hb2 HW.out.lt)
          have HR2 : Hid (Row (w1.alloc (.cells (Ms.arr 32 (Ms.b8 (Ms.regs b.es 4))) 31)) w1.heap.size 31 32 (Ms.b8 (Ms.regs b.es 4))) := Row.ofList w1 31 _ _ 32 rfl
          have HEV := Lib.hid (HF2.out.events (by have := HAI.out.small; omega))
          clear bb1 hb2 HRE HF HB HW
          go_wp2_with fail
          generalize w1.alloc (.cells (Ms.arr 32 (Ms.b8 (Ms.regs b.es 4))) 31) = w2 at *
          generalize w1.heap.size = R at *
          refine HEV.out.mono ?_
          rintro e w3 ⟨v3, rfl, ho3, b3⟩
          have HF3 := Lib.hid (HF2.out.below b3)
          have HB3 : Hid (Below w.heap.size w w3) := HB2.out.trans (b3.mono HB2.out.size)
          have HW3 := Lib.hid (HW2.out.below b3 HW2.out.lt)
          have HR3 := Lib.hid (HR2.out.below b3 HR2.out.lt)
          have HRP := Lib.hid (Ms.replay_any v3 b.es w3 ho3.rd (by have := HAI.out.small; omega) HAI.out.byt HF3.out.rnd HF3.out.pos)
          clear ho3 b3 HEV HF2 HB2 HW2 HR2
          go_wp2_with fail
          refine HRP.out.mono ?_
          rintro e w4 hrep
          rcases hrep with ⟨_, g4, rfl, hg4, hG4, b4⟩ | ⟨hno, _, _⟩
          rotate_left
          · exact absurd (HAI.out.oks) (by rw [hno]; decide)
          have HF4 := Lib.hid (HF3.out.below b4)
          have HB4 : Hid (Below w.heap.size w w4) := HB3.out.trans (b4.mono HB3.out.size)
          have HW4 := Lib.hid (HW3.out.below b4 HW3.out.lt)
          have HR4 := Lib.hid (HR3.out.below b4 HR3.out.lt)
          obtain ⟨QD, hQD⟩ : ∃ q, Ms.quoD key (Ms.rgl (Ms.regs b.es)) nonce = q := ⟨_, rfl⟩
          have HVQ : Hid (Ms.vq key b.es nonce QD = true) := by
            show _ = _
            rw [← hQD]; exact vq_own key b.es nonce HAI.out.oks
          have HQB : Hid (Ms.Byt QD) := by
            show Ms.Byt QD
            rw [← hQD]; exact Ms.sumD_byt _
          have HQU : Hid (Calls Tryz.prog 50 #[.string key, .slice (some ⟨g4, 0, none⟩) 8 8, .string nonce] w4 fun e w' => e = .returned (.tuple #[.agg (Ms.arr 32 (Ms.b8 QD)), .int .i64 0]) ∧ Below w4.heap.size w4 w') := by
            rw [← hQD]
            exact Ms.quote_yes key nonce _ (Ms.rgl (Ms.regs b.es)) w4 hG4.rd (fun D hD => by obtain ⟨i, _, rfl⟩ := List.mem_map.1 hD; exact Ms.regs_byt _ _) (by simp [Ms.rgl]) (by omega) (by omega) HF4.out.rnd HF4.out.pos
          clear hg4 hG4 b4 hQD HRP HF3 HB3 HW3 HR3
          go_wp2_with fail
          refine HQU.out.mono ?_
          rintro e w6 ⟨rfl, b6⟩
          have hb7 : Below w4.heap.size w4 (w6.alloc (.cells (Ms.arr 32 (Ms.b8 QD)) 31)) := b6.alloc b6.size _
          have HF7 := Lib.hid (HF4.out.below hb7)
          have HB7 : Hid (Below w.heap.size w (w6.alloc (.cells (Ms.arr 32 (Ms.b8 QD)) 31))) := HB4.out.trans (hb7.mono HB4.out.size)
          have HW7 := Lib.hid (HW4.out.below hb7 HW4.out.lt)
          have HR7 := Lib.hid (HR4.out.below hb7 HR4.out.lt)
          have HQ7 : Hid (Row (w6.alloc (.cells (Ms.arr 32 (Ms.b8 QD)) 31)) w6.heap.size 31 32 (Ms.b8 QD)) := Row.ofList w6 31 _ _ 32 rfl
          clear b6 hb7 HQU HF4 HB4 HW4 HR4
          go_upto_region 29 with fail
          generalize w6.alloc (.cells (Ms.arr 32 (Ms.b8 QD)) 31) = w7 at *
          generalize w6.heap.size = Q at *
          have HF8 := Lib.hid (HF7.out.below ((Below.refl _ _).drew))
          have HB8 : Hid (Below w.heap.size w w7.drew) := HB7.out.drew
          have S1 : Hid (Row w7.drew R 31 32 (Ms.b8 (Ms.regs b.es 4)) ∧ Row w7.drew W 31 32 (Ms.b8 (Ms.regs b.es 4)) ∧ Row w7.drew Q 31 32 (Ms.b8 QD)) := ⟨HR7.out.drew, HW7.out.drew, HQ7.out.drew⟩
          have heq : ∀ Y, (binOp .eql 31 (.agg (Ms.arr 32 (Ms.b8 (Ms.regs b.es 4)))) (.agg (Ms.arr 32 (Ms.b8 (Ms.regs b.es 4))))).run Tryz.prog Y = .ok (.bool true) Y := fun Y => Ms.eqDD (Ms.regs_byt _ _) Y
          clear HF7 HB7 HW7 HR7 HQ7
          refine wp_region_pl (fun Y => Row Y R 31 32 (Ms.b8 (Ms.regs b.es 4)) ∧ Row Y W 31 32 (Ms.b8 (Ms.regs b.es 4)) ∧ Row Y Q 31 32 (Ms.b8 QD)) ((0, 0) :: (1, 0) :: (2, 0) :: (3, 0) :: (4, 0) :: (5, 0) :: (6, 0) :: (7, 0) :: (8, 0) :: (9, 0) :: (10, 0) :: (11, 0) :: (12, 0) :: (13, 0) :: (14, 0) :: (15, 0) :: (16, 0) :: (17, 0) :: (19, 0) :: (20, 0) :: (18, 1) :: (21, 1) :: (22, 0) :: (23, 0) :: (24, 1) :: (25, 0) :: (26, 0) :: []) (by kernel_rfl) (by kernel_rfl) ?_
          generalize w7.drew = w8 at *
          iterate 20 (apply wpP_go; (focus rfl); (focus rfl); (focus exact S1.out); (focus (rintro Y ⟨s0, s1, s2⟩; have d0 := ld26 s0; have d1 := ld26 s1; have d2 := ld26 s2; go_simp; exact rfl)); intro K hK; go_simp; refine hK _ ?_; clear hK K)
          have HEV := Lib.hid (HF8.out.events (by have := HAI.out.small; omega))
          apply wpP_one
          focus rfl
          intro K hK
          go_simp
          refine HEV.out.mono ?_
          rintro e w9 ⟨v9, rfl, ho9, b9⟩
          have HF9 := Lib.hid (HF8.out.below b9)
          have HB9 : Hid (Below w.heap.size w w9) := HB8.out.trans (b9.mono HB8.out.size)
          have S2 : Hid (Row w9 R 31 32 (Ms.b8 (Ms.regs b.es 4)) ∧ Row w9 W 31 32 (Ms.b8 (Ms.regs b.es 4)) ∧ Row w9 Q 31 32 (Ms.b8 QD)) := ⟨S1.out.1.below b9 S1.out.1.lt, S1.out.2.1.below b9 S1.out.2.1.lt, S1.out.2.2.below b9 S1.out.2.2.lt⟩
          have HVF : Hid (Calls Tryz.prog 51 #[.string key, v9, .string nonce, .agg (Ms.arr 32 (Ms.b8 QD))] w9 fun e w' => e = .returned (.bool true) ∧ Below w9.heap.size w9 w') := by
            have := Ms.verify_any key nonce v9 b.es QD w9 ho9.rd HAI.out.byt (by have := HAI.out.small; omega) HQB.out (by omega) (by omega) HF9.out.rnd HF9.out.pos
            rw [HVQ.out] at this
            exact this
          refine hK _ _ S2.out ?_
          clear hK K ho9 b9 HEV HF8 HB8 S1
          have S1 := S2
          clear S2
          apply wpP_one
          focus rfl
          intro K hK
          go_simp
          refine HVF.out.mono ?_
          rintro e w10 ⟨rfl, b10⟩
          have HF10 := Lib.hid (HF9.out.below b10)
          have HB10 : Hid (Below w.heap.size w w10) := HB9.out.trans (b10.mono HB9.out.size)
          have S2 : Hid (Row w10 R 31 32 (Ms.b8 (Ms.regs b.es 4)) ∧ Row w10 W 31 32 (Ms.b8 (Ms.regs b.es 4)) ∧ Row w10 Q 31 32 (Ms.b8 QD)) := ⟨S1.out.1.below b10 S1.out.1.lt, S1.out.2.1.below b10 S1.out.2.1.lt, S1.out.2.2.below b10 S1.out.2.2.lt⟩
          refine hK _ _ S2.out ?_
          clear hK K b10 HVF HF9 HB9 S1
          have S1 := S2
          clear S2
          iterate 2 (apply wpP_go; (focus rfl); (focus rfl); (focus exact S1.out); (focus (rintro Y ⟨s0, s1, s2⟩; have d0 := ld26 s0; have d1 := ld26 s1; have d2 := ld26 s2; go_simp; exact rfl)); intro K hK; go_simp; refine hK _ ?_; clear hK K)
          have HAW := Lib.hid (awake_any w10 HF10.out.rnd HF10.out.pos)
          apply wpP_one
          focus rfl
          intro K hK
          go_simp
          refine HAW.out.mono ?_
          rintro e w11 ⟨rfl, b11⟩
          have HB11 : Hid (Below w.heap.size w w11) := HB10.out.trans (b11.mono HB10.out.size)
          have S2 : Hid (Row w11 R 31 32 (Ms.b8 (Ms.regs b.es 4)) ∧ Row w11 W 31 32 (Ms.b8 (Ms.regs b.es 4)) ∧ Row w11 Q 31 32 (Ms.b8 QD)) := ⟨S1.out.1.below b11 S1.out.1.lt, S1.out.2.1.below b11 S1.out.2.1.lt, S1.out.2.2.below b11 S1.out.2.2.lt⟩
          refine hK _ _ S2.out ?_
          clear hK K b11 HAW HF10 HB10 S1
          have S1 := S2
          clear S2
          iterate 2 (apply wpP_go; (focus rfl); (focus rfl); (focus exact S1.out); (focus (rintro Y ⟨s0, s1, s2⟩; have d0 := ld26 s0; have d1 := ld26 s1; have d2 := ld26 s2; go_simp; exact rfl)); intro K hK; go_simp; refine hK _ ?_; clear hK K)
          refine wpP_done ?_
          clear S1 heq
          go_wp2_with fail
          go_ret
          exact ⟨rfl, HBW.out.trans (HB11.out.mono HBW.out.size)⟩
end Go.Proofs.YtdinbpdpalgohaaGreatDoor
namespace Go.Proofs.YtdinbpdpalgohaaGreatDoor.bootIsAttestedDone
open Go.ChangeShapes Go.WideShapes Go.ChangeAt Go.RowKit Go.Deep
open Go.ChangeMaps (open_string shut_string)

set_option maxRecDepth 100000 in
theorem contract (H : Type) (enc : TypeId × Value → H) (W : World) (base : Nat) (args : Array Value) (ds gs : List (DataW H)) (before : List MemPlace)
    (hval0 : ∀ (j : Nat) t v, Tryz.f10.params[j]? = some t → args[j]? = some v → Value.okWide Tryz.prog W .any base t v)
    (hW : DataW.Whole enc Tryz.prog Tryz.f10.params.toList Rows.bootIsAttestedSpec.vars false W args.toList ds gs before) (hL : laidMetH Tryz.prog Rows.bootIsAttestedRow.laid W) :
    Calls Tryz.prog 10 args W fun e W' => ∃ v, e = .returned v ∧ Rows.bootIsAttestedSpec.post enc Tryz.prog Tryz.f10 false true false false W args v W' := by
  have hR : Ms.Rnd W := rnd_of hL
  have h00 : 0 < W.heap.size := rnd_pos hR
  have hval := hval0
  have hW' := hW
  obtain ⟨p, q, hA0, hV, rfl, hfz, hnd⟩ := hW
  have hA : DataW.TrodAll enc Tryz.prog W 0 (fun _ => true) true Tryz.f10.params.toList args.toList ds p := hA0
  rw [Tryz.params10] at hA hval
  obtain ⟨v0, vs0, d0, ds0, p0, q0, hargs, rfl, rfl, h0, r0⟩ := trodAll_cons hA
  obtain ⟨v1, vs1, d1, ds1, p1, q1, rfl, rfl, rfl, h1, r1⟩ := trodAll_cons r0
  obtain ⟨v2, vs2, d2, ds2, p2, q2, rfl, rfl, rfl, h2, r2⟩ := trodAll_cons r1
  obtain ⟨v3, vs3, d3, ds3, p3, q3, rfl, rfl, rfl, h3, r3⟩ := trodAll_cons r2
  obtain ⟨rfl, rfl, rfl⟩ := trodAll_nil r3
  obtain rfl : args = #[v0, v1, v2, v3] := by cases args; simp_all
  obtain ⟨rfl, rfl⟩ := trodVars_none hV
  obtain ⟨a0, len0, cap0, rfl⟩ := okWide_slice Tryz.underlying52 (hval 0 52 v0 rfl rfl)
  have k0 := h0
  have lt0 : ∀ x ∈ p0, x.block < W.heap.size := by obtain ⟨m, hm⟩ := k0; exact DataW.trod_lt m _ _ _ hm
  obtain ⟨f0, s0⟩ : ∃ f, CallS W a0 len0 cap0 f := by
    obtain ⟨fuel, hf⟩ := h0
    obtain ⟨A, l, c, f, hcs, hs⟩ := open_calls hf
    simp [Value.cells] at hcs
    obtain ⟨rfl, rfl, rfl⟩ := hcs
    exact ⟨f, hs⟩
  obtain ⟨cs1, rfl, hsz1⟩ := okWide_struct Tryz.underlying54 (hval 1 54 v1 rfl rfl)
  have k1 := h1
  have lt1 : ∀ x ∈ p1, x.block < W.heap.size := by obtain ⟨m, hm⟩ := k1; exact DataW.trod_lt m _ _ _ hm
  obtain ⟨f1, s1, hx1⟩ : ∃ c : BC, RdJ W c.ol c.od ∧ cs1 = #[.int .i64 c.kd, .int .i64 c.id, .int .i64 c.im, .int .i64 c.tr, c.ol, .bool c.ina, .bool c.raw] := by
    obtain ⟨fuel, hf⟩ := h1
    obtain ⟨c, hr, e⟩ := open_call hf
    exact ⟨c, hr, by cases cs1; simp [Value.cells, cB] at e; subst e; rfl⟩
  subst hx1
  obtain ⟨a2, rfl, rfl, rfl, w2⟩ := open_string Tryz.underlying9 (hval 2 9 v2 rfl rfl) h2
  obtain ⟨a3, rfl, rfl, rfl, w3⟩ := open_string Tryz.underlying9 (hval 3 9 v3 rfl rfl) h3
  clear hA0 hval0
  refine (attested_any a0 len0 cap0 f0 f1 a2 a3 W s0 s1 hR h00).mono fun e W' ⟨he, bel⟩ => ?_
  subst he
  exact ⟨_, rfl, _, _, _, [], _, [], hW', trodAll_mk1 (shut_bool Tryz.underlying4 _), (trodAll_cons_mk (Below.trod laidOut (by kernel_rfl) (of_decide_eq_true (by kernel_rfl)) k0 bel lt0) (trodAll_cons_mk (Below.trod laidOut (by kernel_rfl) (of_decide_eq_true (by kernel_rfl)) k1 bel lt1) (trodAll_cons_mk (shut_string Tryz.underlying9 w2) (trodAll_cons_mk (shut_string Tryz.underlying9 w3) trodAll_mk0)))), rfl, bel.frame _, fun h => by cases h⟩

theorem laid_met (os : Os) : laidMet Tryz.prog Rows.bootIsAttestedRow.laid ((laidWorld os).forCall (fun _ _ => 0) ⟨#[], #[.slice none 0 0, .agg #[.int .i64 0, .int .i64 0, .int .i64 0, .int .i64 0, .slice none 0 0, .bool false, .bool false], .string ⟨#[]⟩, .string ⟨#[]⟩], []⟩).memory :=
  laidMet_of_run' 8 (by kernel_rfl) (by kernel_rfl)
theorem reads (os : Os) {H : Type} (enc : TypeId × Value → H) : ∃ places, DataW.whole enc Tryz.prog ((laidWorld os).forCall (fun _ _ => 0) ⟨#[], #[.slice none 0 0, .agg #[.int .i64 0, .int .i64 0, .int .i64 0, .int .i64 0, .slice none 0 0, .bool false, .bool false], .string ⟨#[]⟩, .string ⟨#[]⟩], []⟩).memory Tryz.f10.params.toList Rows.bootIsAttestedSpec.vars false (#[.slice none 0 0, .agg #[.int .i64 0, .int .i64 0, .int .i64 0, .int .i64 0, .slice none 0 0, .bool false, .bool false], .string ⟨#[]⟩, .string ⟨#[]⟩] : Array Value).toList 8 = some ([.nil, .agg [.lit (.int .i64 0), .lit (.int .i64 0), .lit (.int .i64 0), .lit (.int .i64 0), .nil, .lit (.bool false), .lit (.bool false)], .lit (.string []), .lit (.string [])], [], places) :=
  ⟨[], by kernel_rfl⟩

set_option maxRecDepth 100000 in
theorem lifted (os : Os) (started : os.Started) (H : Type) (enc : TypeId × Value → H) (F : Stop.Interp) :
    ReturnsInHanded {} Tryz.checked os 10 .any ((OpenSpec.ofChange Rows.bootIsAttestedSpec).preRow enc Tryz.prog Tryz.f10 Rows.bootIsAttestedRow.domain false Rows.bootIsAttestedRow.laid) (((OpenSpec.ofChange Rows.bootIsAttestedSpec).at F).post enc Tryz.prog Tryz.f10 false true false false) := by
  obtain ⟨places, hx⟩ := reads os enc
  refine returnsInHanded_of_row (C := Tryz.checked) (s := OpenSpec.ofChange Rows.bootIsAttestedSpec) own started (by kernel_rfl) Tryz.func10
    (witness_row_at (enc := enc) (C := Tryz.checked) false (laidWorld os) #[.slice none 0 0, .agg #[.int .i64 0, .int .i64 0, .int .i64 0, .int .i64 0, .slice none 0 0, .bool false, .bool false], .string ⟨#[]⟩, .string ⟨#[]⟩] rfl (by kernel_rfl) (by kernel_rfl) (by kernel_rfl)
      (OpenSpec.preRow_of_cond 8 hx (by kernel_rfl) (fun k hk => by cases hk) (by kernel_rfl) (laid_met os))) ?_
  intro W base args ds gs before hval hW _ _ _ hL _ _
  exact contract H enc W base args ds gs before hval hW hL

theorem said : Rows.BootIsAttestedSaid :=
  OpenClaim.holds_of_cond 10 Tryz.f10 rfl rfl rfl rfl rfl rfl rfl ⟨rfl, rfl, rfl, rfl, rfl⟩ rfl rfl rfl rfl rfl (by kernel_rfl) Tryz.func10 (by kernel_rfl)
    (of_decide_eq_true (by kernel_rfl)) (by unfold Func.isWrapper; first | (rw [if_pos (by decide +kernel)]; kernel_rfl) | (rw [if_neg (by decide +kernel)]; exact ⟨rfl, rfl⟩))
    (fun os started H enc _ F => by rw [OpenClaim.pre_eq_preRow]; exact lifted os started H enc F)

theorem plain (f : FuncId) (fn : Func) (hf : Tryz.pinned.checked.prog.funcNamed "platformfw/platformfwlaw43.BootIsAttested" = some f) (hfn : Tryz.pinned.checked.prog.funcs[f]? = some fn) :
    true = Tryz.pinned.checked.prog.looks [] ∧ ∀ (j : Nat) t, fn.params[j]? = some t → Tryz.pinned.checked.prog.wantsStandIn t = false := by
  obtain rfl : f = 10 := Option.some.inj ((show Tryz.prog.funcNamed "platformfw/platformfwlaw43.BootIsAttested" = some 10 by kernel_rfl).symm.trans hf) |>.symm
  obtain rfl : fn = Tryz.f10 := (Option.some.inj (Tryz.func10.symm.trans hfn)).symm
  refine ⟨by kernel_rfl, fun j t ht => ?_⟩
  rw [Tryz.params10] at ht
  have hall : (Tryz.f10.params.all fun t => !Tryz.prog.wantsStandIn t) = true := by kernel_rfl
  rw [Tryz.params10] at hall
  have := Array.all_eq_true_iff_forall_mem.1 hall t (Array.mem_of_getElem? ht)
  show Tryz.prog.wantsStandIn t = false
  simpa using this

theorem proved : Rows.BootIsAttestedCardSaid :=
  Claim7.holds_tied_plain_at .later [] _ _ _ _ said (fun _ h => by cases h) (by kernel_rfl) (fun _ h => by cases h) bootIsAttested_row_tie rfl ⟨rfl, rfl⟩ (by kernel_rfl) rfl plain (by kernel_rfl)
#print axioms proved
end Go.Proofs.YtdinbpdpalgohaaGreatDoor.bootIsAttestedDone
