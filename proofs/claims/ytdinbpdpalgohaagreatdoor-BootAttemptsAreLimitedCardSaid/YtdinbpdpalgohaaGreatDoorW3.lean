/- BootAttemptsAreLimited: for every input the call returns true and each argument reads afterwards as before. Conditions: those that each theorem names. -/
import Derived.Test.YtdinbpdpalgohaaGreatDoorY15
import Derived.Test.YtdinbpdpalgohaaGreatDoorY16
namespace Go.Proofs.YtdinbpdpalgohaaGreatDoor
open Go.RowKit
attribute [local go_sem ↓] alloc34 load34 store34 build34d build34o Ms.alloc26 Ms.load26n Ms.store26n
attribute [local go_sem] Ms.set_new Ms.stN_b8 bl4V ecl_list cs32
/-- The state of the law's rounds: entry 2 with u attempts of n. -/
structure AI (k u n : Nat) (D : Str) (b : BM) : Prop where
  cal : Cal 1000 k b.fl b.st
  e : entO b.st.V ((2 : Nat) : Int) = some ⟨2, D, true, n, u⟩
  o : ordV b.st.V = [2]
  nx : getV b.st.V nmN = none
  dn : denV b.st.V = []
  es : b.es.length ≤ k
def im2 : List ByteArray := [⟨#[]⟩, ⟨#[]⟩, kern]
section
variable {k u n : Nat} {D : Str} {b : BM}
theorem ai_init {fl : FL} (h : Cal 1000 0 fl st0) (hD : D.length = 32) (h1 : 1 ≤ n) (h2 : n ≤ 255) : ∃ b1 b2, (setEntryB ⟨fl, st0, [], [], -1, []⟩ 2 D true (n : Int) = (0, b1) ∧ b1.st.blk < b1.fl.B) ∧ setOrderB b1 [2] = (0, b2) ∧ AI 2 0 n D b2 := by
  have h0 : Cal 1000 0 (⟨fl, st0, [], [], -1, []⟩ : BM).fl (⟨fl, st0, [], [], -1, []⟩ : BM).st := h
  obtain ⟨b1, e1, c1, v1, k1⟩ := setEntryB_ok h0 (by omega) (j := 2) (by omega) hD true h1 h2
  have hok : okO [2] = true := by decide
  obtain ⟨b2, e2, c2, v2, k2⟩ := setOrderB_ok c1 (by omega) hok
  refine ⟨b1, b2, ⟨e1, c1.blk⟩, e2, c2, ?_, by rw [v2, ordV_put hok], ?_, ?_, by rw [k2.2.2.2, k1.2.2.2]; exact Nat.zero_le _⟩
  · rw [v2, entO_congrN (get_set_ne (ne_EO 2).symm), v1]
    exact entO_put (by omega) hD true h2 (by omega)
  · rw [v2, get_set_ne (fun e => ne_ON e.symm), v1, get_set_ne (ne_EN 2)]
    rfl
  · have : getV b2.st.V nmD = none := by
      rw [v2, get_set_ne (fun e => ne_OD e.symm), v1, get_set_ne (ne_ED 2)]
      rfl
    unfold denV; rw [this]
theorem ai_begin (h : AI k u n D b) (hk : k < 1000) : ∃ b', beginB b = (0, b') ∧ AI (k + 1) u n D b' ∧ b'.cand = [2] ∧ b'.log = [] := by
  obtain ⟨b', e, c, v, d, l, s, t⟩ := beginB_cal h.cal hk
  rw [h.nx, if_pos rfl] at v
  refine ⟨b', e, ⟨c, v ▸ h.e, v ▸ h.o, v ▸ h.nx, v ▸ h.dn, by rw [t]; have := h.es; omega⟩, ?_, l⟩
  rw [d]
  unfold cndV nxtV
  rw [h.nx, h.o]
  rfl
theorem ai_ex (h : AI k u n D b) (hD : sumS kern = D) : exC b.st.V 2 im2 = if n ≤ u then 14 else 0 := by
  have hk : im2.getD 2 ⟨#[]⟩ = kern := rfl
  rw [exC_some h.e, hk, hD, h.dn]
  have h1 : ¬ (im2.length ≤ 2 ∨ kern.size = 0) := by
    rintro (q | q)
    · simp [im2] at q
    · exact absurd q (by decide)
  rw [if_neg h1]
  simp
theorem ai_full (h : AI k u n D b) (hD : sumS kern = D) (hc : b.cand = [2]) (hu : n ≤ u) : ∃ b', tryB b im2 = ((2, 14), 0, b') ∧ AI (k + 1) u n D b' := by
  have hx := ai_ex h hD
  rw [if_pos hu] at hx
  exact ⟨_, tryB_skip hc hx (by decide), h.cal.mono (Nat.le_succ _), h.e, h.o, h.nx, h.dn, Nat.le_succ_of_le h.es⟩
theorem ai_try (h : AI k u n D b) (hk : k < 1000) (hD : sumS kern = D) (hc : b.cand = [2]) (hu : u < n) (hn : n ≤ 255) : ∃ b', tryB b im2 = ((2, 0), 0, b') ∧ AI (k + 1) (u + 1) n D b' ∧ b'.last = 2 := by
  have hx := ai_ex h hD
  rw [if_neg (by omega)] at hx
  obtain ⟨b', e, c, v, d, l, s, t⟩ := tryB_start h.cal hk (x := 2) (r := []) (by omega) hc h.e hx
  refine ⟨b', e, ⟨c, ?_, ?_, ?_, ?_, by rw [t, List.length_append]; have := h.es; simp; omega⟩, s⟩
  · rw [v]
    exact entO_put (by omega) (by rw [← hD]; exact sumS_len _) true hn (by show u + 1 ≤ 255; omega)
  · rw [v, ordV_congr (get_set_ne (ne_EO 2)), h.o]
  · rw [v, get_set_ne (ne_EN 2), h.nx]
  · rw [v, denV_congr (get_set_ne (ne_ED 2)), h.dn]
theorem ai_succ (h : AI k u n D b) (hk : k < 1000) (hD : D.length = 32) (hl : b.last = 2) (hn : n ≤ 255) : ∃ b', succB b = (0, b') ∧ AI (k + 1) 0 n D b' := by
  obtain ⟨b', e, c, v, kp⟩ := setB_ok h.cal hk (okVar_E (j := 2) (by omega) hD true n 0)
  refine ⟨b', ?_, c, ?_, ?_, ?_, ?_, by rw [kp.2.2.2]; exact Nat.le_succ_of_le h.es⟩
  · unfold succB
    rw [hl, show (2 : Int) = ((2 : Nat) : Int) from rfl, h.e]
    exact e
  · rw [v]
    exact entO_put (by omega) hD true hn (by omega)
  · rw [v, ordV_congr (get_set_ne (ne_EO 2)), h.o]
  · rw [v, get_set_ne (ne_EN 2), h.nx]
  · rw [v, denV_congr (get_set_ne (ne_ED 2)), h.dn]
theorem ai_ent (h : AI k u n D b) : entT b.st.V 2 = .tuple #[.agg (Ms.arr 35 (ecl 2 D true n)), .int .i64 (u : Int), .int .i64 0] := by
  unfold entT
  rw [show (2 : Int) = ((2 : Nat) : Int) from rfl, h.e]
  rfl
end
set_option maxRecDepth 100000 in
set_option maxHeartbeats 4000000 in
theorem attempts_any (at0 bo su : Int) (w : World) (hr : Ms.Rnd w) (h0 : 0 < w.heap.size) : Calls Tryz.prog 3 #[.int .i64 at0, .int .i64 bo, .int .i64 su] w fun e w' => e = .returned (.bool true) ∧ Below w.heap.size w w' := by
  have HM4 := fun W => mod_any at0 4 W (by omega) (by omega)
  have HMB : Hid (∀ W, Calls Tryz.prog 11 #[.int .i64 bo, .int .i64 10] W fun e w' => e = .returned (.int .i64 ((mo bo 10 : Nat) : Int)) ∧ W = w') := fun W => mod_any bo 10 W (by omega) (by omega)
  have HMS : Hid (∀ W, Calls Tryz.prog 11 #[.int .i64 su, .int .i64 10] W fun e w' => e = .returned (.int .i64 ((mo su 10 : Nat) : Int)) ∧ W = w') := fun W => mod_any su 10 W (by omega) (by omega)
  have hm4 := mo_lt at0 4 (by omega)
  have hmb := mo_lt bo 10 (by omega)
  generalize mo at0 4 = m4 at *
  generalize mo bo 10 = mb at *
  generalize mo su 10 = ms at *
  have HM : Hid (Calls Tryz.prog 11 #[.int .i64 at0, .int .i64 4] w fun e w' => e = .returned (.int .i64 (m4 : Int)) ∧ w = w') := HM4 w
  obtain ⟨n, hn⟩ : ∃ n, n = m4 + 1 := ⟨_, rfl⟩
  have hwn : IntKind.i64.wrap (1 + (m4 : Int)) = (n : Int) := by rw [IntWalk.i64_in _ ⟨by omega, by omega⟩]; omega
  have hn1 : 1 ≤ n := by omega
  have hn4 : n ≤ 4 := by omega
  have HBD := Lib.hid (board_any 1000 (by omega) w hr h0)
  clear hr hn hm4 HM4
  go_enter Tryz.func3, Tryz.ntmps3
  go_wp2_with fail
  refine HM.out.mono ?_
  rintro e w' ⟨rfl, rfl⟩
  go_wp2_with fail
  refine HBD.out.mono ?_
  rintro e w1 ⟨X, L, M, S, O, fl, rfl, hbw, hcal, b1⟩
  have HB1 := Lib.hid b1
  have HF1 := Lib.hid (BF.of O hbw)
  have HK : Hid (kern.size ≤ 1073741824) := by show kern.size ≤ _; decide
  have HSM := Lib.hid (sum_str kern w1 HK.out hbw.rnd hbw.pos)
  have HDD : Hid (∃ D, sumS kern = D) := ⟨_, rfl⟩
  obtain ⟨D, hDD⟩ := HDD.out
  have hD32 := sumS_len kern
  rw [hDD] at HSM hD32
  have HDK := Lib.hid hDD
  have HD32 := Lib.hid hD32
  obtain ⟨p1, p2, ⟨e1, k1⟩, e2, ha⟩ := ai_init hcal hD32 hn1 (show n ≤ 255 by omega)
  have HAI := Lib.hid ha
  have k0 : st0.blk < fl.B := hcal.blk
  have HS1 : Hid (∀ W, BF W w.heap.size (fun _ => False) M S L 32 ⟨fl, st0, [], [], -1, []⟩ → Calls Tryz.prog 13 #[fptr M, .agg (Ms.arr 35 (ecl 2 D true n))] W fun e w' => e = .returned (.int .i64 0) ∧ BL W w' w.heap.size (fun _ => False) M S L 33 p1) := fun W hF => by
    have := hF.setEntry (n := 32) k0 (by omega) 2 hD32 true n
    rw [e1] at this
    exact this
  have HS2 : Hid (∀ W v, BF W w.heap.size (fun _ => False) M S L 33 p1 → RdI W v [2] → Calls Tryz.prog 15 #[fptr M, v] W fun e w' => e = .returned (.int .i64 0) ∧ BL W w' w.heap.size (fun _ => False) M S L 34 p2) := fun W v hF hv => by
    have := hF.setOrder (n := 33) k1 (by omega) hv.j
    rw [e2] at this
    exact this
  clear hbw hcal b1 HBD ha hDD hD32 e1 k1 e2 k0 HDD
  unfold kern at HSM
  go_wp2_with fail
  refine HSM.out.mono ?_
  rintro e w2 ⟨rfl, b2⟩
  have HB2 : Hid (Below w.heap.size w w2) := HB1.out.trans (b2.mono HB1.out.size)
  have HF2 := Lib.hid (HF1.out.below b2)
  clear b2 HSM HF1 HB1
  go_wp2_with fail
  refine (HS1.out _ HF2.out).mono ?_
  rintro e w3 ⟨rfl, bl3⟩
  have HB3 : Hid (Below w.heap.size w w3) := HB2.out.trans bl3.bel
  have HF3 := Lib.hid bl3.bf
  clear bl3 HS1 HF2 HB2
  have HB4 : Hid (Below w3.heap.size w3 (w3.alloc (.cells #[.int .i64 2] 3))) := (Below.refl _ _).alloc (Nat.le_refl _) _
  have HI4 : Hid (RdI (w3.alloc (.cells #[.int .i64 2] 3)) (.slice (some ⟨w3.heap.size, 0, none⟩) 1 1) [2]) := rdI_new w3 _ [2] rfl (by simp)
  go_wp2_with fail
  refine (HS2.out _ _ (HF3.out.below HB4.out) HI4.out).mono ?_
  rintro e w5 ⟨rfl, bl5⟩
  have HB5 : Hid (Below w.heap.size w w5) := (HB3.out.trans (HB4.out.mono HB3.out.size)).trans bl5.bel
  have HF5 := Lib.hid bl5.bf
  clear bl5 HS2 HF3 HB3 HB4 HI4
  have HT6 : Hid (RdT (w5.alloc (.cells #[.string ⟨#[]⟩, .string ⟨#[]⟩, .string ⟨#[107, 101, 114, 110, 101, 108]⟩] 9)) (.slice (some ⟨w5.heap.size, 0, none⟩) 3 3) im2) := rdT_new w5 _ im2 rfl (by simp [im2])
  have HF6 := Lib.hid (HF5.out.add (w' := w5.alloc (.cells #[.string ⟨#[]⟩, .string ⟨#[]⟩, .string ⟨#[107, 101, 114, 110, 101, 108]⟩] 9)) ((Below.refl _ _).alloc (Nat.le_refl _) _) (E := w5.heap.size) (Nat.le_refl _) (by simp))
  have HB6 : Hid (Below w.heap.size w (w5.alloc (.cells #[.string ⟨#[]⟩, .string ⟨#[]⟩, .string ⟨#[107, 101, 114, 110, 101, 108]⟩] 9))) := HB5.out.alloc HB5.out.size _
  have HSZ : Hid (∀ x ∈ im2, x.size ≤ 1073741824) := fun x hx => by
    unfold im2 at hx
    rcases List.mem_cons.1 hx with rfl | hx
    · decide
    · rcases List.mem_cons.1 hx with rfl | hx
      · decide
      · rw [List.mem_singleton.1 hx]; exact HK.out
  clear HF5 HB5
  go_wp2_with fail
  generalize w5.alloc (.cells #[.string ⟨#[]⟩, .string ⟨#[]⟩, .string ⟨#[107, 101, 114, 110, 101, 108]⟩] 9) = w6 at *
  generalize w5.heap.size = G at *
  go_loopw [13, 14] (fun x z wr => ∃ (i us k : Nat) (b : BM), i ≤ mb ∧ us ≤ n ∧ k ≤ 2 + 3 * i ∧ x = .int .i64 (us : Int) ∧ z = .int .i64 (i : Int) ∧ Hid (AI k us n D b) ∧ Hid (BF wr w.heap.size (fun k => False ∨ k = G) M S L (34 + 3 * i) b) ∧ Hid (RdT wr (.slice (some ⟨G, 0, none⟩) 3 3) im2) ∧ Hid (Below w.heap.size w wr)) (fun _ z _ => mb - (intOf z).toNat)
  case atStart => exact ⟨0, 0, 2, p2, by omega, by omega, by omega, rfl, rfl, HAI, HF6, HT6, HB6⟩
  case round =>
    clear HAI HF6 HT6 HB6
    obtain ⟨i, us, k, b, hi, hus, hk, rfl, rfl, HAI, HF, HT, HB⟩ := hrel
    go_wp2_with fail
    refine (HMB.out wr).mono ?_
    rintro e w' ⟨rfl, rfl⟩
    by_cases hlt : i < mb
    · have y0 : (i : Int) < mb := by omega
      obtain ⟨b1, e1, a1, c1, l1⟩ := ai_begin HAI.out (by omega)
      have HA1 := Lib.hid a1
      have HBG : Hid (Calls Tryz.prog 16 #[fptr M] wr fun e w' => e = .returned (.int .i64 0) ∧ BL wr w' w.heap.size (fun k => False ∨ k = G) M S L (34 + 3 * i + 1) b1) := by
        have := HF.out.begin (n := 34 + 3 * i) HAI.out.cal.blk (by omega)
        rw [e1] at this
        exact this
      clear e1 a1
      go_wp2_with fail
      refine HBG.out.mono ?_
      rintro e w7 ⟨rfl, bl7⟩
      have HF7 := Lib.hid bl7.bf
      have HT7 := Lib.hid (HT.out.ch bl7.ch (fun g hg q => q (.inr (by simpa [Value.ownBlock] using hg.symm))))
      have HB7 : Hid (Below w.heap.size w w7) := HB.out.trans bl7.bel
      clear bl7 HBG HF HT HB HAI
      have hes7 : b1.es.length < 256 := by have := HA1.out.es; omega
      have htr := HF7.out.try (n := 34 + 3 * i + 1) HA1.out.cal.blk (by omega) (by rw [c1]; decide) hes7 (by rw [l1]; decide) HT7.out (fun g hg => .inr (by simpa [Value.ownBlock] using hg.symm)) HSZ.out
      have HTR := Lib.hid htr
      clear htr hes7 l1
      by_cases hun : us < n
      · obtain ⟨b2, e2, a2, l2⟩ := ai_try HA1.out (by omega) HDK.out c1 hun (by omega)
        rw [e2] at HTR
        have HA2 := Lib.hid a2
        have huI : ¬ (us : Int) ≥ (n : Int) := by omega
        clear e2 a2 HA1 c1
        go_wp2_with fail
        refine HTR.out.mono ?_
        rintro e w8 ⟨rfl, bl8⟩
        have HF9 := Lib.hid (bl8.bf.below (w' := w8.alloc (.cells #[.int .i64 2, .int .i64 0] 40)) ((Below.refl _ _).alloc (Nat.le_refl _) _))
        have HT9 : Hid (RdT (w8.alloc (.cells #[.int .i64 2, .int .i64 0] 40)) (.slice (some ⟨G, 0, none⟩) 3 3) im2) := (HT7.out.ch bl8.ch (fun g hg q => q (.inr (by simpa [Value.ownBlock] using hg.symm)))).below ((Below.refl _ _).alloc (Nat.le_refl _) _)
        have HB9 : Hid (Below w.heap.size w (w8.alloc (.cells #[.int .i64 2, .int .i64 0] 40))) := (HB7.out.trans bl8.bel).alloc ((HB7.out.trans bl8.bel).size) _
        have x0 : (w8.alloc (.cells #[.int .i64 2, .int .i64 0] 40)).cell? ⟨w8.heap.size, 0, none⟩ = some (.int .i64 2) := (show Row _ _ _ 2 (stp 2 0) from Row.ofList w8 40 _ _ 2 rfl).cell (i := 0) (by omega)
        have x1 : (w8.alloc (.cells #[.int .i64 2, .int .i64 0] 40)).cell? ⟨w8.heap.size, 1, none⟩ = some (.int .i64 0) := (show Row _ _ _ 2 (stp 2 0) from Row.ofList w8 40 _ _ 2 rfl).cell (i := 1) (by omega)
        have q1 := fun W => neSt 2 0 2 0 W
        clear bl8 HTR HF7 HT7 HB7
        have hwu : IntKind.i64.wrap ((us : Int) + 1) = ((us + 1 : Nat) : Int) := by rw [IntWalk.i64_in _ ⟨by omega, by omega⟩]; rfl
        have HMZ := Lib.hid (HMS.out (w8.alloc (.cells #[.int .i64 2, .int .i64 0] 40)))
        by_cases him : i = ms
        · obtain ⟨b3, e3, a3⟩ := ai_succ HA2.out (by omega) HD32.out l2 (by omega)
          have HA3 := Lib.hid a3
          have HSC : Hid (Calls Tryz.prog 18 #[fptr M] (w8.alloc (.cells #[.int .i64 2, .int .i64 0] 40)) fun e w' => e = .returned (.int .i64 0) ∧ BL (w8.alloc (.cells #[.int .i64 2, .int .i64 0] 40)) w' w.heap.size (fun k => False ∨ k = G) M S L (34 + 3 * i + 1 + 1 + 1) b3) := by
            have := HF9.out.succ (n := 34 + 3 * i + 1 + 1) HA2.out.cal.blk (by omega)
            rw [e3] at this
            exact this
          have himI : (i : Int) = (ms : Int) := by omega
          have himb : ((i : Int) == (ms : Int)) = true := by simp [him]
          clear e3 a3
          go_wp2_with fail
          generalize w8.alloc (.cells #[.int .i64 2, .int .i64 0] 40) = W8' at *
          refine HMZ.out.mono ?_
          rintro e w' ⟨rfl, rfl⟩
          go_wp2_with fail
          refine HSC.out.mono ?_
          rintro e W8 ⟨rfl, bl9⟩
          have HF10 := Lib.hid bl9.bf
          have HT10 := Lib.hid (HT9.out.ch bl9.ch (fun g hg q => q (.inr (by simpa [Value.ownBlock] using hg.symm))))
          have HB10 : Hid (Below w.heap.size w W8) := HB9.out.trans bl9.bel
          have b2 := b3
          clear bl9 HSC HF9 HT9 HB9 x0 x1 q1
          go_wp2_with fail
          have HEN : Hid (Calls Tryz.prog 19 #[fptr M, .int .i64 2] W8 fun e w' => e = .returned (.tuple #[.agg (Ms.arr 35 (ecl 2 D true n)), .int .i64 ((0 : Nat) : Int), .int .i64 0]) ∧ Below (W8).heap.size (W8) w') := by
            have := HF10.out.entry 2
            rw [ai_ent HA3.out] at this
            exact this
          have hst9 := fun (W : World) => st34 (nE_row W) 2 D true n
          have hwu : IntKind.i64.wrap ((us : Int) + 1) = ((us + 1 : Nat) : Int) := by rw [IntWalk.i64_in _ ⟨by omega, by omega⟩]; rfl
          refine HEN.out.mono ?_
          rintro e w10 ⟨rfl, b10⟩
          have HB11 : Hid (Below W8.heap.size W8 (w10.alloc (.cells (Ms.arr 35 (ecl 2 D true n)) 34))) := b10.alloc b10.size _
          have HFE := Lib.hid (HF10.out.below HB11.out)
          have HTE := Lib.hid (HT10.out.below HB11.out)
          have HBE : Hid (Below w.heap.size w (w10.alloc (.cells (Ms.arr 35 (ecl 2 D true n)) 34))) := HB10.out.trans (HB11.out.mono HB10.out.size)
          clear b10 HEN HB11 HF10 HT10 HB10
          go_wp2_with fail
          go_roundw
          case rel => exact ⟨i + 1, 0, k + 1 + 1 + 1, b3, by omega, by omega, by omega, rfl, by go_num, HA3, HFE.out.mono (by omega), HTE, HBE⟩
          case measure => simp [intOf]; omega
        · have himI : ¬ (i : Int) = (ms : Int) := by omega
          have himb : ((i : Int) == (ms : Int)) = false := by simpa using himI
          go_wp2_with fail
          generalize w8.alloc (.cells #[.int .i64 2, .int .i64 0] 40) = W8 at *
          refine HMZ.out.mono ?_
          rintro e w' ⟨rfl, rfl⟩
          go_wp2_with fail
          have HEN : Hid (Calls Tryz.prog 19 #[fptr M, .int .i64 2] W8 fun e w' => e = .returned (.tuple #[.agg (Ms.arr 35 (ecl 2 D true n)), .int .i64 ((us + 1 : Nat) : Int), .int .i64 0]) ∧ Below (W8).heap.size (W8) w') := by
            have := HF9.out.entry 2
            rw [ai_ent HA2.out] at this
            exact this
          have hst9 := fun (W : World) => st34 (nE_row W) 2 D true n
          have hwu : IntKind.i64.wrap ((us : Int) + 1) = ((us + 1 : Nat) : Int) := by rw [IntWalk.i64_in _ ⟨by omega, by omega⟩]; rfl
          refine HEN.out.mono ?_
          rintro e w10 ⟨rfl, b10⟩
          have HB11 : Hid (Below W8.heap.size W8 (w10.alloc (.cells (Ms.arr 35 (ecl 2 D true n)) 34))) := b10.alloc b10.size _
          have HFE := Lib.hid (HF9.out.below HB11.out)
          have HTE := Lib.hid (HT9.out.below HB11.out)
          have HBE : Hid (Below w.heap.size w (w10.alloc (.cells (Ms.arr 35 (ecl 2 D true n)) 34))) := HB9.out.trans (HB11.out.mono HB9.out.size)
          clear b10 HEN HB11 HF9 HT9 HB9
          go_wp2_with fail
          go_roundw
          case rel => exact ⟨i + 1, us + 1, k + 1 + 1, b2, by omega, by omega, by omega, rfl, by go_num, HA2, HFE.out.mono (by omega), HTE, HBE⟩
          case measure => simp [intOf]; omega
      · obtain ⟨b2, e2, a2⟩ := ai_full HA1.out HDK.out c1 (by omega)
        rw [e2] at HTR
        have HA2 := Lib.hid a2
        have huI : (us : Int) ≥ (n : Int) := by omega
        clear e2 a2 HA1 c1
        go_wp2_with fail
        refine HTR.out.mono ?_
        rintro e w8 ⟨rfl, bl8⟩
        have HF9 := Lib.hid (bl8.bf.below (w' := w8.alloc (.cells #[.int .i64 2, .int .i64 14] 40)) ((Below.refl _ _).alloc (Nat.le_refl _) _))
        have HT9 : Hid (RdT (w8.alloc (.cells #[.int .i64 2, .int .i64 14] 40)) (.slice (some ⟨G, 0, none⟩) 3 3) im2) := (HT7.out.ch bl8.ch (fun g hg q => q (.inr (by simpa [Value.ownBlock] using hg.symm)))).below ((Below.refl _ _).alloc (Nat.le_refl _) _)
        have HB9 : Hid (Below w.heap.size w (w8.alloc (.cells #[.int .i64 2, .int .i64 14] 40))) := (HB7.out.trans bl8.bel).alloc ((HB7.out.trans bl8.bel).size) _
        have x0 : (w8.alloc (.cells #[.int .i64 2, .int .i64 14] 40)).cell? ⟨w8.heap.size, 0, none⟩ = some (.int .i64 2) := (show Row _ _ _ 2 (stp 2 14) from Row.ofList w8 40 _ _ 2 rfl).cell (i := 0) (by omega)
        have x1 : (w8.alloc (.cells #[.int .i64 2, .int .i64 14] 40)).cell? ⟨w8.heap.size, 1, none⟩ = some (.int .i64 14) := (show Row _ _ _ 2 (stp 2 14) from Row.ofList w8 40 _ _ 2 rfl).cell (i := 1) (by omega)
        have q1 := fun W => neSt 2 14 2 14 W
        clear bl8 HTR HF7 HT7 HB7
        go_wp2_with fail
        generalize w8.alloc (.cells #[.int .i64 2, .int .i64 14] 40) = W8 at *
        have HEN : Hid (Calls Tryz.prog 19 #[fptr M, .int .i64 2] W8 fun e w' => e = .returned (.tuple #[.agg (Ms.arr 35 (ecl 2 D true n)), .int .i64 ((us : Nat) : Int), .int .i64 0]) ∧ Below (W8).heap.size (W8) w') := by
          have := HF9.out.entry 2
          rw [ai_ent HA2.out] at this
          exact this
        have hst9 := fun (W : World) => st34 (nE_row W) 2 D true n
        have hwu : IntKind.i64.wrap ((us : Int) + 1) = ((us + 1 : Nat) : Int) := by rw [IntWalk.i64_in _ ⟨by omega, by omega⟩]; rfl
        refine HEN.out.mono ?_
        rintro e w10 ⟨rfl, b10⟩
        have HB11 : Hid (Below W8.heap.size W8 (w10.alloc (.cells (Ms.arr 35 (ecl 2 D true n)) 34))) := b10.alloc b10.size _
        have HFE := Lib.hid (HF9.out.below HB11.out)
        have HTE := Lib.hid (HT9.out.below HB11.out)
        have HBE : Hid (Below w.heap.size w (w10.alloc (.cells (Ms.arr 35 (ecl 2 D true n)) 34))) := HB9.out.trans (HB11.out.mono HB9.out.size)
        clear b10 HEN HB11 HF9 HT9 HB9
        go_wp2_with fail
        go_roundw
        case rel => exact ⟨i + 1, us, k + 1 + 1, b2, by omega, by omega, by omega, rfl, by go_num, HA2, HFE.out.mono (by omega), HTE, HBE⟩
        case measure => simp [intOf]; omega
    · have y0 : ¬ (i : Int) < mb := by omega
      have HAW := Lib.hid (awake_any wr HF.out.rnd HF.out.pos)
      go_wp2_with fail
      refine HAW.out.mono ?_
      rintro e w4 ⟨rfl, b4⟩
      have HB4 : Hid (Below w.heap.size w w4) := HB.out.trans (b4.mono HB.out.size)
      clear b4 HAW
      go_wp2_with fail
      go_ret
      exact ⟨rfl, HB4.out⟩
end Go.Proofs.YtdinbpdpalgohaaGreatDoor
namespace Go.Proofs.YtdinbpdpalgohaaGreatDoor.bootAttemptsAreLimitedDone
open Go.ChangeShapes Go.WideShapes Go.ChangeAt Go.RowKit Go.Deep
open Go.ChangeMaps (open_string shut_string)

set_option maxRecDepth 100000 in
theorem contract (H : Type) (enc : TypeId × Value → H) (W : World) (base : Nat) (args : Array Value) (ds gs : List (DataW H)) (before : List MemPlace)
    (hval0 : ∀ (j : Nat) t v, Tryz.f3.params[j]? = some t → args[j]? = some v → Value.okWide Tryz.prog W .any base t v)
    (hW : DataW.Whole enc Tryz.prog Tryz.f3.params.toList Rows.bootAttemptsAreLimitedSpec.vars false W args.toList ds gs before) (hL : laidMetH Tryz.prog Rows.bootAttemptsAreLimitedRow.laid W) :
    Calls Tryz.prog 3 args W fun e W' => ∃ v, e = .returned v ∧ Rows.bootAttemptsAreLimitedSpec.post enc Tryz.prog Tryz.f3 false true false false W args v W' := by
  have hR : Ms.Rnd W := rnd_of hL
  have h00 : 0 < W.heap.size := rnd_pos hR
  have hval := hval0
  have hW' := hW
  obtain ⟨p, q, hA0, hV, rfl, hfz, hnd⟩ := hW
  have hA : DataW.TrodAll enc Tryz.prog W 0 (fun _ => true) true Tryz.f3.params.toList args.toList ds p := hA0
  rw [Tryz.params3] at hA hval
  obtain ⟨v0, vs0, d0, ds0, p0, q0, hargs, rfl, rfl, h0, r0⟩ := trodAll_cons hA
  obtain ⟨v1, vs1, d1, ds1, p1, q1, rfl, rfl, rfl, h1, r1⟩ := trodAll_cons r0
  obtain ⟨v2, vs2, d2, ds2, p2, q2, rfl, rfl, rfl, h2, r2⟩ := trodAll_cons r1
  obtain ⟨rfl, rfl, rfl⟩ := trodAll_nil r2
  obtain rfl : args = #[v0, v1, v2] := by cases args; simp_all
  obtain ⟨rfl, rfl⟩ := trodVars_none hV
  obtain ⟨a0, rfl, rfl, rfl, w0⟩ := open_int Tryz.underlying3 (hval 0 3 v0 rfl rfl) h0
  obtain ⟨a1, rfl, rfl, rfl, w1⟩ := open_int Tryz.underlying3 (hval 1 3 v1 rfl rfl) h1
  obtain ⟨a2, rfl, rfl, rfl, w2⟩ := open_int Tryz.underlying3 (hval 2 3 v2 rfl rfl) h2
  clear hA0 hval0
  refine (attempts_any a0 a1 a2 W  hR h00).mono fun e W' ⟨he, bel⟩ => ?_
  subst he
  exact ⟨_, rfl, _, _, _, [], _, [], hW', trodAll_mk1 (shut_bool Tryz.underlying4 _), (trodAll_cons_mk (shut_int Tryz.underlying3 w0) (trodAll_cons_mk (shut_int Tryz.underlying3 w1) (trodAll_cons_mk (shut_int Tryz.underlying3 w2) trodAll_mk0))), rfl, bel.frame _, fun h => by cases h⟩

theorem laid_met (os : Os) : laidMet Tryz.prog Rows.bootAttemptsAreLimitedRow.laid ((laidWorld os).forCall (fun _ _ => 0) ⟨#[], #[.int .i64 0, .int .i64 0, .int .i64 0], []⟩).memory :=
  laidMet_of_run' 8 (by kernel_rfl) (by kernel_rfl)
theorem reads (os : Os) {H : Type} (enc : TypeId × Value → H) : ∃ places, DataW.whole enc Tryz.prog ((laidWorld os).forCall (fun _ _ => 0) ⟨#[], #[.int .i64 0, .int .i64 0, .int .i64 0], []⟩).memory Tryz.f3.params.toList Rows.bootAttemptsAreLimitedSpec.vars false (#[.int .i64 0, .int .i64 0, .int .i64 0] : Array Value).toList 8 = some ([.lit (.int .i64 0), .lit (.int .i64 0), .lit (.int .i64 0)], [], places) :=
  ⟨[], by kernel_rfl⟩

set_option maxRecDepth 100000 in
theorem lifted (os : Os) (started : os.Started) (H : Type) (enc : TypeId × Value → H) (F : Stop.Interp) :
    ReturnsInHanded {} Tryz.checked os 3 .any ((OpenSpec.ofChange Rows.bootAttemptsAreLimitedSpec).preRow enc Tryz.prog Tryz.f3 Rows.bootAttemptsAreLimitedRow.domain false Rows.bootAttemptsAreLimitedRow.laid) (((OpenSpec.ofChange Rows.bootAttemptsAreLimitedSpec).at F).post enc Tryz.prog Tryz.f3 false true false false) := by
  obtain ⟨places, hx⟩ := reads os enc
  refine returnsInHanded_of_row (C := Tryz.checked) (s := OpenSpec.ofChange Rows.bootAttemptsAreLimitedSpec) own started (by kernel_rfl) Tryz.func3
    (witness_row_at (enc := enc) (C := Tryz.checked) false (laidWorld os) #[.int .i64 0, .int .i64 0, .int .i64 0] rfl (by kernel_rfl) (by kernel_rfl) (by kernel_rfl)
      (OpenSpec.preRow_of_cond 8 hx (by kernel_rfl) (fun k hk => by cases hk) (by kernel_rfl) (laid_met os))) ?_
  intro W base args ds gs before hval hW _ _ _ hL _ _
  exact contract H enc W base args ds gs before hval hW hL

theorem said : Rows.BootAttemptsAreLimitedSaid :=
  OpenClaim.holds_of_cond 3 Tryz.f3 rfl rfl rfl rfl rfl rfl rfl ⟨rfl, rfl, rfl, rfl, rfl⟩ rfl rfl rfl rfl rfl (by kernel_rfl) Tryz.func3 (by kernel_rfl)
    (of_decide_eq_true (by kernel_rfl)) (by unfold Func.isWrapper; first | (rw [if_pos (by decide +kernel)]; kernel_rfl) | (rw [if_neg (by decide +kernel)]; exact ⟨rfl, rfl⟩))
    (fun os started H enc _ F => by rw [OpenClaim.pre_eq_preRow]; exact lifted os started H enc F)

theorem plain (f : FuncId) (fn : Func) (hf : Tryz.pinned.checked.prog.funcNamed "platformfw/platformfwlaw43.BootAttemptsAreLimited" = some f) (hfn : Tryz.pinned.checked.prog.funcs[f]? = some fn) :
    true = Tryz.pinned.checked.prog.looks [] ∧ ∀ (j : Nat) t, fn.params[j]? = some t → Tryz.pinned.checked.prog.wantsStandIn t = false := by
  obtain rfl : f = 3 := Option.some.inj ((show Tryz.prog.funcNamed "platformfw/platformfwlaw43.BootAttemptsAreLimited" = some 3 by kernel_rfl).symm.trans hf) |>.symm
  obtain rfl : fn = Tryz.f3 := (Option.some.inj (Tryz.func3.symm.trans hfn)).symm
  refine ⟨by kernel_rfl, fun j t ht => ?_⟩
  rw [Tryz.params3] at ht
  have hall : (Tryz.f3.params.all fun t => !Tryz.prog.wantsStandIn t) = true := by kernel_rfl
  rw [Tryz.params3] at hall
  have := Array.all_eq_true_iff_forall_mem.1 hall t (Array.mem_of_getElem? ht)
  show Tryz.prog.wantsStandIn t = false
  simpa using this

theorem proved : Rows.BootAttemptsAreLimitedCardSaid :=
  Claim7.holds_tied_plain_at .later [] _ _ _ _ said (fun _ h => by cases h) (by kernel_rfl) (fun _ h => by cases h) bootAttemptsAreLimited_row_tie rfl ⟨rfl, rfl⟩ (by kernel_rfl) rfl plain (by kernel_rfl)
#print axioms proved
end Go.Proofs.YtdinbpdpalgohaaGreatDoor.bootAttemptsAreLimitedDone
