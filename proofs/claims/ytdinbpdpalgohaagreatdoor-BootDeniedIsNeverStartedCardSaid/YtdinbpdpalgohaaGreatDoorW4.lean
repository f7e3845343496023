/- BootDeniedIsNeverStarted: for every input the call returns true and each argument reads afterwards as before.. Conditions: those that each theorem names. -/
import Derived.Test.YtdinbpdpalgohaaGreatDoorY15
import Derived.Test.YtdinbpdpalgohaaGreatDoorY17
namespace Go.Proofs.YtdinbpdpalgohaaGreatDoor
open Go.RowKit
attribute [local go_sem ↓] alloc34 load34 store34 build34d build34o Ms.alloc26 Ms.load26n Ms.store26n slice47
attribute [local go_sem] Ms.set_new Ms.stN_b8 bl4V ecl_list cs32 slcD
def codeD (dn : List Str) (d : Str) : Int := if d ∈ dn then 0 else if 4 ≤ dn.length then 8 else 0
def dnx (dn : List Str) (d : Str) : List Str := if d ∈ dn then dn else if 4 ≤ dn.length then dn else dn ++ [d]
theorem dnx_len {dn : List Str} {d : Str} (h : dn.length ≤ 4) : (dnx dn d).length ≤ 4 := by
  unfold dnx
  split
  · exact h
  · split
    · exact h
    · rw [List.length_append]; simp; omega
theorem dnx_32 {dn : List Str} {d : Str} (h : ∀ e ∈ dn, e.length = 32) (hd : d.length = 32) : ∀ e ∈ dnx dn d, e.length = 32 := by
  unfold dnx
  split
  · exact h
  · split
    · exact h
    · intro e he
      rcases List.mem_append.1 he with q | q
      · exact h e q
      · rw [List.mem_singleton.1 q]; exact hd
theorem dnx_again (dn : List Str) (d : Str) : codeD (dnx dn d) d = codeD dn d ∧ dnx (dnx dn d) d = dnx dn d ∧ (d ∈ dnx dn d ↔ codeD dn d = 0) := by
  unfold codeD dnx
  by_cases h1 : d ∈ dn
  · simp [h1]
  · by_cases h2 : 4 ≤ dn.length
    · simp [h1, h2]
    · simp [h1, h2]
theorem BF.grown {w w2 : World} {N M S L n g : Nat} {F : Nat → Prop} {b : BM} {vo : Option Nat} (h : BF w N F M S L n b) (hg : w.grownBy w2 vo) (hv : ∀ k, vo = some k → F k ∧ 0 < k) (hat : vo = some g ∨ w.heap.size ≤ g) (hlt : g < w2.heap.size) : BF w2 N (fun k => F k ∨ k = g) M S L n b := by
  obtain ⟨O, q1, q2⟩ := h
  have c : Ch (fun k => vo = some k) w w2 := Ch.of_grown hg (fun k hk _ => hk)
  refine ⟨O, q1.ch c (fun k hk => ⟨(q2 k (hv k hk).1).1, (hv k hk).2⟩), fun k hk => ?_⟩
  rcases hk with hk | rfl
  · exact ⟨(q2 k hk).1, Nat.lt_of_lt_of_le (q2 k hk).2 c.size⟩
  · refine ⟨fun hO => ?_, hlt⟩
    rcases hat with e | e
    · exact (q2 k (hv k e).1).1 hO
    · have := (q1.oN k hO).2; omega
structure DI (k : Nat) (dn : List Str) (b : BM) : Prop where
  cal : Cal 1000 k b.fl b.st
  dn : denV b.st.V = dn
  nx : getV b.st.V nmN = none
  es : b.es.length ≤ k
  log : b.log.length ≤ 1
section
variable {k : Nat} {dn : List Str} {d : Str} {b : BM}
theorem di_deny (h : DI k dn b) (hk : k < 1000) (hd : d.length = 32) : ∃ b', denyB b d = (codeD dn d, b') ∧ DI (k + 1) (dnx dn d) b' := by
  unfold denyB codeD dnx
  rw [h.dn]
  by_cases h1 : d ∈ dn
  · rw [if_pos h1, if_pos h1, if_pos h1]
    exact ⟨b, rfl, h.cal.mono (Nat.le_succ _), h.dn, h.nx, Nat.le_succ_of_le h.es, h.log⟩
  · rw [if_neg h1, if_neg h1, if_neg h1]
    by_cases h2 : 4 ≤ dn.length
    · rw [if_pos h2, if_pos h2, if_pos h2]
      exact ⟨b, rfl, h.cal.mono (Nat.le_succ _), h.dn, h.nx, Nat.le_succ_of_le h.es, h.log⟩
    · rw [if_neg h2, if_neg h2, if_neg h2]
      have h32 : ∀ e ∈ dn ++ [d], e.length = 32 := fun e he => by
        rcases List.mem_append.1 he with q | q
        · exact denV_32 e (by rw [h.dn]; exact q)
        · rw [List.mem_singleton.1 q]; exact hd
      have hl4 : (dn ++ [d]).length ≤ 4 := by rw [List.length_append]; simp; omega
      obtain ⟨b', e, c, v, kp⟩ := setB_ok h.cal hk (okVar_D h32 hl4)
      exact ⟨b', e, c, by rw [v]; exact denV_set h32 hl4, by rw [v, get_set_ne (fun e => ne_DN e.symm)]; exact h.nx, by rw [kp.2.2.2]; exact Nat.le_succ_of_le h.es, by rw [kp.2.1]; exact h.log⟩
theorem di_boot (h : DI k dn b) (hk : k + 5 < 1000) {s : ByteArray} (hd : sumS s = d) (hs : s.size ≠ 0) : ∃ b1 b2 b3 b4 : BM,
    (setEntryB b 0 d true 1 = (0, b1) ∧ b1.st.blk < b1.fl.B) ∧ (setOrderB b1 [0] = (0, b2) ∧ b2.st.blk < b2.fl.B) ∧
    (beginB b2 = (0, b3) ∧ b3.st.blk < b3.fl.B ∧ b3.cand = [0] ∧ b3.es.length ≤ k ∧ b3.log = []) ∧
    tryB b3 [s] = ((0, if d ∈ dn then 13 else 0), 0, b4) ∧ DI (k + 4) dn b4 := by
  have hD : d.length = 32 := by rw [← hd]; exact sumS_len _
  obtain ⟨b1, e1, c1, v1, k1⟩ := setEntryB_ok h.cal (by omega) (j := 0) (by omega) hD true (n := 1) (by omega) (by omega)
  have hok : okO [0] = true := by decide
  obtain ⟨b2, e2, c2, v2, k2⟩ := setOrderB_ok c1 (by omega) hok
  obtain ⟨b3, e3, c3, v3, d3, l3, s3, n3⟩ := beginB_cal c2 (by omega)
  have gN : getV b2.st.V nmN = none := by rw [v2, get_set_ne (fun e => ne_ON e.symm), v1, get_set_ne (ne_EN 0), h.nx]
  have gD : denV b2.st.V = dn := by rw [v2, denV_congr (get_set_ne (fun e => ne_OD e.symm)), v1, denV_congr (get_set_ne (ne_ED 0)), h.dn]
  rw [gN, if_pos rfl] at v3
  have hcd : b3.cand = [0] := by
    rw [d3]
    unfold cndV nxtV
    rw [gN, v2, ordV_put hok]
    rfl
  have he3 : b3.es.length ≤ k := by rw [n3, k2.2.2.2, k1.2.2.2]; exact h.es
  have E0 : entO b2.st.V ((0 : Nat) : Int) = some ⟨0, d, true, 1, 0⟩ := by
    rw [v2, entO_congrN (get_set_ne (ne_EO 0).symm), v1]
    exact entO_put (by omega) hD true (by omega) (by omega)
  have X : exC b3.st.V 0 [s] = if d ∈ dn then 13 else 0 := by
    have hk : ([s] : List ByteArray).getD 0 ⟨#[]⟩ = s := rfl
    rw [exC_some (v3 ▸ E0), hk, hd, v3, gD]
    have h1 : ¬ (([s] : List ByteArray).length ≤ 0 ∨ s.size = 0) := by
      rintro (q | q)
      · simp at q
      · exact hs q
    rw [if_neg h1]
    simp
  by_cases hm : d ∈ dn
  · rw [if_pos hm] at X ⊢
    refine ⟨b1, b2, b3, _, ⟨e1, c1.blk⟩, ⟨e2, c2.blk⟩, ⟨e3, c3.blk, hcd, he3, l3⟩, tryB_skip hcd X (by decide), c3.mono (by omega), by rw [← gD, ← v3], by rw [← gN, ← v3], Nat.le_trans he3 (by omega), by simp [l3]⟩
  · rw [if_neg hm] at X ⊢
    obtain ⟨b4, e4, c4, v4, d4, l4, s4, n4⟩ := tryB_start (l := [s]) c3 (by omega) (x := 0) (r := []) (by omega) hcd (v3 ▸ E0) X
    refine ⟨b1, b2, b3, b4, ⟨e1, c1.blk⟩, ⟨e2, c2.blk⟩, ⟨e3, c3.blk, hcd, he3, l3⟩, e4, c4.mono (by omega), ?_, ?_, by rw [n4, List.length_append]; simp; omega, by rw [l4]; simp [l3]⟩
    · rw [v4, denV_congr (get_set_ne (ne_ED 0)), v3, gD]
    · rw [v4, get_set_ne (ne_EN 0), v3, gN]
end
set_option maxRecDepth 100000 in
set_option maxHeartbeats 4000000 in
theorem deniedNever_any (a : Option Addr) (len cap : Nat) (l : List ByteArray) (w : World) (hl : StrS w a len cap l) (hr : Ms.Rnd w) (h0 : 0 < w.heap.size) : Calls Tryz.prog 4 #[.slice a len cap] w fun e w' => e = .returned (.bool true) ∧ Below w.heap.size w w' := by
  have HA := Lib.hid hl
  have hcap : len ≤ cap := hl.2.1
  have hcapM := hl.2.2.1
  unfold maxLen at hcapM
  clear hl
  by_cases hbig : 8 < len
  · have hbI : (len : Int) > 8 := by omega
    have HAW := Lib.hid (awake_any w hr h0)
    go_enter Tryz.func4, Tryz.ntmps4
    go_wp2_with fail
    refine HAW.out.mono ?_
    rintro e w1 ⟨rfl, b1⟩
    have HB1 := Lib.hid b1
    clear b1 HAW
    go_wp2_with fail
    go_ret
    exact ⟨rfl, HB1.out⟩
  have hbI : ¬ (len : Int) > 8 := by omega
  have HBD := Lib.hid (board_any 1000 (by omega) w hr h0)
  have hr := hr
  clear hr
  go_enter Tryz.func4, Tryz.ntmps4
  go_wp2_with fail
  refine HBD.out.mono ?_
  rintro e w1 ⟨X, L, M, S, O, fl, rfl, hbw, hcal, b1⟩
  have HB1 := Lib.hid b1
  have HF1 : Hid (BF w1 w.heap.size (fun q => (Value.slice none 0 0).ownBlock = some q) M S L 32 ⟨fl, st0, [], [], -1, []⟩) := (BF.of O hbw).less (fun k hk => (by cases hk))
  have HD1 : Hid (DI 0 [] ⟨fl, st0, [], [], -1, []⟩) := ⟨hcal, rfl, rfl, Nat.le_refl _, Nat.zero_le _⟩
  have HO1 : Hid (OwD w1 w.heap.size (.slice none 0 0) []) := ⟨⟨rfl, .inl ⟨rfl, rfl⟩⟩, (fun _ h => by cases h), by simp⟩
  clear hbw hcal b1 HBD
  go_wp2_with fail
  go_loopw [7, 8] (fun x z wr => ∃ (i k : Nat) (dn : List Str) (b : BM), i ≤ len ∧ k ≤ 6 * i ∧ dn.length ≤ 4 ∧ z = .int .i64 (i : Int) ∧ Hid (OwD wr w.heap.size x dn) ∧ Hid (DI k dn b) ∧ Hid (BF wr w.heap.size (fun q => x.ownBlock = some q) M S L (32 + 6 * i) b) ∧ Hid (Below w.heap.size w wr)) (fun _ z _ => len - (intOf z).toNat)
  case atStart => exact ⟨0, 0, [], _, by omega, by omega, by simp, rfl, HO1, HD1, HF1, HB1⟩
  case round =>
    clear HO1 HD1 HF1 HB1
    obtain ⟨i, k, dn, b, hi, hk, hdn, rfl, HO, HDI, HF, HB⟩ := hrel
    obtain ⟨va, vc, rfl⟩ := Ms.own_len HO.out.1
    by_cases hlt : i < len
    · have y0 : (i : Int) < len := by omega
      obtain ⟨gd, od, s, rfl, hgl, hls, hsM, hcs⟩ := (HA.out.below HB.out (Nat.le_refl _)).at hlt
      unfold maxLen at hsM
      by_cases h60 : 60 < s.size
      · have h60I : (s.size : Int) > 60 := by omega
        have HAW := Lib.hid (awake_any wr HF.out.rnd HF.out.pos)
        go_wp2_with fail
        refine HAW.out.mono ?_
        rintro e w4 ⟨rfl, b4⟩
        have HB4 : Hid (Below w.heap.size w w4) := HB.out.trans (b4.mono HB.out.size)
        clear b4 HAW
        go_wp2_with fail
        go_ret
        exact ⟨rfl, HB4.out⟩
      have h60I : ¬ (s.size : Int) > 60 := by omega
      have HSM := Lib.hid (sum_str s wr (by omega) HF.out.rnd HF.out.pos)
      obtain ⟨d, hd⟩ : ∃ d, sumS s = d := ⟨_, rfl⟩
      have hd32 := sumS_len s
      rw [hd] at HSM hd32
      have HDS := Lib.hid hd
      have HD32 := Lib.hid hd32
      clear hd hd32
      go_wp2_with fail
      refine HSM.out.mono ?_
      rintro e w2 ⟨rfl, b2⟩
      have HB3 : Hid (Below wr.heap.size wr (w2.alloc (.cells (Ms.arr 32 (Ms.b8 (dgF d))) 31))) := b2.alloc b2.size _
      have HR3 := Lib.hid (dg_row w2 d)
      have HF3 := Lib.hid (HF.out.add HB3.out (E := w2.heap.size) b2.size HR3.out.lt)
      have HO3 := Lib.hid (HO.out.below HB3.out)
      have HBW3 : Hid (Below w.heap.size w (w2.alloc (.cells (Ms.arr 32 (Ms.b8 (dgF d))) 31))) := HB.out.trans (HB3.out.mono HB.out.size)
      have hEw : w.heap.size ≤ w2.heap.size := Nat.le_trans HB.out.size b2.size
      have HVE : Hid (∀ k, (Value.slice va dn.length vc).ownBlock = some k → k ≠ w2.heap.size) := fun k hk e => by
        have h1 := (HO.out.1.lt k hk).2
        have h2 := b2.size
        omega
      clear b2 HSM hcs HB3
      go_wp2_with fail
      generalize w2.alloc (.cells (Ms.arr 32 (Ms.b8 (dgF d))) 31) = w3 at *
      generalize w2.heap.size = E at *
      clear HF HO HB
      go_loopw [10, 11] (fun x z wq => ∃ j : Nat, j ≤ dn.length ∧ x = .bool (decide (d ∈ dn.take j)) ∧ z = .int .i64 (j : Int) ∧ Hid (OwD wq w.heap.size (.slice va dn.length vc) dn) ∧ Hid (Row wq E 31 32 (Ms.b8 (dgF d))) ∧ Hid (BF wq w.heap.size (fun q => (Value.slice va dn.length vc).ownBlock = some q ∨ q = E) M S L (32 + 6 * i) b) ∧ Hid (Below w.heap.size w wq)) (fun _ z _ => dn.length - (intOf z).toNat)
      case atStart => exact ⟨0, by omega, by simp, rfl, HO3, HR3, HF3, HBW3⟩
      case round =>
        clear HO3 HR3 HF3 HBW3
        obtain ⟨j, hj, rfl, rfl, HO, HR, HF, HB⟩ := hrel
        by_cases hjl : j < dn.length
        · have y1 : (j : Int) < dn.length := by omega
          obtain ⟨g, o, c', e, _, _, hc⟩ := HO.out.rd.at hjl
          injection e with e1 _ e3
          subst e1 e3
          have hld := ld26 HR.out
          have heq : ∀ Y, (binOp .eql 31 (.agg (Ms.arr 32 (Ms.b8 (dgF dn[j])))) (.agg (Ms.arr 32 (Ms.b8 (dgF d))))).run Tryz.prog Y = .ok (.bool (decide (dn[j] = d))) Y := fun Y => eqDg (HO.out.2.1 _ (List.getElem_mem hjl)) HD32.out Y
          have HKN : Hid (decide (d ∈ dn.take (j + 1)) = (decide (d ∈ dn.take j) || decide (dn[j] = d))) := by
            show _ = _
            rw [List.take_succ_eq_append_getElem hjl, Bool.eq_iff_iff]
            simp only [decide_eq_true_eq, Bool.or_eq_true, List.mem_append, List.mem_singleton]
            exact ⟨fun h => h.imp id Eq.symm, fun h => h.imp id Eq.symm⟩
          generalize dn[j] = dj at *
          generalize decide (dj = d) = q at *
          generalize Ms.arr 32 (Ms.b8 (dgF dj)) = cj at *
          have S1 : Hid (Ms.ldN 32 wr.drew (.pointer (some ⟨g, o + j * 32, none⟩)) = some cj ∧ Ms.ldN 32 wr.drew (.pointer (some ⟨E, 0, none⟩)) = some (Ms.arr 32 (Ms.b8 (dgF d)))) := ⟨by rw [Ms.ldN_drew]; exact hc, by rw [Ms.ldN_drew]; exact hld⟩
          clear hc hld
          go_wp2_with fail
          generalize decide (d ∈ dn.take j) = kn at *
          have HOn : Hid (OwD wr.drew w.heap.size (.slice (some ⟨g, o, none⟩) dn.length vc) dn) := HO.out.below ((Below.refl _ _).drew)
          have HRn : Hid (Row wr.drew E 31 32 (Ms.b8 (dgF d))) := HR.out
          have HFn := Lib.hid (HF.out.below ((Below.refl _ _).drew))
          have HBn : Hid (Below w.heap.size w wr.drew) := HB.out.drew
          clear HO HR HF HB
          cases kn
          · refine wp_region_pl (fun Y => Ms.ldN 32 Y (.pointer (some ⟨g, o + j * 32, none⟩)) = some cj ∧ Ms.ldN 32 Y (.pointer (some ⟨E, 0, none⟩)) = some (Ms.arr 32 (Ms.b8 (dgF d)))) ((0, 0) :: (1, 0) :: (2, 0) :: (3, 0) :: (4, 0) :: (5, 0) :: (6, 0) :: (7, 0) :: (8, 0) :: (9, 0) :: []) (by kernel_rfl) (by kernel_rfl) ?_
            iterate 10 (apply wpP_go; (focus rfl); (focus rfl); (focus exact S1.out); (focus (rintro Y ⟨s0, s1⟩; go_simp; exact rfl)); intro K hK; go_simp; refine hK _ ?_; clear hK K)
            refine wpP_done ?_
            clear S1 heq
            rw [Bool.false_or] at HKN
            generalize wr.drew = wn at *
            go_wp2_with fail
            go_roundw
            case rel => exact ⟨j + 1, by omega, by rw [HKN.out], by go_num, HOn, HRn, HFn, HBn⟩
            case measure => simp [intOf]; omega
          · refine wp_region_pl (fun Y => Ms.ldN 32 Y (.pointer (some ⟨g, o + j * 32, none⟩)) = some cj ∧ Ms.ldN 32 Y (.pointer (some ⟨E, 0, none⟩)) = some (Ms.arr 32 (Ms.b8 (dgF d)))) ((0, 0) :: (1, 0) :: (2, 0) :: (3, 0) :: (4, 0) :: (5, 0) :: (6, 0) :: (7, 0) :: (8, 0) :: (9, 0) :: []) (by kernel_rfl) (by kernel_rfl) ?_
            iterate 2 (apply wpP_go; (focus rfl); (focus rfl); (focus exact S1.out); (focus (rintro Y ⟨s0, s1⟩; go_simp; exact rfl)); intro K hK; go_simp; refine hK _ ?_; clear hK K)
            iterate 6 (apply wpP_not; (focus rfl); (focus rfl); (focus exact S1.out); intro K hK; go_simp; refine hK _ ?_; clear hK K)
            iterate 2 (apply wpP_go; (focus rfl); (focus rfl); (focus exact S1.out); (focus (rintro Y ⟨s0, s1⟩; go_simp; exact rfl)); intro K hK; go_simp; refine hK _ ?_; clear hK K)
            refine wpP_done ?_
            clear S1 heq
            rw [Bool.true_or] at HKN
            generalize wr.drew = wn at *
            go_wp2_with fail
            go_roundw
            case rel => exact ⟨j + 1, by omega, by rw [HKN.out], by go_num, HOn, HRn, HFn, HBn⟩
            case measure => simp [intOf]; omega
        · have ej : j = dn.length := by omega
          have y1 : ¬ (j : Int) < dn.length := by omega
          rw [ej, List.take_length] at *
          obtain ⟨b1, e1, a1⟩ := di_deny HDI.out (by omega) HD32.out
          have HA1 := Lib.hid a1
          have hld := ld26 HR.out
          have HDY : Hid (Calls Tryz.prog 21 #[fptr M, .agg (Ms.arr 32 (Ms.b8 (dgF d)))] wr fun e w' => e = .returned (.int .i64 (codeD dn d)) ∧ BL wr w' w.heap.size (fun q => (Value.slice va dn.length vc).ownBlock = some q ∨ q = E) M S L (32 + 6 * i + 1) b1) := by
            have := HF.out.deny (n := 32 + 6 * i) HDI.out.cal.blk (by omega) HD32.out
            rw [e1] at this
            exact this
          clear e1 a1
          have FA := Lib.hid (dnx_again dn d)
          have hdn2 := dnx_len (d := d) hdn
          have H32 := Lib.hid (dnx_32 HO.out.2.1 HD32.out)
          go_wp2_with fail
          refine HDY.out.mono ?_
          rintro e w4 ⟨rfl, bl4⟩
          have HO4 := Lib.hid (HO.out.ch bl4.ch (fun g hg q => q (.inl hg)))
          have HR4 := Lib.hid (HR.out.ch bl4.ch (fun q => q (.inr rfl)))
          have HF4 := Lib.hid bl4.bf
          have HB4 : Hid (Below w.heap.size w w4) := HB.out.trans bl4.bel
          have hwp : 0 < w.heap.size := h0
          have hEw4 : w.heap.size ≤ w4.heap.size := HB4.out.size
          clear bl4 HDY HO HR HF HB hld HDI
          obtain ⟨ce, hce⟩ : ∃ c, codeD dn d = c := ⟨_, rfl⟩
          obtain ⟨dn2, hdn2e⟩ : ∃ l, dnx dn d = l := ⟨_, rfl⟩
          rw [hce] at FA ⊢
          rw [hdn2e] at FA HA1 H32 hdn2
          obtain ⟨kn, hkn⟩ : ∃ q, decide (d ∈ dn) = q := ⟨_, rfl⟩
          have HCE := Lib.hid hce
          have HDN := Lib.hid hdn2e
          have HKN := Lib.hid hkn
          rw [hkn]
          clear hce hdn2e hkn
          go_upto_block 4 with fail
          go_cut [7] (fun x wc => Hid (OwD wc w.heap.size x dn2) ∧ Hid (Row wc E 31 32 (Ms.b8 (dgF d))) ∧ Hid (BF wc w.heap.size (fun q => x.ownBlock = some q ∨ q = E) M S L (32 + 6 * i + 1) b1) ∧ Hid (Below w.heap.size w wc))
          case first =>
            by_cases hm : d ∈ dn
            · have e0 : kn = true := by rw [← HKN.out]; exact decide_eq_true hm
              have e1 : ce = 0 := by rw [← HCE.out]; unfold codeD; exact if_pos hm
              have e2 : dn2 = dn := by rw [← HDN.out]; unfold dnx; exact if_pos hm
              subst e0 e1 e2
              clear hm
              go_wp2_with fail
              go_meet
              exact ⟨HO4, HR4, HF4, HB4⟩
            · have e0 : kn = false := by rw [← HKN.out]; exact decide_eq_false hm
              by_cases h4 : 4 ≤ dn.length
              · have e1 : ce = 8 := by rw [← HCE.out]; unfold codeD; rw [if_neg hm, if_pos h4]
                have e2 : dn2 = dn := by rw [← HDN.out]; unfold dnx; rw [if_neg hm, if_pos h4]
                have h4I : (dn.length : Int) ≥ 4 := by omega
                subst e0 e1 e2
                clear hm
                go_wp2_with fail
                go_meet
                exact ⟨HO4, HR4, HF4, HB4⟩
              · have e1 : ce = 0 := by rw [← HCE.out]; unfold codeD; rw [if_neg hm, if_neg h4]
                have e2 : dn2 = dn ++ [d] := by rw [← HDN.out]; unfold dnx; rw [if_neg hm, if_neg h4]
                have h4I : ¬ (dn.length : Int) ≥ 4 := by omega
                subst e0 e1
                have hcl : (Ms.arr 32 (Ms.b8 (dgF d))).toList = bys' d := dg_bys HD32.out
                have hld := ld26 HR4.out
                obtain ⟨i0, hi0, hz0, hz1, hz2⟩ := info_parts Tryz.infoDg
                have HOA : Hid ((w4.alloc (.cells (Ms.arr 32 (Ms.b8 (dgF d))) 31)).ownsRow w.heap.size 31 32 (.slice va dn.length vc) dn.length (bys' dn.flatten)) := ownN_ch HO4.out.1 ((Ch.refl (fun _ => False) w4).alloc _) (fun _ _ h => h)
                have HNW : Hid (∀ j u, (bys' d)[j]? = some u → (w4.alloc (.cells (Ms.arr 32 (Ms.b8 (dgF d))) 31)).cell? ((⟨w4.heap.size, 0, none⟩ : Addr).add j) = some u) := World.news_of_block (heap_alloc_new w4 _) |> fun h => by rw [← hcl]; exact h
                have HB5 : Hid (Below w4.heap.size w4 (w4.alloc (.cells (Ms.arr 32 (Ms.b8 (dgF d))) 31))) := (Below.refl _ _).alloc (Nat.le_refl _) _
                have hdl := HD32.out
                clear hcl hm
                go_wp2_with (at_builtin; refine wpList_append_lies _ rfl _ _ 47 rfl w.heap.size 31 i0 _ 32 32 Tryz.underlying47 hi0 hz0 hz1 hz2 (by kernel_rfl) (by omega) _ dn.length (bys' dn.flatten) rfl (by exact HOA.out) ⟨w4.heap.size, 0, none⟩ 1 1 (bys' d) rfl (by rw [bys'_len, hdl]) (by exact HNW.out) (bys'_one d) (by omega) (by simp only [maxLen]; omega) (by omega) (by simp; omega) (w4.heap.size + 1) (by simp) ?_)
                intro g2 cap2 w6 hown6 hgrow6 hat6 hlt6
                have c6 : Ch (fun k => (Value.slice va dn.length vc).ownBlock = some k) (w4.alloc (.cells (Ms.arr 32 (Ms.b8 (dgF d))) 31)) w6 := Ch.of_grown hgrow6 (fun k hk _ => hk)
                have HO6 : Hid (OwD w6 w.heap.size (.slice (some ⟨g2, 0, none⟩) (dn.length + 1) cap2) dn2) := by
                  refine ⟨?_, H32.out, by omega⟩
                  rw [e2, List.length_append, List.flatten_append, List.flatten_cons, List.flatten_nil, List.append_nil, bys'_app]
                  exact hown6
                have HR6 : Hid (Row w6 E 31 32 (Ms.b8 (dgF d))) := (HR4.out.alloc _).ch c6 (fun q => HVE.out E q rfl)
                have HF6 : Hid (BF w6 w.heap.size (fun q => (Value.slice (some ⟨g2, 0, none⟩) (dn.length + 1) cap2).ownBlock = some q ∨ q = E) M S L (32 + 6 * i + 1) b1) :=
                  ((HF4.out.below HB5.out).grown hgrow6 (fun k hk => ⟨.inl hk, by have := (HOA.out.lt k hk).1; omega⟩) (g := g2) (hat6.imp id (fun e => by rw [e]; simp)) hlt6).less (fun k hk => by
                    rcases hk with hk | hk
                    · right
                      have e : g2 = k := by simpa [Value.ownBlock] using hk
                      exact e.symm
                    · exact .inl (.inr hk))
                have HB6 : Hid (Below w.heap.size w w6) := Below.grown (HB4.out.trans (HB5.out.mono HB4.out.size)) hgrow6 (by simp; omega) (fun k hk => (HOA.out.lt k hk).1)
                clear hown6 hgrow6 hat6 hlt6 c6 hld HOA HNW HB5 e2
                go_wp2_with fail
                go_meet
                exact ⟨HO6, HR6, HF6, HB6⟩
          case rest =>
            clear HO4 HR4 HF4 HB4 HVE
            obtain ⟨HO, HR, HF, HB⟩ := hcut
            obtain ⟨va, vc, rfl⟩ := Ms.own_len HO.out.1
            have HDD : Hid (NewD wc dn2 = NewD wc dn2) := rfl
            have hdnd := HF.out.denied
            rw [HA1.out.dn] at hdnd
            have HDY := Lib.hid hdnd
            clear hdnd HDD
            go_wp2_with fail
            refine HDY.out.mono ?_
            rintro e w7 ⟨v7, rfl, ho7, b7⟩
            have HO7 := Lib.hid (HO.out.below b7)
            have HR7 := Lib.hid (HR.out.ch (Ch.of_below b7 (fun _ => False)) id)
            have HF7 := Lib.hid (HF.out.below b7)
            have HB7 : Hid (Below w.heap.size w w7) := HB.out.trans (b7.mono HB.out.size)
            have HEQ := Lib.hid (equalDg_same ho7.rd HO7.out.rd H32.out)
            obtain ⟨va7, vc7, rfl⟩ := Ms.own_len ho7.1
            clear ho7 b7 HDY HO HR HF HB
            go_wp2_with fail
            refine HEQ.out.mono ?_
            rintro e w8 ⟨rfl, b8⟩
            have HO8 := Lib.hid (HO7.out.below b8)
            have HR8 := Lib.hid (HR7.out.ch (Ch.of_below b8 (fun _ => False)) id)
            have HF8 := Lib.hid (HF7.out.below b8)
            have HB8 : Hid (Below w.heap.size w w8) := HB7.out.trans (b8.mono HB7.out.size)
            have hld := ld26 HR8.out
            obtain ⟨b2, e2, a2⟩ := di_deny HA1.out (by omega) HD32.out
            rw [FA.out.1, ] at e2
            rw [FA.out.2.1] at a2
            have HA2 := Lib.hid a2
            have HDY : Hid (Calls Tryz.prog 21 #[fptr M, .agg (Ms.arr 32 (Ms.b8 (dgF d)))] w8 fun e w' => e = .returned (.int .i64 ce) ∧ BL w8 w' w.heap.size (fun q => (Value.slice va dn2.length vc).ownBlock = some q ∨ q = E) M S L (32 + 6 * i + 1 + 1) b2) := by
              have := HF8.out.deny (n := 32 + 6 * i + 1) HA1.out.cal.blk (by omega) HD32.out
              rw [e2] at this
              exact this
            have hcb : (ce != ce) = false := by simp
            clear b8 HEQ HO7 HR7 HF7 HB7 e2 a2
            go_wp2_with fail
            refine HDY.out.mono ?_
            rintro e w9 ⟨rfl, bl9⟩
            have HO9 := Lib.hid (HO8.out.ch bl9.ch (fun g hg q => q (.inl hg)))
            have HR9 := Lib.hid (HR8.out.ch bl9.ch (fun q => q (.inr rfl)))
            have HF9 := Lib.hid bl9.bf
            have HB9 : Hid (Below w.heap.size w w9) := HB8.out.trans bl9.bel
            obtain ⟨inn, hinn⟩ : ∃ q, decide (d ∈ dn2) = q := ⟨_, rfl⟩
            have HIN : Hid (inn = true ↔ ce = 0) := by
              show _ ↔ _
              rw [← hinn, decide_eq_true_eq]
              exact FA.out.2.2
            have HINN := Lib.hid hinn
            clear bl9 HDY HO8 HR8 HF8 HB8 HA1 hld hinn
            have hcin : (ce == 0) = inn := by
              rw [Bool.eq_iff_iff, beq_iff_eq]
              exact HIN.out.symm
            have hkin : kn = true → inn = true := fun q => HIN.out.2 (by
              rw [← HCE.out]
              have : d ∈ dn := by rw [← HKN.out] at q; exact of_decide_eq_true q
              unfold codeD
              exact if_pos this)
            have HKI := Lib.hid hkin
            clear hkin
            go_upto_region 30 with fail
            go_cut [13] (fun x wd => x = .bool inn ∧ wd = w9)
            case first =>
              cases kn
              · go_wp2_with fail
                go_meet
                exact ⟨rfl, rfl⟩
              · have e0 := HKI.out rfl
                subst e0
                go_wp2_with fail
                go_meet
                exact ⟨rfl, rfl⟩
            case rest =>
              obtain ⟨rfl, rfl⟩ := hcut
              clear hcin HKI HKN HCE HDN FA hcb
              obtain ⟨gd', od', s', e, _, hls', _, hcs⟩ := (HA.out.below HB9.out (Nat.le_refl _)).at hlt
              injection e with e
              injection e with e1 e2 _
              subst e1 e2
              rw [hls] at hls'
              injection hls' with hls'
              subst hls'
              by_cases hs0 : s.size = 0
              · have hem : (s.toList == []) = true := by
                  rw [ByteArray.toList_eq, beq_iff_eq]
                  exact List.eq_nil_of_length_eq_zero (by rw [← bsz]; exact hs0)
                have HFE : Hid (BF wc w.heap.size (fun q => (Value.slice va dn2.length vc).ownBlock = some q) M S L (32 + 6 * (i + 1)) b2) := (HF9.out.less (fun q hq => .inl hq)).mono (by omega)
                clear HF9
                go_wp2_with fail
                go_roundw
                case rel => exact ⟨i + 1, k + 1 + 1, dn2, b2, by omega, by omega, hdn2, by go_num, HO9, HA2, HFE, HB9⟩
                case measure => simp [intOf]; omega
              · have hem : (s.toList == []) = false := by
                  rw [ByteArray.toList_eq]
                  cases hq : s.data.toList with
                  | nil => exact absurd (by rw [bsz, hq]; rfl) hs0
                  | cons x r => rfl
                obtain ⟨p1, p2, p3, p4, ⟨e1, k1⟩, ⟨e2, k2⟩, ⟨e3, k3, d3, s3, l3⟩, e4, a4⟩ := di_boot HA2.out (by omega) HDS.out hs0
                have HA4 := Lib.hid a4
                have HK3 := Lib.hid (And.intro k3 (And.intro d3 (And.intro s3 l3)))
                have hld := ld26 HR9.out
                have HS1 : Hid (Calls Tryz.prog 13 #[fptr M, .agg (Ms.arr 35 (ecl 0 d true 1))] wc fun e w' => e = .returned (.int .i64 0) ∧ BL wc w' w.heap.size (fun q => (Value.slice va dn2.length vc).ownBlock = some q ∨ q = E) M S L (32 + 6 * i + 1 + 1 + 1) p1) := by
                  have := HF9.out.setEntry (n := 32 + 6 * i + 1 + 1) HA2.out.cal.blk (by omega) 0 HD32.out true 1
                  rw [e1] at this
                  exact this
                have HS2 : Hid (∀ W v, BF W w.heap.size (fun q => (Value.slice va dn2.length vc).ownBlock = some q ∨ q = E) M S L (32 + 6 * i + 1 + 1 + 1) p1 → RdI W v [0] → Calls Tryz.prog 15 #[fptr M, v] W fun e w' => e = .returned (.int .i64 0) ∧ BL W w' w.heap.size (fun q => (Value.slice va dn2.length vc).ownBlock = some q ∨ q = E) M S L (32 + 6 * i + 1 + 1 + 1 + 1) p2) := fun W v hF hv => by
                  have := hF.setOrder (n := 32 + 6 * i + 1 + 1 + 1) k1 (by omega) hv.j
                  rw [e2] at this
                  exact this
                have HS3 : Hid (∀ W, BF W w.heap.size (fun q => (Value.slice va dn2.length vc).ownBlock = some q ∨ q = E) M S L (32 + 6 * i + 1 + 1 + 1 + 1) p2 → Calls Tryz.prog 16 #[fptr M] W fun e w' => e = .returned (.int .i64 0) ∧ BL W w' w.heap.size (fun q => (Value.slice va dn2.length vc).ownBlock = some q ∨ q = E) M S L (32 + 6 * i + 1 + 1 + 1 + 1 + 1) p3) := fun W hF => by
                  have := hF.begin (n := 32 + 6 * i + 1 + 1 + 1 + 1) k2 (by omega)
                  rw [e3] at this
                  exact this
                have HTY := Lib.hid e4
                clear e1 k1 e2 k2 e3 k3 d3 s3 l3 e4 a4
                go_wp2_with fail
                refine HS1.out.mono ?_
                rintro e w10 ⟨rfl, bl10⟩
                have HO10 := Lib.hid (HO9.out.ch bl10.ch (fun g hg q => q (.inl hg)))
                have HF10 := Lib.hid bl10.bf
                have HB10 : Hid (Below w.heap.size w w10) := HB9.out.trans bl10.bel
                have HB11 : Hid (Below w10.heap.size w10 (w10.alloc (.cells #[.int .i64 0] 3))) := (Below.refl _ _).alloc (Nat.le_refl _) _
                have HI11 : Hid (RdI (w10.alloc (.cells #[.int .i64 0] 3)) (.slice (some ⟨w10.heap.size, 0, none⟩) 1 1) [0]) := rdI_new w10 _ [0] rfl (by simp)
                clear bl10 HS1 HO9 HF9 HB9 HR9 hld hcs
                go_wp2_with fail
                refine (HS2.out _ _ (HF10.out.below HB11.out) HI11.out).mono ?_
                rintro e w12 ⟨rfl, bl12⟩
                have HO12 := Lib.hid ((HO10.out.below HB11.out).ch bl12.ch (fun g hg q => q (.inl hg)))
                have HF12 := Lib.hid bl12.bf
                have HB12 : Hid (Below w.heap.size w w12) := (HB10.out.trans (HB11.out.mono HB10.out.size)).trans bl12.bel
                clear bl12 HS2 HO10 HF10 HB10 HB11 HI11
                go_wp2_with fail
                refine (HS3.out _ HF12.out).mono ?_
                rintro e w13 ⟨rfl, bl13⟩
                have HO13 := Lib.hid (HO12.out.ch bl13.ch (fun g hg q => q (.inl hg)))
                have HF13 := Lib.hid bl13.bf
                have HB13 : Hid (Below w.heap.size w w13) := HB12.out.trans bl13.bel
                clear bl13 HS3 HO12 HF12 HB12
                obtain ⟨gd', od', s', e, _, hls', _, hcs⟩ := (HA.out.below HB13.out (Nat.le_refl _)).at hlt
                injection e with e
                injection e with e1 e2 _
                subst e1 e2
                rw [hls] at hls'
                injection hls' with hls'
                subst hls'
                have HB14 : Hid (Below w13.heap.size w13 (w13.alloc (.cells #[.string s] 9))) := (Below.refl _ _).alloc (Nat.le_refl _) _
                have HT14 : Hid (RdT (w13.alloc (.cells #[.string s] 9)) (.slice (some ⟨w13.heap.size, 0, none⟩) 1 1) [s]) := rdT_new w13 _ [s] rfl (by simp)
                have HF14 := Lib.hid (HF13.out.add HB14.out (E := w13.heap.size) (Nat.le_refl _) (by simp))
                have HO14 := Lib.hid (HO13.out.below HB14.out)
                have HBW14 : Hid (Below w.heap.size w (w13.alloc (.cells #[.string s] 9))) := HB13.out.trans (HB14.out.mono HB13.out.size)
                obtain ⟨rc, hrc⟩ : ∃ c : Int, (if d ∈ dn2 then (13 : Int) else 0) = c := ⟨_, rfl⟩
                have hri : (inn = true → rc = 13) ∧ (inn = false → rc = 0) := by
                  rw [← hrc, ← HINN.out]
                  refine ⟨fun q => if_pos (of_decide_eq_true q), fun q => if_neg (of_decide_eq_false q)⟩
                have HTC : Hid (Calls Tryz.prog 17 #[fptr M, .slice (some ⟨w13.heap.size, 0, none⟩) 1 1] (w13.alloc (.cells #[.string s] 9)) fun e w' => e = .returned (.tuple #[.agg #[.int .i64 0, .int .i64 rc], .int .i64 0]) ∧ BL (w13.alloc (.cells #[.string s] 9)) w' w.heap.size (fun q => ((Value.slice va dn2.length vc).ownBlock = some q ∨ q = E) ∨ q = w13.heap.size) M S L (32 + 6 * i + 1 + 1 + 1 + 1 + 1 + 1) p4) := by
                  have := HF14.out.try (n := 32 + 6 * i + 1 + 1 + 1 + 1 + 1) HK3.out.1 (by omega) (by rw [HK3.out.2.1]; decide) (by have := HK3.out.2.2.1; omega) (by rw [HK3.out.2.2.2]; decide) HT14.out (fun g hg => .inr (by simpa [Value.ownBlock] using hg.symm)) (fun x hx => by rw [List.mem_singleton.1 hx]; omega)
                  rw [HTY.out, hrc] at this
                  exact this
                clear HO13 HF13 HB13 HB14 HTY hrc HINN
                go_wp2_with fail
                refine HTC.out.mono ?_
                rintro e w15 ⟨rfl, bl15⟩
                have HB16 : Hid (Below w15.heap.size w15 (w15.alloc (.cells #[.int .i64 0, .int .i64 rc] 40))) := (Below.refl _ _).alloc (Nat.le_refl _) _
                have HOE := Lib.hid ((HO14.out.ch bl15.ch (fun g hg q => q (.inl (.inl hg)))).below HB16.out)
                have HFE : Hid (BF (w15.alloc (.cells #[.int .i64 0, .int .i64 rc] 40)) w.heap.size (fun q => (Value.slice va dn2.length vc).ownBlock = some q) M S L (32 + 6 * (i + 1)) p4) := ((bl15.bf.below HB16.out).less (fun q hq => .inl (.inl hq))).mono (by omega)
                have HBE : Hid (Below w.heap.size w (w15.alloc (.cells #[.int .i64 0, .int .i64 rc] 40))) := (HBW14.out.trans bl15.bel).alloc ((HBW14.out.trans bl15.bel).size) _
                have x1 : (w15.alloc (.cells #[.int .i64 0, .int .i64 rc] 40)).cell? ⟨w15.heap.size, 1, none⟩ = some (.int .i64 rc) := (show Row _ _ _ 2 (stp 0 rc) from Row.ofList w15 40 _ _ 2 rfl).cell (i := 1) (by omega)
                clear bl15 HTC HO14 HF14 HBW14 HT14 HB16 hcs
                cases inn
                · have e0 := hri.2 rfl
                  subst e0
                  clear hri
                  go_wp2_with fail
                  generalize w15.alloc (.cells #[.int .i64 0, .int .i64 0] 40) = w16 at *
                  go_roundw
                  case rel => exact ⟨i + 1, k + 1 + 1 + 4, dn2, p4, by omega, by omega, hdn2, by go_num, HOE, HA4, HFE, HBE⟩
                  case measure => simp [intOf]; omega
                · have e0 := hri.1 rfl
                  subst e0
                  clear hri
                  go_wp2_with fail
                  generalize w15.alloc (.cells #[.int .i64 0, .int .i64 13] 40) = w16 at *
                  go_roundw
                  case rel => exact ⟨i + 1, k + 1 + 1 + 4, dn2, p4, by omega, by omega, hdn2, by go_num, HOE, HA4, HFE, HBE⟩
                  case measure => simp [intOf]; omega
    · have y0 : ¬ (i : Int) < len := by omega
      have HAW := Lib.hid (awake_any wr HF.out.rnd HF.out.pos)
      go_wp2_with fail
      refine HAW.out.mono ?_
      rintro e w4 ⟨rfl, b4⟩
      have HB4 : Hid (Below w.heap.size w w4) := HB.out.trans (b4.mono HB.out.size)
      clear b4 HAW
      go_wp2_with fail
      go_ret
      exact ⟨rfl, HB4.out⟩
end Go.Proofs.YtdinbpdpalgohaaGreatDoor
namespace Go.Proofs.YtdinbpdpalgohaaGreatDoor.bootDeniedIsNeverStartedDone
open Go.ChangeShapes Go.WideShapes Go.ChangeAt Go.RowKit Go.Deep
open Go.ChangeMaps (open_string shut_string)

set_option maxRecDepth 100000 in
theorem contract (H : Type) (enc : TypeId × Value → H) (W : World) (base : Nat) (args : Array Value) (ds gs : List (DataW H)) (before : List MemPlace)
    (hval0 : ∀ (j : Nat) t v, Tryz.f4.params[j]? = some t → args[j]? = some v → Value.okWide Tryz.prog W .any base t v)
    (hW : DataW.Whole enc Tryz.prog Tryz.f4.params.toList Rows.bootDeniedIsNeverStartedSpec.vars false W args.toList ds gs before) (hL : laidMetH Tryz.prog Rows.bootDeniedIsNeverStartedRow.laid W) :
    Calls Tryz.prog 4 args W fun e W' => ∃ v, e = .returned v ∧ Rows.bootDeniedIsNeverStartedSpec.post enc Tryz.prog Tryz.f4 false true false false W args v W' := by
  have hR : Ms.Rnd W := rnd_of hL
  have h00 : 0 < W.heap.size := rnd_pos hR
  have hval := hval0
  have hW' := hW
  obtain ⟨p, q, hA0, hV, rfl, hfz, hnd⟩ := hW
  have hA : DataW.TrodAll enc Tryz.prog W 0 (fun _ => true) true Tryz.f4.params.toList args.toList ds p := hA0
  rw [Tryz.params4] at hA hval
  obtain ⟨v0, vs0, d0, ds0, p0, q0, hargs, rfl, rfl, h0, r0⟩ := trodAll_cons hA
  obtain ⟨rfl, rfl, rfl⟩ := trodAll_nil r0
  obtain rfl : args = #[v0] := by cases args; simp_all
  obtain ⟨rfl, rfl⟩ := trodVars_none hV
  obtain ⟨a0, len0, cap0, rfl⟩ := okWide_slice Tryz.underlying37 (hval 0 37 v0 rfl rfl)
  have k0 := h0
  have lt0 : ∀ x ∈ p0, x.block < W.heap.size := by obtain ⟨m, hm⟩ := k0; exact DataW.trod_lt m _ _ _ hm
  obtain ⟨f0, s0⟩ : ∃ f, StrS W a0 len0 cap0 f := by
    obtain ⟨fuel, hf⟩ := h0
    obtain ⟨A, l, c, f, hcs, hs⟩ := open_strl hf
    simp [Value.cells] at hcs
    obtain ⟨rfl, rfl, rfl⟩ := hcs
    exact ⟨f, hs⟩
  clear hA0 hval0
  refine (deniedNever_any a0 len0 cap0 f0 W s0 hR h00).mono fun e W' ⟨he, bel⟩ => ?_
  subst he
  exact ⟨_, rfl, _, _, _, [], _, [], hW', trodAll_mk1 (shut_bool Tryz.underlying4 _), (trodAll_cons_mk (Below.trod laidOut (by kernel_rfl) (of_decide_eq_true (by kernel_rfl)) k0 bel lt0) trodAll_mk0), rfl, bel.frame _, fun h => by cases h⟩

theorem laid_met (os : Os) : laidMet Tryz.prog Rows.bootDeniedIsNeverStartedRow.laid ((laidWorld os).forCall (fun _ _ => 0) ⟨#[], #[.slice none 0 0], []⟩).memory :=
  laidMet_of_run' 8 (by kernel_rfl) (by kernel_rfl)
theorem reads (os : Os) {H : Type} (enc : TypeId × Value → H) : ∃ places, DataW.whole enc Tryz.prog ((laidWorld os).forCall (fun _ _ => 0) ⟨#[], #[.slice none 0 0], []⟩).memory Tryz.f4.params.toList Rows.bootDeniedIsNeverStartedSpec.vars false (#[.slice none 0 0] : Array Value).toList 8 = some ([.nil], [], places) :=
  ⟨[], by kernel_rfl⟩

set_option maxRecDepth 100000 in
theorem lifted (os : Os) (started : os.Started) (H : Type) (enc : TypeId × Value → H) (F : Stop.Interp) :
    ReturnsInHanded {} Tryz.checked os 4 .any ((OpenSpec.ofChange Rows.bootDeniedIsNeverStartedSpec).preRow enc Tryz.prog Tryz.f4 Rows.bootDeniedIsNeverStartedRow.domain false Rows.bootDeniedIsNeverStartedRow.laid) (((OpenSpec.ofChange Rows.bootDeniedIsNeverStartedSpec).at F).post enc Tryz.prog Tryz.f4 false true false false) := by
  obtain ⟨places, hx⟩ := reads os enc
  refine returnsInHanded_of_row (C := Tryz.checked) (s := OpenSpec.ofChange Rows.bootDeniedIsNeverStartedSpec) own started (by kernel_rfl) Tryz.func4
    (witness_row_at (enc := enc) (C := Tryz.checked) false (laidWorld os) #[.slice none 0 0] rfl (by kernel_rfl) (by kernel_rfl) (by kernel_rfl)
      (OpenSpec.preRow_of_cond 8 hx (by kernel_rfl) (fun k hk => by cases hk) (by kernel_rfl) (laid_met os))) ?_
  intro W base args ds gs before hval hW _ _ _ hL _ _
  exact contract H enc W base args ds gs before hval hW hL

theorem said : Rows.BootDeniedIsNeverStartedSaid :=
  OpenClaim.holds_of_cond 4 Tryz.f4 rfl rfl rfl rfl rfl rfl rfl ⟨rfl, rfl, rfl, rfl, rfl⟩ rfl rfl rfl rfl rfl (by kernel_rfl) Tryz.func4 (by kernel_rfl)
    (of_decide_eq_true (by kernel_rfl)) (by unfold Func.isWrapper; first | (rw [if_pos (by decide +kernel)]; kernel_rfl) | (rw [if_neg (by decide +kernel)]; exact ⟨rfl, rfl⟩))
    (fun os started H enc _ F => by rw [OpenClaim.pre_eq_preRow]; exact lifted os started H enc F)

theorem plain (f : FuncId) (fn : Func) (hf : Tryz.pinned.checked.prog.funcNamed "platformfw/platformfwlaw43.BootDeniedIsNeverStarted" = some f) (hfn : Tryz.pinned.checked.prog.funcs[f]? = some fn) :
    true = Tryz.pinned.checked.prog.looks [] ∧ ∀ (j : Nat) t, fn.params[j]? = some t → Tryz.pinned.checked.prog.wantsStandIn t = false := by
  obtain rfl : f = 4 := Option.some.inj ((show Tryz.prog.funcNamed "platformfw/platformfwlaw43.BootDeniedIsNeverStarted" = some 4 by kernel_rfl).symm.trans hf) |>.symm
  obtain rfl : fn = Tryz.f4 := (Option.some.inj (Tryz.func4.symm.trans hfn)).symm
  refine ⟨by kernel_rfl, fun j t ht => ?_⟩
  rw [Tryz.params4] at ht
  have hall : (Tryz.f4.params.all fun t => !Tryz.prog.wantsStandIn t) = true := by kernel_rfl
  rw [Tryz.params4] at hall
  have := Array.all_eq_true_iff_forall_mem.1 hall t (Array.mem_of_getElem? ht)
  show Tryz.prog.wantsStandIn t = false
  simpa using this

theorem proved : Rows.BootDeniedIsNeverStartedCardSaid :=
  Claim7.holds_tied_plain_at .later [] _ _ _ _ said (fun _ h => by cases h) (by kernel_rfl) (fun _ h => by cases h) bootDeniedIsNeverStarted_row_tie rfl ⟨rfl, rfl⟩ (by kernel_rfl) rfl plain (by kernel_rfl)
#print axioms proved
end Go.Proofs.YtdinbpdpalgohaaGreatDoor.bootDeniedIsNeverStartedDone
