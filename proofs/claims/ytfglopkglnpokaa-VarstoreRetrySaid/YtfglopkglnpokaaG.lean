/- Erase. No condition but that the flash lies in memory. -/
import Derived.Test.YtfglopkglnpokaaE
namespace Go.Proofs.Ytfglopkglnpokaa
open Go.RowKit
def tornE (t : Nat) (old : Str) : Str := (List.range old.length).map fun i => old.getD i 0 ||| selB t i
/-- The first k pages of block b erased under a mask. -/
def FL.eras (fl : FL) (b k t : Nat) : FL := { fl with pg := fun c q => if c = b ∧ q < k then tornE t (fl.pg c q) else fl.pg c q }
theorem eras_zero (fl : FL) (b t : Nat) : fl.eras b 0 t = fl := by
  unfold FL.eras
  have : (fun c q => if c = b ∧ q < 0 then tornE t (fl.pg c q) else fl.pg c q) = fl.pg := by funext c q; simp
  rw [this]
theorem eras_put (fl : FL) (b k t : Nat) : (fl.eras b k t).put b k (tornE t (fl.pg b k)) = fl.eras b (k + 1) t := by
  unfold FL.eras FL.put
  have : up2 (fun c q => if c = b ∧ q < k then tornE t (fl.pg c q) else fl.pg c q) b k (tornE t (fl.pg b k)) = fun c q => if c = b ∧ q < k + 1 then tornE t (fl.pg c q) else fl.pg c q := by
    funext c q
    unfold up2
    by_cases e : c = b
    · subst e
      by_cases e2 : q = k
      · subst e2; simp
      · by_cases e3 : q < k
        · simp [e2, e3]; omega
        · have : ¬ q < k + 1 := by omega
          simp [e2, e3, this]
    · simp [e]
  rw [this]
def eraseF (fl : FL) (b : Nat) : Int × FL :=
  if fl.off = true then (16, fl) else if fl.E ≤ fl.er b then (15, fl)
  else if (intF (fl.erd b (fl.er b + 1))).1 = false then (0, (intF (fl.erd b (fl.er b + 1))).2.eras b fl.P 18446744073709551615) else (16, (intF (fl.erd b (fl.er b + 1))).2.eras b fl.P fl.torn)
theorem tornE_len (t : Nat) (l : Str) : (tornE t l).length = l.length := by simp [tornE]
section
variable {w : World} {D : Nat → Prop} {X : Nat} {y : FLay} {fl : FL}
set_option maxRecDepth 100000 in
set_option maxHeartbeats 8000000 in
theorem erase_any (h : FW w D X y fl) {b : Nat} (hb : b < fl.B) :
    Calls Try.prog 46 #[fptr X, .int .i64 b] w fun e w' => e = .returned (.int .i64 (eraseF fl b).1) ∧ FW w' D X y (eraseF fl b).2 ∧ Ch D w w' := by
  have c3 := h.c3
  have c4 := h.c4
  have hcb := h.cb
  have hB := h.hB
  have hP := h.hP
  have hcp := h.cp b hb
  have hbI : (b : Int) < fl.B := by omega
  have HB := Lib.hid (isBlock_any h hb)
  have H := Lib.hid h
  cases ho : fl.off
  · rw [ho] at c4
    have her := h.her b hb
    have hE := h.hE
    have S0 : Hid (w.drew.cell? ⟨y.gb, b * 2 + 1, none⟩ = some (.int .i64 (fl.er b)) ∧ w.drew.cell? ⟨X, 2, none⟩ = some (.int .i64 fl.E)) := ⟨h.ce hb, h.c2⟩
    clear h
    go_enter Try.func46, Try.ntmps46
    go_wp2_with fail
    refine HB.out.mono ?_
    rintro e w' ⟨rfl, rfl⟩
    go_wp2_with fail
    refine wp_region_pl (fun Y => Y.cell? ⟨y.gb, b * 2 + 1, none⟩ = some (.int .i64 (fl.er b)) ∧ Y.cell? ⟨X, 2, none⟩ = some (.int .i64 fl.E)) ((0, 0) :: (1, 0) :: (2, 0) :: (3, 0) :: (4, 0) :: (5, 0) :: (6, 0) :: (7, 0) :: (8, 0) :: (9, 0) :: []) (by kernel_rfl) (by kernel_rfl) ?_
    iterate 10 (apply wpP_go; (focus rfl); (focus rfl); (focus exact S0.out); (focus (rintro Z ⟨s0, s1⟩; go_simp; exact rfl)); intro K hK; go_simp; refine hK _ ?_; clear hK K)
    refine wpP_done ?_
    have Hd := Lib.hid H.out.drew
    have Kd : Hid (Ch D w w.drew) := (Ch.refl D w).drew
    clear S0 c3 c4 H HB
    generalize w.drew = V at *
    by_cases hful : fl.E ≤ fl.er b
    · have hfI : (fl.E : Int) ≤ (fl.er b : Int) := by omega
      have HPF : Hid (eraseF fl b = (15, fl)) := by
        show _ = _
        unfold eraseF
        rw [if_neg (by rw [ho]; simp), if_pos hful]
      have hd1 : decide ((fl.er b : Int) ≥ (fl.E : Int)) = true := by simpa using hful
      go_wp2_with fail
      go_ret
      rw [HPF.out]
      exact ⟨rfl, Hd.out, Kd.out⟩
    · have hd1 : decide ((fl.er b : Int) ≥ (fl.E : Int)) = false := by simpa using hful
      obtain ⟨ev, hev⟩ : ∃ ev, fl.er b = ev := ⟨_, rfl⟩
      have ce : V.cell? ⟨y.gb, b * 2 + 1, none⟩ = some (.int .i64 ev) := by rw [← hev]; exact Hd.out.ce hb
      have fe := Hd.out.blk.frozen (b * 2 + 1)
      have h1 : FW (V.setCell ⟨y.gb, b * 2 + 1, none⟩ (.int .i64 ((ev : Int) + 1))) D X y (fl.erd b (ev + 1)) := by
        have := Hd.out.setEr (v := ev + 1) hb (by omega)
        exact this
      have HPF : Hid (eraseF fl b = if (intF (fl.erd b (ev + 1))).1 = false then (0, (intF (fl.erd b (ev + 1))).2.eras b fl.P 18446744073709551615) else (16, (intF (fl.erd b (ev + 1))).2.eras b fl.P fl.torn)) := by
        show _ = _
        unfold eraseF
        rw [if_neg (by rw [ho]; simp), if_neg hful, hev]
      have K1 : Hid (Ch D w (V.setCell ⟨y.gb, b * 2 + 1, none⟩ (.int .i64 ((ev : Int) + 1)))) := Kd.out.setCell (p := ⟨y.gb, b * 2 + 1, none⟩) (fun _ => Hd.out.db) _
      have HI := Lib.hid (interrupted_any h1)
      obtain ⟨sB, sP, sE, sp, se, st⟩ := intF_same (fl.erd b (ev + 1))
      have SB : Hid ((intF (fl.erd b (ev + 1))).2.B = fl.B) := sB
      have SP : Hid ((intF (fl.erd b (ev + 1))).2.P = fl.P) := sP
      have ST : Hid ((intF (fl.erd b (ev + 1))).2.torn = fl.torn) := st
      have hevl : ev ≤ 1048576 := by omega
      rw [hev] at hd1 ⊢
      have hevE : (ev : Int) < fl.E := by omega
      obtain ⟨i1, hi1⟩ : ∃ i1, (intF (fl.erd b (ev + 1))).1 = i1 := ⟨_, rfl⟩
      obtain ⟨f2, hf2⟩ : ∃ f2, (intF (fl.erd b (ev + 1))).2 = f2 := ⟨_, rfl⟩
      rw [hi1, hf2] at HI HPF
      rw [hf2] at SB SP ST
      clear hf2 hi1 sB sP sE sp se st h1 hev Kd Hd hful her
      cases i1
      · rw [if_pos rfl] at HPF
        go_wp2_with fail
        refine HI.out.mono ?_
        rintro e w2 ⟨rfl, h2, k2⟩
        have hb2 : b < f2.B := by rw [SB.out]; exact hb
        have H2 : Hid (FW w2 D X y (f2.eras b 0 18446744073709551615)) := by rw [eras_zero]; exact h2
        have K2 : Hid (Ch D w w2) := K1.out.trans k2
        have cs : w2.cell? ⟨y.gb, b * 2, none⟩ = some (.slice (some ⟨y.g b, 0, none⟩) fl.P (y.cp b)) := by rw [← SP.out]; exact h2.cs hb2
        have hm0 : 18446744073709551615 ≤ 18446744073709551615 := Nat.le_refl _
        clear h2 k2
        clear HI K1 ce fe
        go_wp2_with fail
        clear cs
        go_loopw [54] (fun z wr => ∃ k : Nat, k ≤ fl.P ∧ z = .int .i64 (k : Int) ∧ Hid (FW wr D X y (f2.eras b k 18446744073709551615)) ∧ Hid (Ch D w wr)) (fun z _ => fl.P - (intOf z).toNat)
        case atStart => exact ⟨0, by omega, rfl, H2, K2⟩
        case round =>
          clear H2 K2
          obtain ⟨k, hk, rfl, H2, K2⟩ := hrel
          by_cases hkP : k < fl.P
          · have y0 : (k : Int) < fl.P := by omega
            have hk2 : k < f2.P := by rw [SP.out]; exact hkP
            obtain ⟨old, hold⟩ : ∃ old : ByteArray, old = ⟨((f2.eras b k 18446744073709551615).pg b k).toArray⟩ := ⟨_, rfl⟩
            have epg : (f2.eras b k 18446744073709551615).pg b k = f2.pg b k := by simp [FL.eras]
            have hol : old.data.toList = f2.pg b k := by rw [hold, ← epg]
            have hos : old.size = 64 := by
              have := H2.out.len b k hb2 hk2
              rw [hold]; simpa [ByteArray.size] using this
            have cg : wr.cell? ⟨y.g b, k, none⟩ = some (.string old) := by
              rw [hold]; exact H2.out.cg hb2 hk2
            obtain ⟨cap, w3, hcv, hc1, hc2, hbt, hbel⟩ := conv_bytes wr old (by omega)
            rw [hos] at hcv hc1 hbt
            have hDg : Hid (¬ D wr.heap.size) := fun hk => by have := H2.out.fin _ hk; omega
            have H3 := Lib.hid (H2.out.below hbel)
            have K3 : Hid (Ch D w w3) := K2.out.trans (Ch.of_below hbel _)
            have hgW : w.heap.size ≤ wr.heap.size := K2.out.size
            have hg3 : wr.heap.size < w3.heap.size := hbt.lt
            have HOL := Lib.hid hol
            have HBT0 : Hid (∃ c : Str, Bt w3 wr.heap.size 64 c ∧ ∀ j, j < 64 → c.getD j 0 = if j < 0 then old.data.toList.getD j 0 ||| selB 18446744073709551615 j else old.data.toList.getD j 0) := ⟨_, hbt, fun j hj => by rw [if_neg (by omega)]⟩
            obtain ⟨g, hg⟩ : ∃ g, wr.heap.size = g := ⟨_, rfl⟩
            rw [hg] at hcv HBT0 hgW hDg hg3
            clear hbt hbel hold hol epg H2 K2
            go_wp2_with fail
            clear hcv hg cg
            go_loopw [63] (fun z wr => ∃ i : Nat, i ≤ 64 ∧ z = .int .i64 (i : Int) ∧ Hid (∃ c : Str, Bt wr g 64 c ∧ ∀ j, j < 64 → c.getD j 0 = if j < i then old.data.toList.getD j 0 ||| selB 18446744073709551615 j else old.data.toList.getD j 0) ∧ Hid (FW wr D X y (f2.eras b k 18446744073709551615)) ∧ Hid (Ch D w wr)) (fun z _ => 64 - (intOf z).toNat)
            case atStart => exact ⟨0, by omega, rfl, HBT0, H3, K3⟩
            case round =>
              clear H3 K3 HBT0
              obtain ⟨i, hi, rfl, HBT, H3, K3⟩ := hrel
              by_cases hi7 : i < 64
              · have z0 : (i : Int) < 64 := by omega
                obtain ⟨c, hbt, hcj⟩ := HBT.out
                obtain ⟨oi, hoi⟩ : ∃ oi : UInt8, oi = old.data.toList.getD i 0 := ⟨_, rfl⟩
                have hci : c.getD i 0 = oi := by rw [hcj i hi7, if_neg (by omega), hoi]
                obtain ⟨ss, hss⟩ : ∃ ss : UInt8, ss = selB 18446744073709551615 i := ⟨_, rfl⟩
                obtain ⟨a3, ha3⟩ : ∃ a : UInt8, a = oi ||| ss := ⟨_, rfl⟩
                have e3 : bits .or .u8 (oi.toNat : Int) (ss.toNat : Int) = (a3.toNat : Int) := by rw [ha3]; exact b_or _ _
                have cb := hbt.cell hi7
                have fb := hbt.frozen hi7
                rw [hci] at cb
                have HNX : Hid (∃ c : Str, Bt (wr.setCell ⟨g, i, none⟩ (.int .u8 (a3.toNat : Int))).drew g 64 c ∧ ∀ j, j < 64 → c.getD j 0 = if j < i + 1 then old.data.toList.getD j 0 ||| selB 18446744073709551615 j else old.data.toList.getD j 0) := by
                  refine ⟨_, (hbt.ch (w' := wr.drew) ((Ch.refl (fun _ => False) wr).drew) id).set hi7 _, fun j hj => ?_⟩
                  have hcl : c.length = 64 := by obtain ⟨_, _, _, h1, _⟩ := hbt; exact h1
                  by_cases e : j = i
                  · subst e
                    rw [if_pos (by omega), List.getD_eq_getElem?_getD, List.getElem?_set_self (by omega), ← hoi, ← hss]
                    exact ha3
                  · rw [List.getD_eq_getElem?_getD, List.getElem?_set_ne (Ne.symm e), ← List.getD_eq_getElem?_getD, hcj j hj]
                    by_cases e2 : j < i
                    · rw [if_pos e2, if_pos (by omega)]
                    · rw [if_neg e2, if_neg (by omega)]
                have H3n : Hid (FW (wr.setCell ⟨g, i, none⟩ (.int .u8 (a3.toNat : Int))).drew D X y (f2.eras b k 18446744073709551615)) :=
                  H3.out.ch (((Ch.refl (fun k => k = g) wr).drew).setCell (p := ⟨g, i, none⟩) (fun _ => rfl) _) (fun k hk e => hDg.out (by rw [← e]; exact hk))
                have K3n : Hid (Ch D w (wr.setCell ⟨g, i, none⟩ (.int .u8 (a3.toNat : Int))).drew) :=
                  (K3.out.drew).setCell (p := ⟨g, i, none⟩) (fun h => by have : g < w.heap.size := h; omega) _
                have HSEL : Hid (∀ Y : World, Calls Try.prog 66 #[.int .u64 18446744073709551615, .int .i64 (i : Int)] Y fun e w' => e = .returned (.int .u8 (ss.toNat : Int)) ∧ Y = w') := fun Y => by
                  have := selected_any 18446744073709551615 i Y hi7
                  have e : ((18446744073709551615 / 2 ^ (8 * (i % 8)) % 256 : Nat) : Int) = (ss.toNat : Int) := by
                    rw [hss]
                    unfold selB
                    rw [u8_of (by omega)]
                  rw [e] at this
                  exact this
                have S0 : Hid (wr.drew.cell? ⟨g, i, none⟩ = some (.int .u8 (oi.toNat : Int))) := cb
                have cb' : wr.drew.cell? ⟨g, i, none⟩ = some (.int .u8 (oi.toNat : Int)) := cb
                have fb' : wr.drew.frozen? ⟨g, i, none⟩ = false := fb
                clear hbt hcj hci hoi cb fb HBT H3 K3 ha3 hss
                go_wp2_with fail
                refine wp_region_pl (fun Y => Y.cell? ⟨g, i, none⟩ = some (.int .u8 (oi.toNat : Int))) ((0, 0) :: (1, 0) :: (2, 0) :: (3, 0) :: (4, 0) :: (5, 0) :: (6, 0) :: (7, 0) :: (8, 0) :: (9, 2) :: []) (by kernel_rfl) (by kernel_rfl) ?_
                iterate 6 (apply wpP_go; (focus rfl); (focus rfl); (focus exact S0.out); (focus (rintro Z s0; go_simp; exact rfl)); intro K hK; go_simp; refine hK _ ?_; clear hK K)
                apply wpP_call
                focus rfl
                focus rfl
                focus exact S0.out
                focus (rintro Z s0; go_simp; exact ⟨rfl, rfl⟩)
                focus (intro Z _; exact HSEL.out Z)
                intro K hK
                go_simp
                refine hK _ ?_
                clear hK K
                iterate 2 (apply wpP_go; (focus rfl); (focus rfl); (focus exact S0.out); (focus (rintro Z s0; go_simp; exact rfl)); intro K hK; go_simp; refine hK _ ?_; clear hK K)
                apply wpP_two
                focus rfl
                intro K hK
                go_simp
                refine hK _ _ ?_
                clear hK K
                refine wpP_done ?_
                clear S0 cb' fb' e3 HSEL
                generalize (wr.setCell ⟨g, i, none⟩ (.int .u8 (a3.toNat : Int))).drew = V at *
                go_wp2_with fail
                go_roundw
                case rel => exact ⟨i + 1, by omega, by go_num, HNX, H3n, K3n⟩
                case measure => simp [intOf]; omega
              · have z0 : ¬ (i : Int) < 64 := by omega
                obtain ⟨c, hbt, hcj⟩ := HBT.out
                have hcl : c.length = 64 := by obtain ⟨_, _, _, h1, _⟩ := hbt; exact h1
                have hce : c = tornE 18446744073709551615 (f2.pg b k) := by
                  have hol : (f2.pg b k).length = 64 := by rw [← HOL.out, Array.length_toList]; exact hos
                  apply List.ext_getElem
                  · rw [tornE, List.length_map, List.length_range, hol, hcl]
                  · intro j h1 h2
                    have hj : j < 64 := by omega
                    have := hcj j hj
                    rw [if_pos (by omega), HOL.out, List.getD_eq_getElem?_getD, List.getElem?_eq_getElem h1] at this
                    simp only [Option.getD_some] at this
                    rw [this]
                    have h3 : (tornE 18446744073709551615 (f2.pg b k))[j]? = some ((f2.pg b k).getD j 0 ||| selB 18446744073709551615 j) := by
                      unfold tornE
                      rw [List.getElem?_map, List.getElem?_range (by omega)]
                      rfl
                    rw [List.getElem?_eq_getElem h2] at h3
                    exact (Option.some.inj h3).symm
                subst hce
                have hcs := hbt.str (w := wr.drew) cap
                obtain ⟨new, hnew⟩ : ∃ new : ByteArray, new = ⟨(tornE 18446744073709551615 (f2.pg b k)).toArray⟩ := ⟨_, rfl⟩
                rw [← hnew] at hcs
                have h3 := H3.out.drew
                have hcs2 : wr.drew.cell? ⟨y.gb, b * 2, none⟩ = some (.slice (some ⟨y.g b, 0, none⟩) fl.P (y.cp b)) := by rw [← SP.out]; exact h3.cs hb2
                have cg : wr.drew.cell? ⟨y.g b, k, none⟩ = some (str ((f2.eras b k 18446744073709551615).pg b k)) := h3.cg hb2 hk2
                have fg := (h3.pag b hb2).frozen k
                have HS : Hid (FW (wr.setCell ⟨y.g b, k, none⟩ (.string new)).drew D X y (f2.eras b (k + 1) 18446744073709551615)) := by
                  have := h3.setPg (p := k) hb2 hk2 (s := tornE 18446744073709551615 (f2.pg b k)) hcl
                  rw [eras_put] at this
                  rw [hnew]
                  exact this
                have HK : Hid (Ch D w (wr.setCell ⟨y.g b, k, none⟩ (.string new)).drew) := (K3.out.drew).setCell (p := ⟨y.g b, k, none⟩) (fun _ => h3.dg b hb2) _
                have S0 : Hid (wr.drew.cell? ⟨y.gb, b * 2, none⟩ = some (.slice (some ⟨y.g b, 0, none⟩) fl.P (y.cp b)) ∧ (convert 78 9 (.slice (some ⟨g, 0, none⟩) 64 cap)).run Try.prog wr.drew = .ok (.string new) wr.drew) := ⟨hcs2, hcs⟩
                clear h3 hbt hcj hnew hcl HBT H3 K3
                go_wp2_with fail
                refine wp_region_pl (fun Y => Y.cell? ⟨y.gb, b * 2, none⟩ = some (.slice (some ⟨y.g b, 0, none⟩) fl.P (y.cp b)) ∧ (convert 78 9 (.slice (some ⟨g, 0, none⟩) 64 cap)).run Try.prog Y = .ok (.string new) Y) ((0, 0) :: (1, 0) :: (2, 0) :: (3, 0) :: (4, 0) :: (5, 0) :: (6, 0) :: (7, 0) :: (8, 2) :: []) (by kernel_rfl) (by kernel_rfl) ?_
                iterate 8 (apply wpP_go; (focus rfl); (focus rfl); (focus exact S0.out); (focus (rintro Z ⟨s0, s1⟩; go_simp; exact rfl)); intro K hK; go_simp; refine hK _ ?_; clear hK K)
                apply wpP_two
                focus rfl
                intro K hK
                go_simp
                refine hK _ _ ?_
                clear hK K
                refine wpP_done ?_
                clear S0 hcs2 cg fg hcs
                generalize (wr.setCell ⟨y.g b, k, none⟩ (.string new)).drew = V at *
                go_wp2_with fail
                exact ⟨⟨k + 1, by omega, by go_num, HS, HK⟩, by simp [intOf]; omega⟩
          · have y0 : ¬ (k : Int) < fl.P := by omega
            have ek : k = fl.P := by omega
            go_wp2_with fail
            go_ret
            rw [HPF.out]
            subst ek
            exact ⟨rfl, H2.out, K2.out⟩
      · rw [if_neg (by simp)] at HPF
        go_wp2_with fail
        refine HI.out.mono ?_
        rintro e w2 ⟨rfl, h2, k2⟩
        have hb2 : b < f2.B := by rw [SB.out]; exact hb
        have H2 : Hid (FW w2.drew D X y (f2.eras b 0 fl.torn)) := by rw [eras_zero]; exact h2.drew
        have K2 : Hid (Ch D w w2.drew) := (K1.out.trans k2).drew
        have S1 : Hid (w2.drew.cell? ⟨X, 7, none⟩ = some (.int .u64 (fl.torn : Int))) := by rw [← ST.out]; exact h2.c7
        have hm0 : fl.torn ≤ 18446744073709551615 := by rw [← ST.out]; exact h2.ht
        have S2 : Hid (∀ Y, Y = w2.drew → Y.cell? ⟨y.gb, b * 2, none⟩ = some (.slice (some ⟨y.g b, 0, none⟩) fl.P (y.cp b))) := fun Y e => by rw [e, ← SP.out]; exact h2.cs hb2
        clear h2 k2
        go_wp2_with fail
        refine wp_region_pl (fun Y => Y.cell? ⟨X, 7, none⟩ = some (.int .u64 (fl.torn : Int))) ((0, 0) :: (1, 0) :: (2, 0) :: (3, 0) :: (4, 0) :: (5, 0) :: []) (by kernel_rfl) (by kernel_rfl) ?_
        iterate 6 (apply wpP_go; (focus rfl); (focus rfl); (focus exact S1.out); (focus (rintro Z s0; go_simp; exact rfl)); intro K hK; go_simp; refine hK _ ?_; clear hK K)
        refine wpP_done ?_
        have cs := S2.out _ rfl
        clear S1 S2
        generalize w2.drew = w2 at *
        clear HI K1 ce fe
        go_wp2_with fail
        clear cs
        go_loopw [54] (fun z wr => ∃ k : Nat, k ≤ fl.P ∧ z = .int .i64 (k : Int) ∧ Hid (FW wr D X y (f2.eras b k fl.torn)) ∧ Hid (Ch D w wr)) (fun z _ => fl.P - (intOf z).toNat)
        case atStart => exact ⟨0, by omega, rfl, H2, K2⟩
        case round =>
          clear H2 K2
          obtain ⟨k, hk, rfl, H2, K2⟩ := hrel
          by_cases hkP : k < fl.P
          · have y0 : (k : Int) < fl.P := by omega
            have hk2 : k < f2.P := by rw [SP.out]; exact hkP
            obtain ⟨old, hold⟩ : ∃ old : ByteArray, old = ⟨((f2.eras b k fl.torn).pg b k).toArray⟩ := ⟨_, rfl⟩
            have epg : (f2.eras b k fl.torn).pg b k = f2.pg b k := by simp [FL.eras]
            have hol : old.data.toList = f2.pg b k := by rw [hold, ← epg]
            have hos : old.size = 64 := by
              have := H2.out.len b k hb2 hk2
              rw [hold]; simpa [ByteArray.size] using this
            have cg : wr.cell? ⟨y.g b, k, none⟩ = some (.string old) := by
              rw [hold]; exact H2.out.cg hb2 hk2
            obtain ⟨cap, w3, hcv, hc1, hc2, hbt, hbel⟩ := conv_bytes wr old (by omega)
            rw [hos] at hcv hc1 hbt
            have hDg : Hid (¬ D wr.heap.size) := fun hk => by have := H2.out.fin _ hk; omega
            have H3 := Lib.hid (H2.out.below hbel)
            have K3 : Hid (Ch D w w3) := K2.out.trans (Ch.of_below hbel _)
            have hgW : w.heap.size ≤ wr.heap.size := K2.out.size
            have hg3 : wr.heap.size < w3.heap.size := hbt.lt
            have HOL := Lib.hid hol
            have HBT0 : Hid (∃ c : Str, Bt w3 wr.heap.size 64 c ∧ ∀ j, j < 64 → c.getD j 0 = if j < 0 then old.data.toList.getD j 0 ||| selB fl.torn j else old.data.toList.getD j 0) := ⟨_, hbt, fun j hj => by rw [if_neg (by omega)]⟩
            obtain ⟨g, hg⟩ : ∃ g, wr.heap.size = g := ⟨_, rfl⟩
            rw [hg] at hcv HBT0 hgW hDg hg3
            clear hbt hbel hold hol epg H2 K2
            go_wp2_with fail
            clear hcv hg cg
            go_loopw [63] (fun z wr => ∃ i : Nat, i ≤ 64 ∧ z = .int .i64 (i : Int) ∧ Hid (∃ c : Str, Bt wr g 64 c ∧ ∀ j, j < 64 → c.getD j 0 = if j < i then old.data.toList.getD j 0 ||| selB fl.torn j else old.data.toList.getD j 0) ∧ Hid (FW wr D X y (f2.eras b k fl.torn)) ∧ Hid (Ch D w wr)) (fun z _ => 64 - (intOf z).toNat)
            case atStart => exact ⟨0, by omega, rfl, HBT0, H3, K3⟩
            case round =>
              clear H3 K3 HBT0
              obtain ⟨i, hi, rfl, HBT, H3, K3⟩ := hrel
              by_cases hi7 : i < 64
              · have z0 : (i : Int) < 64 := by omega
                obtain ⟨c, hbt, hcj⟩ := HBT.out
                obtain ⟨oi, hoi⟩ : ∃ oi : UInt8, oi = old.data.toList.getD i 0 := ⟨_, rfl⟩
                have hci : c.getD i 0 = oi := by rw [hcj i hi7, if_neg (by omega), hoi]
                obtain ⟨ss, hss⟩ : ∃ ss : UInt8, ss = selB fl.torn i := ⟨_, rfl⟩
                obtain ⟨a3, ha3⟩ : ∃ a : UInt8, a = oi ||| ss := ⟨_, rfl⟩
                have e3 : bits .or .u8 (oi.toNat : Int) (ss.toNat : Int) = (a3.toNat : Int) := by rw [ha3]; exact b_or _ _
                have cb := hbt.cell hi7
                have fb := hbt.frozen hi7
                rw [hci] at cb
                have HNX : Hid (∃ c : Str, Bt (wr.setCell ⟨g, i, none⟩ (.int .u8 (a3.toNat : Int))).drew g 64 c ∧ ∀ j, j < 64 → c.getD j 0 = if j < i + 1 then old.data.toList.getD j 0 ||| selB fl.torn j else old.data.toList.getD j 0) := by
                  refine ⟨_, (hbt.ch (w' := wr.drew) ((Ch.refl (fun _ => False) wr).drew) id).set hi7 _, fun j hj => ?_⟩
                  have hcl : c.length = 64 := by obtain ⟨_, _, _, h1, _⟩ := hbt; exact h1
                  by_cases e : j = i
                  · subst e
                    rw [if_pos (by omega), List.getD_eq_getElem?_getD, List.getElem?_set_self (by omega), ← hoi, ← hss]
                    exact ha3
                  · rw [List.getD_eq_getElem?_getD, List.getElem?_set_ne (Ne.symm e), ← List.getD_eq_getElem?_getD, hcj j hj]
                    by_cases e2 : j < i
                    · rw [if_pos e2, if_pos (by omega)]
                    · rw [if_neg e2, if_neg (by omega)]
                have H3n : Hid (FW (wr.setCell ⟨g, i, none⟩ (.int .u8 (a3.toNat : Int))).drew D X y (f2.eras b k fl.torn)) :=
                  H3.out.ch (((Ch.refl (fun k => k = g) wr).drew).setCell (p := ⟨g, i, none⟩) (fun _ => rfl) _) (fun k hk e => hDg.out (by rw [← e]; exact hk))
                have K3n : Hid (Ch D w (wr.setCell ⟨g, i, none⟩ (.int .u8 (a3.toNat : Int))).drew) :=
                  (K3.out.drew).setCell (p := ⟨g, i, none⟩) (fun h => by have : g < w.heap.size := h; omega) _
                have HSEL : Hid (∀ Y : World, Calls Try.prog 66 #[.int .u64 (fl.torn : Int), .int .i64 (i : Int)] Y fun e w' => e = .returned (.int .u8 (ss.toNat : Int)) ∧ Y = w') := fun Y => by
                  have := selected_any fl.torn i Y hi7
                  have e : ((fl.torn / 2 ^ (8 * (i % 8)) % 256 : Nat) : Int) = (ss.toNat : Int) := by
                    rw [hss]
                    unfold selB
                    rw [u8_of (by omega)]
                  rw [e] at this
                  exact this
                have S0 : Hid (wr.drew.cell? ⟨g, i, none⟩ = some (.int .u8 (oi.toNat : Int))) := cb
                have cb' : wr.drew.cell? ⟨g, i, none⟩ = some (.int .u8 (oi.toNat : Int)) := cb
                have fb' : wr.drew.frozen? ⟨g, i, none⟩ = false := fb
                clear hbt hcj hci hoi cb fb HBT H3 K3 ha3 hss
                go_wp2_with fail
                refine wp_region_pl (fun Y => Y.cell? ⟨g, i, none⟩ = some (.int .u8 (oi.toNat : Int))) ((0, 0) :: (1, 0) :: (2, 0) :: (3, 0) :: (4, 0) :: (5, 0) :: (6, 0) :: (7, 0) :: (8, 0) :: (9, 2) :: []) (by kernel_rfl) (by kernel_rfl) ?_
                iterate 6 (apply wpP_go; (focus rfl); (focus rfl); (focus exact S0.out); (focus (rintro Z s0; go_simp; exact rfl)); intro K hK; go_simp; refine hK _ ?_; clear hK K)
                apply wpP_call
                focus rfl
                focus rfl
                focus exact S0.out
                focus (rintro Z s0; go_simp; exact ⟨rfl, rfl⟩)
                focus (intro Z _; exact HSEL.out Z)
                intro K hK
                go_simp
                refine hK _ ?_
                clear hK K
                iterate 2 (apply wpP_go; (focus rfl); (focus rfl); (focus exact S0.out); (focus (rintro Z s0; go_simp; exact rfl)); intro K hK; go_simp; refine hK _ ?_; clear hK K)
                apply wpP_two
                focus rfl
                intro K hK
                go_simp
                refine hK _ _ ?_
                clear hK K
                refine wpP_done ?_
                clear S0 cb' fb' e3 HSEL
                generalize (wr.setCell ⟨g, i, none⟩ (.int .u8 (a3.toNat : Int))).drew = V at *
                go_wp2_with fail
                go_roundw
                case rel => exact ⟨i + 1, by omega, by go_num, HNX, H3n, K3n⟩
                case measure => simp [intOf]; omega
              · have z0 : ¬ (i : Int) < 64 := by omega
                obtain ⟨c, hbt, hcj⟩ := HBT.out
                have hcl : c.length = 64 := by obtain ⟨_, _, _, h1, _⟩ := hbt; exact h1
                have hce : c = tornE fl.torn (f2.pg b k) := by
                  have hol : (f2.pg b k).length = 64 := by rw [← HOL.out, Array.length_toList]; exact hos
                  apply List.ext_getElem
                  · rw [tornE, List.length_map, List.length_range, hol, hcl]
                  · intro j h1 h2
                    have hj : j < 64 := by omega
                    have := hcj j hj
                    rw [if_pos (by omega), HOL.out, List.getD_eq_getElem?_getD, List.getElem?_eq_getElem h1] at this
                    simp only [Option.getD_some] at this
                    rw [this]
                    have h3 : (tornE fl.torn (f2.pg b k))[j]? = some ((f2.pg b k).getD j 0 ||| selB fl.torn j) := by
                      unfold tornE
                      rw [List.getElem?_map, List.getElem?_range (by omega)]
                      rfl
                    rw [List.getElem?_eq_getElem h2] at h3
                    exact (Option.some.inj h3).symm
                subst hce
                have hcs := hbt.str (w := wr.drew) cap
                obtain ⟨new, hnew⟩ : ∃ new : ByteArray, new = ⟨(tornE fl.torn (f2.pg b k)).toArray⟩ := ⟨_, rfl⟩
                rw [← hnew] at hcs
                have h3 := H3.out.drew
                have hcs2 : wr.drew.cell? ⟨y.gb, b * 2, none⟩ = some (.slice (some ⟨y.g b, 0, none⟩) fl.P (y.cp b)) := by rw [← SP.out]; exact h3.cs hb2
                have cg : wr.drew.cell? ⟨y.g b, k, none⟩ = some (str ((f2.eras b k fl.torn).pg b k)) := h3.cg hb2 hk2
                have fg := (h3.pag b hb2).frozen k
                have HS : Hid (FW (wr.setCell ⟨y.g b, k, none⟩ (.string new)).drew D X y (f2.eras b (k + 1) fl.torn)) := by
                  have := h3.setPg (p := k) hb2 hk2 (s := tornE fl.torn (f2.pg b k)) hcl
                  rw [eras_put] at this
                  rw [hnew]
                  exact this
                have HK : Hid (Ch D w (wr.setCell ⟨y.g b, k, none⟩ (.string new)).drew) := (K3.out.drew).setCell (p := ⟨y.g b, k, none⟩) (fun _ => h3.dg b hb2) _
                have S0 : Hid (wr.drew.cell? ⟨y.gb, b * 2, none⟩ = some (.slice (some ⟨y.g b, 0, none⟩) fl.P (y.cp b)) ∧ (convert 78 9 (.slice (some ⟨g, 0, none⟩) 64 cap)).run Try.prog wr.drew = .ok (.string new) wr.drew) := ⟨hcs2, hcs⟩
                clear h3 hbt hcj hnew hcl HBT H3 K3
                go_wp2_with fail
                refine wp_region_pl (fun Y => Y.cell? ⟨y.gb, b * 2, none⟩ = some (.slice (some ⟨y.g b, 0, none⟩) fl.P (y.cp b)) ∧ (convert 78 9 (.slice (some ⟨g, 0, none⟩) 64 cap)).run Try.prog Y = .ok (.string new) Y) ((0, 0) :: (1, 0) :: (2, 0) :: (3, 0) :: (4, 0) :: (5, 0) :: (6, 0) :: (7, 0) :: (8, 2) :: []) (by kernel_rfl) (by kernel_rfl) ?_
                iterate 8 (apply wpP_go; (focus rfl); (focus rfl); (focus exact S0.out); (focus (rintro Z ⟨s0, s1⟩; go_simp; exact rfl)); intro K hK; go_simp; refine hK _ ?_; clear hK K)
                apply wpP_two
                focus rfl
                intro K hK
                go_simp
                refine hK _ _ ?_
                clear hK K
                refine wpP_done ?_
                clear S0 hcs2 cg fg hcs
                generalize (wr.setCell ⟨y.g b, k, none⟩ (.string new)).drew = V at *
                go_wp2_with fail
                exact ⟨⟨k + 1, by omega, by go_num, HS, HK⟩, by simp [intOf]; omega⟩
          · have y0 : ¬ (k : Int) < fl.P := by omega
            have ek : k = fl.P := by omega
            go_wp2_with fail
            go_ret
            rw [HPF.out]
            subst ek
            exact ⟨rfl, H2.out, K2.out⟩
  · rw [ho] at c4
    have HPF : Hid (eraseF fl b = (16, fl)) := by
      show _ = _
      unfold eraseF
      rw [if_pos ho]
    clear h
    go_enter Try.func46, Try.ntmps46
    go_wp2_with fail
    refine HB.out.mono ?_
    rintro e w' ⟨rfl, rfl⟩
    go_wp2_with fail
    go_ret
    rw [HPF.out]
    exact ⟨rfl, H.out, Ch.refl _ _⟩
end
end Go.Proofs.Ytfglopkglnpokaa
