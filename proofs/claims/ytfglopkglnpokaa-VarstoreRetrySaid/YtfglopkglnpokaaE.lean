/- Program. No condition but that the flash lies in memory. -/
import Derived.Test.YtfglopkglnpokaaF
namespace Go.Proofs.Ytfglopkglnpokaa
open Go.RowKit
def fits1 (o d : UInt8) : Bool := d &&& ~~~o == 0
def fitsB (old s : Str) : Bool := (List.zipWith fits1 old s).all id
def selB (t i : Nat) : UInt8 := UInt8.ofNat (t / 2 ^ (8 * (i % 8)) % 256)
def torn1 (t i : Nat) (o d : UInt8) : UInt8 := o &&& ~~~((o &&& ~~~d) &&& selB t i)
def tornP (t : Nat) (old s : Str) : Str := (List.range old.length).map fun i => torn1 t i (old.getD i 0) (s.getD i 0)
def progF (fl : FL) (b p : Nat) (s : Str) : Int × FL :=
  if fl.off = true then (16, fl) else if fitsB (fl.pg b p) s = false then (9, fl)
  else if (intF fl).1 = false then (0, (intF fl).2.put b p s) else (16, (intF fl).2.put b p (tornP fl.torn (fl.pg b p) s))
theorem intF_same (fl : FL) : (intF fl).2.B = fl.B ∧ (intF fl).2.P = fl.P ∧ (intF fl).2.E = fl.E ∧ (intF fl).2.pg = fl.pg ∧ (intF fl).2.er = fl.er ∧ (intF fl).2.torn = fl.torn := by
  unfold intF
  split
  · exact ⟨rfl, rfl, rfl, rfl, rfl, rfl⟩
  · split <;> exact ⟨rfl, rfl, rfl, rfl, rfl, rfl⟩
theorem str_of {s : ByteArray} {l : Str} (h : s.data.toList = l) : Value.string s = str l := by
  rw [← h]
section
variable {w : World} {D : Nat → Prop} {X : Nat} {y : FLay} {fl : FL}
set_option maxRecDepth 100000 in
set_option maxHeartbeats 4000000 in
theorem program_any (h : FW w D X y fl) {b p : Nat} (hb : b < fl.B) (hp : p < fl.P) {d : ByteArray} (hd : d.size = 64) :
    Calls Try.prog 67 #[fptr X, .int .i64 b, .int .i64 p, .string d] w fun e w' => e = .returned (.int .i64 (progF fl b p d.data.toList).1) ∧ FW w' D X y (progF fl b p d.data.toList).2 ∧ Ch D w w' := by
  have c3 := h.c3
  have c4 := h.c4
  have cs := h.cs hb
  have cg := h.cg hb hp
  have hcb := h.cb
  have hB := h.hB
  have hP := h.hP
  have hcp := h.cp b hb
  have hbI : (b : Int) < fl.B := by omega
  have hpI : (p : Int) < fl.P := by omega
  have HB := Lib.hid (isPage_any h hb hp)
  have H := Lib.hid h
  have hlen := h.len b p hb hp
  obtain ⟨old, hold⟩ : ∃ old : ByteArray, old = ⟨(fl.pg b p).toArray⟩ := ⟨_, rfl⟩
  have hol : old.data.toList = fl.pg b p := by rw [hold]
  have hos : old.size = 64 := by rw [hold]; simpa [ByteArray.size] using hlen
  have HOL := Lib.hid hol
  rw [show str (fl.pg b p) = .string old by rw [hold]] at cg
  clear h hold hol hlen
  cases ho : fl.off
  · rw [ho] at c4
    go_enter Try.func67, Try.ntmps67
    go_wp2_with fail
    refine HB.out.mono ?_
    rintro e w' ⟨rfl, rfl⟩
    go_wp2_with fail
    have HC : Hid (Ch D w w) := Ch.refl _ _
    go_loopw [40] (fun z wr => ∃ i : Nat, i ≤ 64 ∧ z = .int .i64 (i : Int) ∧ Hid (∀ j, j < i → fits1 (old.data.toList.getD j 0) (d.data.toList.getD j 0) = true) ∧ Hid (FW wr D X y fl) ∧ Hid (Ch D w wr)) (fun z _ => 64 - (intOf z).toNat)
    case atStart => exact ⟨0, by omega, rfl, fun j hj => by omega, H, HC⟩
    case round =>
      clear cs cg c3 c4 H HC HB
      obtain ⟨i, hi, rfl, HJ, H, HC⟩ := hrel
      by_cases hi6 : i < 64
      · have y0 : (i : Int) < 64 := by omega
        have hdl : d.data.toList.getD i 0 = d[i] := by
          rw [List.getD_eq_getElem?_getD, List.getElem?_eq_getElem (by rw [Array.length_toList]; exact (by omega : i < d.size))]; rfl
        have hol : old.data.toList.getD i 0 = old[i] := by
          rw [List.getD_eq_getElem?_getD, List.getElem?_eq_getElem (by rw [Array.length_toList]; exact (by omega : i < old.size))]; rfl
        by_cases hf : fits1 (old.data.toList.getD i 0) (d.data.toList.getD i 0) = true
        · have ha : bits .andNot .u8 (d[i].toNat : Int) (old[i].toNat : Int) = 0 := by
            rw [b_andNot]
            rw [hdl, hol] at hf
            unfold fits1 at hf
            rw [beq_iff_eq] at hf
            rw [hf]; rfl
          have HJ2 : Hid (∀ j, j < i + 1 → fits1 (old.data.toList.getD j 0) (d.data.toList.getD j 0) = true) := fun j hj => by
            rcases (by omega : j < i ∨ j = i) with h1 | h1
            · exact HJ.out j h1
            · rw [h1]; exact hf
          have H2 : Hid (FW wr.drew D X y fl) := H.out.drew
          have HC2 : Hid (Ch D w wr.drew) := HC.out.drew
          clear hdl hol hf HJ H HC
          go_wp2_with fail
          refine wp_region_pl (fun _ => True) ((0, 0) :: (1, 0) :: (2, 0) :: (3, 0) :: (4, 0) :: (5, 0) :: (6, 0) :: (7, 0) :: []) (by kernel_rfl) (by kernel_rfl) ?_
          iterate 8 (apply wpP_go; (focus rfl); (focus rfl); (focus exact trivial); (focus (rintro Z _; go_simp; exact rfl)); intro K hK; go_simp; refine hK _ ?_; clear hK K)
          refine wpP_done ?_
          clear ha
          generalize wr.drew = V at *
          go_wp2_with fail
          go_roundw
          case rel => exact ⟨i + 1, by omega, by go_num, HJ2, H2, HC2⟩
          case measure => simp [intOf]; omega
        · obtain ⟨x, ha, hx⟩ : ∃ x : Int, bits .andNot .u8 (d[i].toNat : Int) (old[i].toNat : Int) = x ∧ x ≠ 0 := by
            refine ⟨_, rfl, ?_⟩
            rw [b_andNot]
            rw [hdl, hol] at hf
            unfold fits1 at hf
            rw [beq_iff_eq] at hf
            intro h0
            apply hf
            apply UInt8.toNat_inj.1
            simpa using h0
          have HS : Hid (progF fl b p d.data.toList = (9, fl)) := by
            show _ = _
            unfold progF
            rw [if_neg (by rw [ho]; simp), if_pos]
            unfold fitsB
            rw [← HOL.out]
            rw [List.all_eq_false]
            refine ⟨fits1 (old.data.toList.getD i 0) (d.data.toList.getD i 0), ?_, by simpa using hf⟩
            have h1 : i < old.data.toList.length := by rw [Array.length_toList]; exact (by omega : i < old.size)
            have h2 : i < d.data.toList.length := by rw [Array.length_toList]; exact (by omega : i < d.size)
            rw [List.getD_eq_getElem?_getD, List.getD_eq_getElem?_getD, List.getElem?_eq_getElem h1, List.getElem?_eq_getElem h2]
            have h3 : i < (List.zipWith fits1 old.data.toList d.data.toList).length := by rw [List.length_zipWith]; omega
            have := List.getElem_mem h3
            rw [List.getElem_zipWith] at this
            exact this
          have H2 : Hid (FW wr.drew D X y fl) := H.out.drew
          have HC2 : Hid (Ch D w wr.drew) := HC.out.drew
          clear hdl hol hf HJ H HC
          go_wp2_with fail
          refine wp_region_pl (fun _ => True) ((0, 0) :: (1, 0) :: (2, 0) :: (3, 0) :: (4, 0) :: (5, 0) :: (6, 0) :: (7, 0) :: []) (by kernel_rfl) (by kernel_rfl) ?_
          iterate 8 (apply wpP_go; (focus rfl); (focus rfl); (focus exact trivial); (focus (rintro Z _; go_simp; exact rfl)); intro K hK; go_simp; refine hK _ ?_; clear hK K)
          refine wpP_done ?_
          clear ha
          generalize wr.drew = V at *
          go_wp2_with fail
          go_ret
          rw [HS.out]
          exact ⟨rfl, H2.out, HC2.out⟩
      · have y0 : ¬ (i : Int) < 64 := by omega
        have hfit : fitsB (fl.pg b p) d.data.toList = true := by
          unfold fitsB
          rw [List.all_eq_true]
          intro x hx
          obtain ⟨j, hj, rfl⟩ := List.getElem_of_mem hx
          rw [List.length_zipWith] at hj
          rw [List.getElem_zipWith]
          have e1 : (fl.pg b p).length = 64 := by rw [← HOL.out, Array.length_toList]; exact hos
          have := HJ.out j (by omega)
          rw [HOL.out, List.getD_eq_getElem?_getD, List.getD_eq_getElem?_getD, List.getElem?_eq_getElem (by omega), List.getElem?_eq_getElem (by omega)] at this
          exact this
        have HPF : Hid (progF fl b p d.data.toList = if (intF fl).1 = false then (0, (intF fl).2.put b p d.data.toList) else (16, (intF fl).2.put b p (tornP fl.torn (fl.pg b p) d.data.toList))) := by
          show _ = _
          unfold progF
          rw [if_neg (by rw [ho]; simp), if_neg (by rw [hfit]; simp)]
        have HI := Lib.hid (interrupted_any H.out)
        obtain ⟨sB, sP, sE, sp, se, st⟩ := intF_same fl
        have SB := Lib.hid sB
        have SP := Lib.hid sP
        have Spg := Lib.hid sp
        have ST := Lib.hid st
        obtain ⟨f2, hf2⟩ : ∃ f2, (intF fl).2 = f2 := ⟨_, rfl⟩
        rw [hf2] at HI HPF SB SP Spg ST
        have hdl : d.data.toList.length = 64 := by rw [Array.length_toList]; exact hd
        clear hf2 sB sP sE sp se st HJ
        rcases hin : (intF fl).1 with _ | _
        · rw [hin] at HI
          rw [hin, if_pos rfl] at HPF
          go_wp2_with fail
          refine HI.out.mono ?_
          rintro e w2 ⟨rfl, h2, k2⟩
          have hb2 : b < f2.B := by rw [SB.out]; exact hb
          have hp2 : p < f2.P := by rw [SP.out]; exact hp
          have c3 := h2.c3
          have cs := h2.cs hb2
          have cg := h2.cg hb2 hp2
          have fg := (h2.pag b hb2).frozen p
          have hcb2 := h2.cb
          have hcp2 := h2.cp b hb2
          have hbI2 : (b : Int) < f2.B := by omega
          have hpI2 : (p : Int) < f2.P := by omega
          have HS := Lib.hid (h2.setPg hb2 hp2 hdl)
          have HK : Hid (Ch D w (w2.setCell ⟨y.g b, p, none⟩ (.string d))) := (HC.out.trans k2).setCell (p := ⟨y.g b, p, none⟩) (fun _ => h2.dg b hb2) _
          clear h2 k2
          go_wp2_with fail
          go_ret
          rw [HPF.out]
          exact ⟨rfl, HS.out, HK.out⟩
        · rw [hin] at HI
          rw [hin, if_neg (by simp)] at HPF
          go_wp2_with fail
          refine HI.out.mono ?_
          rintro e w2 ⟨rfl, h2, k2⟩
          obtain ⟨cap, w3, hcv, hc1, hc2, hbt, hbel⟩ := conv_bytes w2 old (by omega)
          rw [hos] at hcv hc1 hbt
          have hDg : Hid (¬ D w2.heap.size) := fun hk => by have := h2.fin _ hk; omega
          have H3 := Lib.hid (h2.below hbel)
          have K3 : Hid (Ch D w w3) := (HC.out.trans k2).trans (Ch.of_below hbel _)
          have hgW : w.heap.size ≤ w2.heap.size := by have := k2.size; have := HC.out.size; omega
          have hg3 : w2.heap.size < w3.heap.size := hbt.lt
          have HBT0 : Hid (∃ c : Str, Bt w3 w2.heap.size 64 c ∧ ∀ j, j < 64 → c.getD j 0 = if j < 0 then torn1 fl.torn j (old.data.toList.getD j 0) (d.data.toList.getD j 0) else old.data.toList.getD j 0) := ⟨_, hbt, fun j hj => by rw [if_neg (by omega)]⟩
          obtain ⟨g, hg⟩ : ∃ g, w2.heap.size = g := ⟨_, rfl⟩
          rw [hg] at hcv HBT0 hgW hDg hg3
          clear h2 k2 hbt hbel
          go_wp2_with fail
          clear hcv hg
          go_loopw [70] (fun z wr => ∃ i : Nat, i ≤ 64 ∧ z = .int .i64 (i : Int) ∧ Hid (∃ c : Str, Bt wr g 64 c ∧ ∀ j, j < 64 → c.getD j 0 = if j < i then torn1 fl.torn j (old.data.toList.getD j 0) (d.data.toList.getD j 0) else old.data.toList.getD j 0) ∧ Hid (FW wr D X y f2) ∧ Hid (Ch D w wr)) (fun z _ => 64 - (intOf z).toNat)
          case atStart => exact ⟨0, by omega, rfl, HBT0, H3, K3⟩
          case round =>
            clear H3 K3 HBT0
            obtain ⟨i, hi, rfl, HBT, H3, K3⟩ := hrel
            by_cases hi7 : i < 64
            · have z0 : (i : Int) < 64 := by omega
              obtain ⟨c, hbt, hcj⟩ := HBT.out
              have hoi : old.data.toList.getD i 0 = old[i]'(by omega) := by
                rw [List.getD_eq_getElem?_getD, List.getElem?_eq_getElem (by rw [Array.length_toList]; exact (by omega : i < old.size))]; rfl
              have hdi : d.data.toList.getD i 0 = d[i]'(by omega) := by
                rw [List.getD_eq_getElem?_getD, List.getElem?_eq_getElem (by rw [Array.length_toList]; exact (by omega : i < d.size))]; rfl
              have hci : c.getD i 0 = old[i]'(by omega) := by rw [hcj i hi7, if_neg (by omega), hoi]
              have cb := hbt.cell hi7
              have fb := hbt.frozen hi7
              rw [hci] at cb
              have c7 := H3.out.c7
              rw [ST.out] at c7
              obtain ⟨ss, hss⟩ : ∃ ss : UInt8, ss = selB fl.torn i := ⟨_, rfl⟩
              obtain ⟨a1, ha1⟩ : ∃ a : UInt8, a = (old[i]'(by omega)) &&& ~~~(d[i]'(by omega)) := ⟨_, rfl⟩
              obtain ⟨a2, ha2⟩ : ∃ a : UInt8, a = a1 &&& ss := ⟨_, rfl⟩
              obtain ⟨a3, ha3⟩ : ∃ a : UInt8, a = (old[i]'(by omega)) &&& ~~~a2 := ⟨_, rfl⟩
              have ht1 : torn1 fl.torn i (old[i]'(by omega)) (d[i]'(by omega)) = a3 := by rw [ha3, ha2, ha1, hss]; rfl
              have e1 : bits .andNot .u8 ((old[i]'(by omega)).toNat : Int) ((d[i]'(by omega)).toNat : Int) = (a1.toNat : Int) := by rw [ha1]; exact b_andNot _ _
              have e2 : bits .and .u8 (a1.toNat : Int) (ss.toNat : Int) = (a2.toNat : Int) := by rw [ha2]; exact b_and _ _
              have e3 : bits .andNot .u8 ((old[i]'(by omega)).toNat : Int) (a2.toNat : Int) = (a3.toNat : Int) := by rw [ha3]; exact b_andNot _ _
              have HNX : Hid (∃ c : Str, Bt (wr.setCell ⟨g, i, none⟩ (.int .u8 (a3.toNat : Int))).drew g 64 c ∧ ∀ j, j < 64 → c.getD j 0 = if j < i + 1 then torn1 fl.torn j (old.data.toList.getD j 0) (d.data.toList.getD j 0) else old.data.toList.getD j 0) := by
                refine ⟨_, (hbt.ch (w' := wr.drew) ((Ch.refl (fun _ => False) wr).drew) id).set hi7 _, fun j hj => ?_⟩
                have hcl : c.length = 64 := by obtain ⟨_, _, _, h1, _⟩ := hbt; exact h1
                by_cases e : j = i
                · subst e
                  rw [if_pos (by omega), List.getD_eq_getElem?_getD, List.getElem?_set_self (by omega), hoi, hdi]
                  exact ht1.symm
                · rw [List.getD_eq_getElem?_getD, List.getElem?_set_ne (Ne.symm e), ← List.getD_eq_getElem?_getD, hcj j hj]
                  by_cases e2 : j < i
                  · rw [if_pos e2, if_pos (by omega)]
                  · rw [if_neg e2, if_neg (by omega)]
              have H3n : Hid (FW (wr.setCell ⟨g, i, none⟩ (.int .u8 (a3.toNat : Int))).drew D X y f2) :=
                H3.out.ch (((Ch.refl (fun k => k = g) wr).drew).setCell (p := ⟨g, i, none⟩) (fun _ => rfl) _) (fun k hk e => hDg.out (by rw [← e]; exact hk))
              have K3n : Hid (Ch D w (wr.setCell ⟨g, i, none⟩ (.int .u8 (a3.toNat : Int))).drew) :=
                (K3.out.drew).setCell (p := ⟨g, i, none⟩) (fun h => by have : g < w.heap.size := h; omega) _
              have HSEL : Hid (∀ Y : World, Calls Try.prog 66 #[.int .u64 (fl.torn : Int), .int .i64 (i : Int)] Y fun e w' => e = .returned (.int .u8 (ss.toNat : Int)) ∧ Y = w') := fun Y => by
                have := selected_any fl.torn i Y hi7
                have e : ((fl.torn / 2 ^ (8 * (i % 8)) % 256 : Nat) : Int) = (ss.toNat : Int) := by
                  rw [hss]
                  unfold selB
                  rw [u8_of (by omega)]
                rw [e] at this
                exact this
              have S0 : Hid (wr.drew.cell? ⟨X, 7, none⟩ = some (.int .u64 (fl.torn : Int)) ∧ wr.drew.cell? ⟨g, i, none⟩ = some (.int .u8 ((old[i]'(by omega)).toNat : Int))) := ⟨c7, cb⟩
              have cb' : wr.drew.cell? ⟨g, i, none⟩ = some (.int .u8 ((old[i]'(by omega)).toNat : Int)) := cb
              have fb' : wr.drew.frozen? ⟨g, i, none⟩ = false := fb
              clear hbt hcj hci hoi hdi cb fb c7 ht1 HBT H3 K3 ha1 ha2 ha3 hss
              go_wp2_with fail
              refine wp_region_pl (fun Y => Y.cell? ⟨X, 7, none⟩ = some (.int .u64 (fl.torn : Int)) ∧ Y.cell? ⟨g, i, none⟩ = some (.int .u8 ((old[i]'(by omega)).toNat : Int))) ((0, 0) :: (1, 0) :: (2, 0) :: (3, 0) :: (4, 0) :: (5, 0) :: (6, 0) :: (7, 0) :: (8, 0) :: (9, 0) :: (10, 0) :: (11, 0) :: (12, 0) :: (13, 0) :: (14, 0) :: (15, 0) :: (16, 0) :: (17, 0) :: (18, 0) :: (19, 0) :: (20, 2) :: []) (by kernel_rfl) (by kernel_rfl) ?_
              iterate 16 (apply wpP_go; (focus rfl); (focus rfl); (focus exact S0.out); (focus (rintro Z ⟨s0, s1⟩; go_simp; exact rfl)); intro K hK; go_simp; refine hK _ ?_; clear hK K)
              apply wpP_call
              focus rfl
              focus rfl
              focus exact S0.out
              focus (rintro Z ⟨s0, s1⟩; go_simp; exact ⟨rfl, rfl⟩)
              focus (intro Z _; exact HSEL.out Z)
              intro K hK
              go_simp
              refine hK _ ?_
              clear hK K
              iterate 3 (apply wpP_go; (focus rfl); (focus rfl); (focus exact S0.out); (focus (rintro Z ⟨s0, s1⟩; go_simp; exact rfl)); intro K hK; go_simp; refine hK _ ?_; clear hK K)
              apply wpP_two
              focus rfl
              intro K hK
              go_simp
              refine hK _ _ ?_
              clear hK K
              refine wpP_done ?_
              clear S0 cb' fb' e1 e2 e3 HSEL
              generalize (wr.setCell ⟨g, i, none⟩ (.int .u8 (a3.toNat : Int))).drew = V at *
              go_wp2_with fail
              go_roundw
              case rel => exact ⟨i + 1, by omega, by go_num, HNX, H3n, K3n⟩
              case measure => simp [intOf]; omega
            · have z0 : ¬ (i : Int) < 64 := by omega
              obtain ⟨c, hbt, hcj⟩ := HBT.out
              have hcl : c.length = 64 := by obtain ⟨_, _, _, h1, _⟩ := hbt; exact h1
              have hce : c = tornP fl.torn (fl.pg b p) d.data.toList := by
                have hol : (fl.pg b p).length = 64 := by rw [← HOL.out, Array.length_toList]; exact hos
                apply List.ext_getElem
                · rw [tornP, List.length_map, List.length_range, hol, hcl]
                · intro j h1 h2
                  have hj : j < 64 := by omega
                  have := hcj j hj
                  rw [if_pos (by omega), HOL.out, List.getD_eq_getElem?_getD, List.getElem?_eq_getElem h1] at this
                  simp only [Option.getD_some] at this
                  rw [this]
                  have h3 : (tornP fl.torn (fl.pg b p) d.data.toList)[j]? = some (torn1 fl.torn j ((fl.pg b p).getD j 0) (d.data.toList.getD j 0)) := by
                    unfold tornP
                    rw [List.getElem?_map, List.getElem?_range (by omega)]
                    rfl
                  rw [List.getElem?_eq_getElem h2] at h3
                  exact (Option.some.inj h3).symm
              subst hce
              have hb2 : b < f2.B := by rw [SB.out]; exact hb
              have hp2 : p < f2.P := by rw [SP.out]; exact hp
              have hcs := hbt.str (w := wr.drew) cap
              obtain ⟨new, hnew⟩ : ∃ new : ByteArray, new = ⟨(tornP fl.torn (fl.pg b p) d.data.toList).toArray⟩ := ⟨_, rfl⟩
              rw [← hnew] at hcs
              have h3 := H3.out.drew
              have c3 := h3.c3
              have cs := h3.cs hb2
              have cg := h3.cg hb2 hp2
              have fg := (h3.pag b hb2).frozen p
              have hcb2 := h3.cb
              have hcp2 := h3.cp b hb2
              have hbI2 : (b : Int) < f2.B := by omega
              have hpI2 : (p : Int) < f2.P := by omega
              have HS : Hid (FW (wr.setCell ⟨y.g b, p, none⟩ (.string new)).drew D X y (f2.put b p (tornP fl.torn (fl.pg b p) d.data.toList))) := by
                have := h3.setPg hb2 hp2 hcl
                rw [hnew]
                exact this
              have HK : Hid (Ch D w (wr.setCell ⟨y.g b, p, none⟩ (.string new)).drew) := (K3.out.drew).setCell (p := ⟨y.g b, p, none⟩) (fun _ => h3.dg b hb2) _
              have S0 : Hid (wr.drew.cell? ⟨X, 3, none⟩ = some (.slice (some ⟨y.gb, 0, none⟩) f2.B y.cb) ∧ wr.drew.cell? ⟨y.gb, b * 2, none⟩ = some (.slice (some ⟨y.g b, 0, none⟩) f2.P (y.cp b)) ∧ (convert 78 9 (.slice (some ⟨g, 0, none⟩) 64 cap)).run Try.prog wr.drew = .ok (.string new) wr.drew) := ⟨c3, cs, hcs⟩
              clear h3 hbt hcj hnew hcl HBT H3 K3
              have c3' := S0.out.1
              have cs' := S0.out.2.1
              go_wp2_with fail
              refine wp_region_pl (fun Y => Y.cell? ⟨X, 3, none⟩ = some (.slice (some ⟨y.gb, 0, none⟩) f2.B y.cb) ∧ Y.cell? ⟨y.gb, b * 2, none⟩ = some (.slice (some ⟨y.g b, 0, none⟩) f2.P (y.cp b)) ∧ (convert 78 9 (.slice (some ⟨g, 0, none⟩) 64 cap)).run Try.prog Y = .ok (.string new) Y) ((0, 0) :: (1, 0) :: (2, 0) :: (3, 0) :: (4, 0) :: (5, 0) :: (6, 0) :: (7, 0) :: (8, 0) :: (9, 0) :: (10, 0) :: (11, 0) :: (12, 2) :: []) (by kernel_rfl) (by kernel_rfl) ?_
              iterate 12 (apply wpP_go; (focus rfl); (focus rfl); (focus exact S0.out); (focus (rintro Z ⟨s0, s1, s2⟩; go_simp; exact rfl)); intro K hK; go_simp; refine hK _ ?_; clear hK K)
              apply wpP_two
              focus rfl
              intro K hK
              go_simp
              refine hK _ _ ?_
              clear hK K
              refine wpP_done ?_
              clear S0 c3 cs cg fg c3' cs' hcs
              generalize (wr.setCell ⟨y.g b, p, none⟩ (.string new)).drew = V at *
              go_wp2_with fail
              go_ret
              rw [HPF.out]
              exact ⟨rfl, HS.out, HK.out⟩
  · rw [ho] at c4
    have HPF : Hid (progF fl b p d.data.toList = (16, fl)) := by
      show _ = _
      unfold progF
      rw [if_pos ho]
    go_enter Try.func67, Try.ntmps67
    go_wp2_with fail
    refine HB.out.mono ?_
    rintro e w' ⟨rfl, rfl⟩
    go_wp2_with fail
    go_ret
    rw [HPF.out]
    exact ⟨rfl, H.out, Ch.refl _ _⟩
end
end Go.Proofs.Ytfglopkglnpokaa
