/- BootSurvivesCompaction walked, and its card. Conditions: those that each theorem names. -/
import Derived.Test.YtdinbpdpalgohaaGreatDoorY21
import Derived.Test.YtdinbpdpalgohaaGreatDoorY20
import Derived.Test.YtdinbpdpalgohaaGreatDoorY18
namespace Go.Proofs.YtdinbpdpalgohaaGreatDoor
open Go.RowKit
attribute [local go_sem] Ms.set_new
set_option maxRecDepth 100000 in
set_option maxHeartbeats 4000000 in
theorem survives_any (a : Option Addr) (len cap : Nat) (l : List BC) (a2 : Option Addr) (len2 cap2 : Nat) (vs : List ByteArray) (w : World) (hl : CallS w a len cap l) (hl2 : StrS w a2 len2 cap2 vs) (hr : Ms.Rnd w) (h0 : 0 < w.heap.size) : Calls Tryz.prog 9 #[.slice a len cap, .slice a2 len2 cap2] w fun e w' => e = .returned (.bool true) ∧ Below w.heap.size w w' := by
  have HA := Lib.hid hl
  have HA2 := Lib.hid hl2
  have HAW := Lib.hid (awake_any w hr h0)
  have HLG := Lib.hid (large_any a len cap l w hl)
  have HBD := Lib.hid (board_any 1000 (by omega) w hr h0)
  have hcap : len ≤ cap := hl.2.1
  have hcapM := hl.2.2.1
  have hcap2 : len2 ≤ cap2 := hl2.2.1
  have hcap2M := hl2.2.2.1
  unfold maxLen at hcapM hcap2M
  obtain ⟨q, hq⟩ : ∃ q, lrg l = q := ⟨_, rfl⟩
  rw [hq] at HLG
  have HQ := Lib.hid hq
  clear hl hl2 hq hr
  have HP0 := Lib.hid h0
  go_enter Tryz.func9, Tryz.ntmps9
  go_wp2_with fail
  refine HLG.out.mono ?_
  rintro e w' ⟨rfl, rfl⟩
  clear HLG
  cases q
  case true =>
    clear HBD
    go_wp2_with fail
    refine HAW.out.mono ?_
    rintro e w' ⟨rfl, b1⟩
    have HB1 := Lib.hid b1
    go_wp2_with fail
    go_ret
    exact ⟨rfl, HB1.out⟩
  case false =>
    have hnb := not_big (l := l) (fun q => by have := (lrg_iff l).2 q; rw [HQ.out] at this; cases this)
    have HOD := Lib.hid hnb.1
    have hle : len ≤ 25 := by have h1 := hnb.2; have h2 := HA.out.1; omega
    clear hnb HQ
    by_cases h10 : 10 < len2
    · have h10I : (len2 : Int) > 10 := by omega
      clear HBD
      go_wp2_with fail
      refine HAW.out.mono ?_
      rintro e w' ⟨rfl, b1⟩
      have HB1 := Lib.hid b1
      go_wp2_with fail
      go_ret
      exact ⟨rfl, HB1.out⟩
    · have h10I : ¬ (len2 : Int) > 10 := by omega
      clear HAW
      go_wp2_with fail
      refine HBD.out.mono ?_
      rintro e w1 ⟨X, L, M, S, O, fl, rfl, hbw, hcal, b1⟩
      obtain ⟨T, hT⟩ : ∃ T, w1.heap.size = T := ⟨_, rfl⟩
      have HT := Lib.hid hT
      have HB1 := Lib.hid b1
      have HBW := Lib.hid hbw
      have HCA := Lib.hid hcal
      obtain ⟨f1, q1, q2⟩ := cal_new (B := 2) (P := 26) (m := 1000) (by omega) (by omega) (by omega)
      have HQ1 := Lib.hid q1
      have HQ2 := Lib.hid q2
      have HNW : Hid (Calls Tryz.prog 33 #[.agg #[.int .i64 2, .int .i64 26, .int .i64 1000]] w1 fun e w' => ∃ X y, e = .returned (.tuple #[fptr X, .int .i64 0]) ∧ FW w' (fun k => w1.heap.size ≤ k ∧ k < w'.heap.size) X y (newF 2 26 1000) ∧ Below w1.heap.size w1 w') := new_any w1 2 26 1000 ⟨by omega, by omega⟩ ⟨by omega, by omega⟩ (by omega)
      clear q1 q2 hbw hcal b1 HBD hT
      go_wp2_with fail
      refine HNW.out.mono ?_
      rintro e w2 ⟨X2, y, rfl, hf, b2⟩
      have HB2 := Lib.hid b2
      have HFM : Hid (Calls Tryz.prog 35 #[fptr X2] w2 fun e w' => e = .returned (.int .i64 0) ∧ FW w' (fun k => w1.heap.size ≤ k ∧ k < w2.heap.size) X2 y f1 ∧ Ch (fun k => w1.heap.size ≤ k ∧ k < w2.heap.size) w2 w') := by
        have := format_any hf
        rw [HQ1.out] at this
        exact this
      clear hf b2 HNW
      go_wp2_with fail
      refine HFM.out.mono ?_
      rintro e w3 ⟨rfl, hf, c3⟩
      have HOP := Lib.hid (open_any hf)
      have HF3 := Lib.hid hf
      have hs23 : w2.heap.size ≤ w3.heap.size := c3.size
      have hs12 : w1.heap.size ≤ w2.heap.size := HB2.out.size
      have HB3 : Hid (Below w1.heap.size w1 w3) := HB2.out.trans (c3.below HB2.out.size (fun i hi => hi.1))
      clear hf c3 HFM HB2
      go_wp2_with fail
      refine HOP.out.mono ?_
      rintro e w4 ⟨b4, ⟨c, h1, _⟩ | ⟨st', S2, m, DS, h1, rfl, h3, h4, _⟩⟩
      · exfalso
        rw [HQ2.out.inv.opens] at h1
        cases h1
      rw [HQ2.out.inv.opens] at h1
      injection h1 with _ h1
      injection h1 with h1
      subst h1
      have HF4 := Lib.hid (HF3.out.below b4)
      have HS4 := Lib.hid h4
      have HD4 := Lib.hid h3
      have HB4 : Hid (Below w1.heap.size w1 w4) := HB3.out.trans (b4.mono HB3.out.size)
      have hs34 : w3.heap.size ≤ w4.heap.size := b4.size
      have HMN := Lib.hid (Ms.new_any w4)
      clear b4 h3 h4 HOP HF3 HB3
      go_wp2_with fail
      refine HMN.out.mono ?_
      rintro e w5 ⟨rfl, hlg, b5⟩
      have HB5 : Hid (Below w1.heap.size w1 w5) := HB4.out.trans (b5.mono HB4.out.size)
      have hs45 : w4.heap.size < w5.heap.size := Row.lt hlg
      have hws : w1.heap.size ≤ w4.heap.size := HB4.out.size
      have hw1 : 0 < w1.heap.size := HBW.out.pos
      have HBN := Lib.hid (bnew_any (N := w1.heap.size) (HF4.out.below b5) (HS4.out.below b5) hlg (rnd_ch HBW.out.rnd (Ch.of_below HB5.out (fun _ => False)) id hw1) hw1
        (fun k hk q => by have := HD4.out k q; omega) ⟨fun q => by omega, fun q => by have := HS4.out.fin _ q; omega⟩ (fun k hk => hk.1) (fun k hk => by have := HD4.out k hk; omega) (by omega) (by omega))
      clear hlg b5 HMN HB4 HF4
      go_wp2_with fail
      refine HBN.out.mono ?_
      rintro e w6 ⟨rfl, hbw, b6⟩
      have HB6 : Hid (Below w1.heap.size w1 w6) := HB5.out.trans (b6.mono HB5.out.size)
      have HPB : Hid (PB w6 (fun _ => False) ⟨w.heap.size, M, S, L⟩ 32 ⟨fl, st0, [], [], -1, []⟩ ⟨w1.heap.size, w5.heap.size, S2, w4.heap.size⟩ 32 ⟨f1, st0, [], [], -1, []⟩) := PB.of (p := ⟨w.heap.size, M, S, L⟩) (q := ⟨w1.heap.size, w5.heap.size, S2, w4.heap.size⟩) (HBW.out.below HB6.out) hbw (fun k hk => (HBW.out.oN k hk).2) (fun k hk => (hbw.oN k hk).1)
      have HTW : Hid (Two 0 0 0 (⟨fl, st0, [], [], -1, []⟩ : BM) (⟨f1, st0, [], [], -1, []⟩ : BM)) := ⟨⟨HCA.out, Nat.le_refl _, Nat.le_refl _, fun _ h => (by cases h)⟩, ⟨HQ2.out, Nat.le_refl _, Nat.le_refl _, fun _ h => (by cases h)⟩, fun _ _ => rfl, rfl, rfl, rfl⟩
      have HBA : Hid (Below w.heap.size w w6) := HB1.out.trans (HB6.out.mono HB1.out.size)
      have hTw : w.heap.size ≤ T := by rw [← HT.out]; exact HB1.out.size
      clear hbw b6 HBN HB5 HB6 HBW HCA HQ1 HQ2 HB1 hs23 hs12 hs34 hs45 hws hw1 HS4 HD4
      rw [HT.out] at HPB
      obtain ⟨M2, hM2⟩ : ∃ q, w5.heap.size = q := ⟨_, rfl⟩
      obtain ⟨L2, hL2⟩ : ∃ q, w4.heap.size = q := ⟨_, rfl⟩
      rw [hM2, hL2] at HPB
      rw [hM2]
      clear HT hM2 hL2
      go_wp2_with fail
      go_loopw [15] (fun z wr => ∃ (i : Nat) (b1 b2 : BM), i ≤ len ∧ z = .int .i64 (i : Int) ∧ Hid (Two i (11 * i) i b1 b2) ∧ Hid (PB wr (fun _ => False) ⟨w.heap.size, M, S, L⟩ (32 + i) b1 ⟨T, M2, S2, L2⟩ (32 + 11 * i) b2) ∧ Hid (Below w.heap.size w wr)) (fun z _ => len - (intOf z).toNat)
      case atStart => exact ⟨0, _, _, by omega, rfl, HTW, HPB, HBA⟩
      case round =>
        clear HTW HPB HBA
        obtain ⟨i, b1, b2, hi, rfl, HTW, HPB, HB⟩ := hrel
        by_cases hlt : i < len
        · have y0 : (i : Int) < len := by omega
          go_wp2_with fail
          go_loopw [16] (fun z wq => ∃ (k : Nat) (b3 : BM), k ≤ len2 ∧ z = .int .i64 (k : Int) ∧ Hid (Two i (11 * i + k) i b1 b3) ∧ Hid (PB wq (fun _ => False) ⟨w.heap.size, M, S, L⟩ (32 + i) b1 ⟨T, M2, S2, L2⟩ (32 + 11 * i + k) b3) ∧ Hid (Below w.heap.size w wq)) (fun z _ => len2 - (intOf z).toNat)
          case atStart => exact ⟨0, b2, by omega, rfl, HTW, HPB, HB⟩
          case round =>
            clear HTW HPB HB
            obtain ⟨k, b3, hk, rfl, HTW, HPB, HB⟩ := hrel
            by_cases hkl : k < len2
            · have y1 : (k : Int) < len2 := by omega
              have y2 : (k : Int) < 10 := by omega
              obtain ⟨r, hr⟩ : ∃ r, (i + k) % len2 = r := ⟨_, rfl⟩
              have hrl : r < len2 := by rw [← hr]; exact Nat.mod_lt _ (by omega)
              have hrI : ((i : Int) + k).tmod len2 = (r : Int) := by rw [← hr]; exact (Int.ofNat_tmod (i + k) len2).symm
              have y3 : len2 ≠ 0 := by omega
              obtain ⟨gs, os, s, rfl, hgs, hss, hsM, hcs⟩ := (HA2.out.below HB.out (Nat.le_refl _)).at hrl
              have hst := fun (v : ByteArray) (hv : v.size ≤ 50) => (show ∃ b4, Two i (11 * i + k + 1) i b1 b4 ∧ Calls Tryz.prog 43 #[fptr S2, .string ⟨#[111, 116, 104, 101, 114]⟩, .string v] wr fun e w' => e = .returned (.int .i64 0) ∧ PL wr w' (fun _ => False) ⟨T, M2, S2, L2⟩ (32 + 11 * i + k + 1) b4 ⟨w.heap.size, M, S, L⟩ (32 + i) b1 from by
                obtain ⟨b4, e4, t4⟩ := HTW.out.other (v := v.data.toList) (by omega) (by rw [← bsz]; exact hv)
                refine ⟨b4, t4, ?_⟩
                have := HPB.out.swap.callR (f := 43) (args := #[fptr S2, .string ⟨#[111, 116, 104, 101, 114]⟩, .string v]) (n' := 32 + 11 * i + k + 1) (r := setB b3 nmX v.data.toList) (fun F hF => hF.put HTW.out.gb.cal.blk (by omega) (by decide) (by omega) rfl rfl)
                rw [e4] at this
                exact this)
              have HST := Lib.hid hst
              clear hst HTW HPB hr
              by_cases h50 : 50 < s.size
              · have h50I : (s.size : Int) > 50 := by omega
                obtain ⟨b4, t4, c4⟩ := HST.out (s.extract 0 50) (by rw [ByteArray.size_extract]; omega)
                have HT4 := Lib.hid t4
                have HC4 := Lib.hid c4
                clear t4 c4 HST
                go_wp2_with fail
                refine HC4.out.mono ?_
                rintro e w5 ⟨rfl, pb, _, b5⟩
                have HP5 := Lib.hid pb.swap
                have HB5 : Hid (Below w.heap.size w w5) := HB.out.trans (b5.mono hTw)
                clear pb b5 HC4 HB hcs
                go_wp2_with fail
                go_roundw
                case rel => exact ⟨k + 1, b4, by omega, by go_num, HT4, HP5, HB5⟩
                case measure => simp [intOf]; omega
              · have h50I : ¬ (s.size : Int) > 50 := by omega
                obtain ⟨b4, t4, c4⟩ := HST.out s (by omega)
                have HT4 := Lib.hid t4
                have HC4 := Lib.hid c4
                clear t4 c4 HST
                go_wp2_with fail
                refine HC4.out.mono ?_
                rintro e w5 ⟨rfl, pb, _, b5⟩
                have HP5 := Lib.hid pb.swap
                have HB5 : Hid (Below w.heap.size w w5) := HB.out.trans (b5.mono hTw)
                clear pb b5 HC4 HB hcs
                go_wp2_with fail
                go_roundw
                case rel => exact ⟨k + 1, b4, by omega, by go_num, HT4, HP5, HB5⟩
                case measure => simp [intOf]; omega
            · have ek : k = len2 := by omega
              subst ek
              have y1 : ¬ (k : Int) < k := by omega
              obtain ⟨bb, o, c, rfl, hc, hrd, hx⟩ := HA.out.at hlt
              have hX := hx.below HB.out hx.lt
              have hco : c.od.length ≤ 20 := HOD.out c (List.mem_of_getElem? hc)
              have HRJ := Lib.hid hrd
              have HXX := Lib.hid hx
              obtain ⟨hs1, hs2, ht⟩ : Alk3 (i + 1) (11 * i + k + 1) (i + 1) (doB b1 c) (doB b3 c) := do_two' HTW.out (by omega) (by omega) c
              have hDA := HPB.out.callT (f := 25) (args := #[fptr M, cBa c]) (n' := 32 + i + 1) (r := doB b1 c) (fun F hF => do_any hF HTW.out.ga.cal.blk (by omega) HTW.out.ga.cand (by have := HTW.out.ga.es; omega) (by have := HTW.out.ga.log; omega) c (hrd.below HB.out (Nat.le_refl _)) hco)
              obtain ⟨r1, hr1⟩ : ∃ r, doB b1 c = r := ⟨_, rfl⟩
              obtain ⟨⟨x, cv⟩, er, A1⟩ := r1
              obtain ⟨B1, hB1⟩ : ∃ r, (doB b3 c).2.2 = r := ⟨_, rfl⟩
              rw [hr1] at hs1 hs2 ht hDA
              rw [hB1] at ht
              have e2 : doB b3 c = ((x, cv), er, B1) := Prod.ext hs1.symm (Prod.ext hs2.symm hB1)
              have hDB := fun (W : World) (G : Nat → Prop) (pb : PB W G ⟨T, M2, S2, L2⟩ (32 + 11 * i + k) b3 ⟨w.heap.size, M, S, L⟩ (32 + i + 1) A1) (hrj : RdJ W c.ol c.od) => pb.callT (f := 25) (args := #[fptr M2, cBa c]) (n' := 32 + 11 * i + k + 1) (r := doB b3 c) (fun F hF => do_any hF HTW.out.gb.cal.blk (by omega) HTW.out.gb.cand (by have := HTW.out.gb.es; omega) (by have := HTW.out.gb.log; omega) c hrj hco)
              rw [e2] at hDB
              unfold cBa at hDA hDB
              have HDA := Lib.hid hDA
              have HDB := Lib.hid hDB
              have HTW2 := Lib.hid ht
              obtain ⟨c0, c1, c2, c3, c4, c5, c6, clt⟩ := hX
              clear hDA hDB ht hs1 hs2 hr1 hB1 e2 HTW HPB hrd hx hc hco
              go_wp2_with fail
              refine HDA.out.mono ?_
              rintro e w3 ⟨rfl, pb3, _, b3w⟩
              have hal : Below w3.heap.size w3 (w3.alloc (.cells #[.int .i64 x, .int .i64 cv] 40)) := (Below.refl _ _).alloc (Nat.le_refl _) _
              have HPB4 := Lib.hid ((pb3.news hal).less (G' := fun q => q = w3.heap.size) (fun q hq => .inr ⟨by omega, by subst hq; simp⟩))
              have HB4 : Hid (Below w.heap.size w (w3.alloc (.cells #[.int .i64 x, .int .i64 cv] 40))) := (HB.out.trans b3w).alloc ((HB.out.trans b3w).size) _
              obtain ⟨x0, x1⟩ := stepCells w3 x cv
              have HXC : Hid ((w3.alloc (.cells #[.int .i64 x, .int .i64 cv] 40)).cell? ⟨w3.heap.size, 0, none⟩ = some (.int .i64 x) ∧ (w3.alloc (.cells #[.int .i64 x, .int .i64 cv] 40)).cell? ⟨w3.heap.size, 1, none⟩ = some (.int .i64 cv)) := ⟨x0, x1⟩
              have hE : w3.heap.size < (w3.alloc (.cells #[.int .i64 x, .int .i64 cv] 40)).heap.size := by simp
              have HEL := Lib.hid hE
              clear hal pb3 b3w x0 x1 hE HDA HB c0 c1 c2 c3 c4 c5 c6 clt
              obtain ⟨c0, c1, c2, c3, c4, c5, c6, clt⟩ := HXX.out.below HB4.out HXX.out.lt
              have HDC := Lib.hid (HDB.out _ _ HPB4.out.swap (HRJ.out.below HB4.out (Nat.le_refl _)))
              clear HDB
              go_wp2_with fail
              generalize w3.alloc (.cells #[.int .i64 x, .int .i64 cv] 40) = w4 at *
              generalize w3.heap.size = E at *
              refine HDC.out.mono ?_
              rintro e w5 ⟨rfl, pb5, ch5, b5⟩
              have x0 : w5.cell? ⟨E, 0, none⟩ = some (.int .i64 x) := (ch5.cell ⟨E, 0, none⟩ HEL.out (fun q => q rfl)).trans HXC.out.1
              have x1 : w5.cell? ⟨E, 1, none⟩ = some (.int .i64 cv) := (ch5.cell ⟨E, 1, none⟩ HEL.out (fun q => q rfl)).trans HXC.out.2
              have hE5 : E < w5.heap.size := Nat.lt_of_lt_of_le HEL.out ch5.size
              have hal : Below w5.heap.size w5 (w5.alloc (.cells #[.int .i64 x, .int .i64 cv] 40)) := (Below.refl _ _).alloc (Nat.le_refl _) _
              have x0 := (hal.cell (p := ⟨E, 0, none⟩) hE5).trans x0
              have x1 := (hal.cell (p := ⟨E, 1, none⟩) hE5).trans x1
              obtain ⟨z0, z1⟩ := stepCells w5 x cv
              have HPB6 := Lib.hid ((pb5.below hal).swap.less (G' := fun _ => False) (fun _ h => h.elim))
              have HB6 : Hid (Below w.heap.size w (w5.alloc (.cells #[.int .i64 x, .int .i64 cv] 40))) := (HB4.out.trans (b5.mono hTw)).alloc ((HB4.out.trans (b5.mono hTw)).size) _
              have hne := fun (W : World) => neSt x cv x cv W
              have hne2 : (!(x == x && cv == cv)) = false := by simp
              have hne3 : (er != er) = false := by simp
              have HOA := Lib.hid HPB6.out.one.order
              clear pb5 ch5 b5 hE5 hal HXC HEL HPB4 HB4 HDC c0 c1 c2 c3 c4 c5 c6 clt
              go_wp2_with fail
              generalize w5.alloc (.cells #[.int .i64 x, .int .i64 cv] 40) = w6 at *
              refine HOA.out.mono ?_
              rintro e w7 ⟨v7, rfl, hv7, _, b7⟩
              have HV7 := Lib.hid hv7
              have HPB7 := Lib.hid (HPB6.out.below b7)
              have HB7 : Hid (Below w.heap.size w w7) := HB6.out.trans (b7.mono HB6.out.size)
              have hob := HPB7.out.two.order
              rw [← HTW2.out.s.ord] at hob
              have HOB := Lib.hid hob
              clear hv7 b7 hob HOA HPB6 HB6 x0 x1 z0 z1 hne
              go_wp2_with fail
              refine HOB.out.mono ?_
              rintro e w8 ⟨v8, rfl, hv8, _, b8⟩
              have HPB8 := Lib.hid (HPB7.out.below b8)
              have HB8 : Hid (Below w.heap.size w w8) := HB7.out.trans (b8.mono HB7.out.size)
              have HEQ := Lib.hid (equalI_same (HV7.out.below b8) hv8)
              clear hv8 b8 HOB HPB7 HB7 HV7
              go_wp2_with fail
              refine HEQ.out.mono ?_
              rintro e w9 ⟨rfl, b9⟩
              have HPB9 := Lib.hid (HPB8.out.below b9)
              have HB9 : Hid (Below w.heap.size w w9) := HB8.out.trans (b9.mono HB8.out.size)
              have HDD := Lib.hid HPB9.out.one.denied
              clear b9 HEQ HPB8 HB8
              go_wp2_with fail
              refine HDD.out.mono ?_
              rintro e w7 ⟨v7, rfl, hv7, b7⟩
              have HV7 := Lib.hid hv7.rd
              have HPB7 := Lib.hid (HPB9.out.below b7)
              have HB7 : Hid (Below w.heap.size w w7) := HB9.out.trans (b7.mono HB9.out.size)
              have hob := HPB7.out.two.denied
              rw [← HTW2.out.s.den] at hob
              have HOB := Lib.hid hob
              clear hv7 b7 hob HDD HPB9 HB9
              go_wp2_with fail
              refine HOB.out.mono ?_
              rintro e w8 ⟨v8, rfl, hv8, b8⟩
              have HPB8 := Lib.hid (HPB7.out.below b8)
              have HB8 : Hid (Below w.heap.size w w8) := HB7.out.trans (b8.mono HB7.out.size)
              have HEQ := Lib.hid (equalDg_same (HV7.out.below b8) hv8.rd denV_32)
              clear hv8 b8 HOB HPB7 HB7 HV7
              go_wp2_with fail
              refine HEQ.out.mono ?_
              rintro e w9 ⟨rfl, b9⟩
              have HPB9 := Lib.hid (HPB8.out.below b9)
              have HB9 : Hid (Below w.heap.size w w9) := HB8.out.trans (b9.mono HB8.out.size)
              have HDD := Lib.hid (HPB9.out.one.log (by have := HTW2.out.ga.log; omega))
              clear b9 HEQ HPB8 HB8
              go_wp2_with fail
              refine HDD.out.mono ?_
              rintro e w7 ⟨v7, rfl, hv7, b7⟩
              have HV7 := Lib.hid (RdS.of hv7)
              have HPB7 := Lib.hid (HPB9.out.below b7)
              have HB7 : Hid (Below w.heap.size w w7) := HB9.out.trans (b7.mono HB9.out.size)
              have hob := HPB7.out.two.log (by have := HTW2.out.gb.log; omega)
              rw [← HTW2.out.s.log] at hob
              have HOB := Lib.hid hob
              clear hv7 b7 hob HDD HPB9 HB9
              go_wp2_with fail
              refine HOB.out.mono ?_
              rintro e w8 ⟨v8, rfl, hv8, b8⟩
              have HPB8 := Lib.hid (HPB7.out.below b8)
              have HB8 : Hid (Below w.heap.size w w8) := HB7.out.trans (b8.mono HB7.out.size)
              have HEQ := Lib.hid (equalSt_same (HV7.out.below b8) (RdS.of hv8))
              clear hv8 b8 HOB HPB7 HB7 HV7
              go_wp2_with fail
              refine HEQ.out.mono ?_
              rintro e w9 ⟨rfl, b9⟩
              have HPB9 := Lib.hid ((HPB8.out.below b9).mono (n' := 32 + (i + 1)) (m' := 32 + 11 * (i + 1)) (by omega) (by omega))
              have HB9 : Hid (Below w.heap.size w w9) := HB8.out.trans (b9.mono HB8.out.size)
              have HTW3 : Hid (Two (i + 1) (11 * (i + 1)) (i + 1) A1 B1) := ⟨HTW2.out.ga, HTW2.out.gb.mono (by omega) (Nat.le_refl _), HTW2.out.s⟩
              clear b9 HEQ HPB8 HB8 HTW2
              go_wp2_with fail
              go_roundw
              case rel => exact ⟨i + 1, A1, B1, by omega, by go_num, HTW3, HPB9, HB9⟩
              case measure => simp [intOf]; omega
        · have y0 : ¬ (i : Int) < len := by omega
          have HAW := Lib.hid (awake_any wr HPB.out.rnd HPB.out.pos)
          go_wp2_with fail
          refine HAW.out.mono ?_
          rintro e w4 ⟨rfl, b4⟩
          have HB4 : Hid (Below w.heap.size w w4) := HB.out.trans (b4.mono HB.out.size)
          clear b4 HAW
          go_wp2_with fail
          go_ret
          exact ⟨rfl, HB4.out⟩
end Go.Proofs.YtdinbpdpalgohaaGreatDoor
namespace Go.Proofs.YtdinbpdpalgohaaGreatDoor.bootSurvivesCompactionDone
open Go.ChangeShapes Go.WideShapes Go.ChangeAt Go.RowKit Go.Deep
open Go.ChangeMaps (open_string shut_string)

set_option maxRecDepth 100000 in
theorem contract (H : Type) (enc : TypeId × Value → H) (W : World) (base : Nat) (args : Array Value) (ds gs : List (DataW H)) (before : List MemPlace)
    (hval0 : ∀ (j : Nat) t v, Tryz.f9.params[j]? = some t → args[j]? = some v → Value.okWide Tryz.prog W .any base t v)
    (hW : DataW.Whole enc Tryz.prog Tryz.f9.params.toList Rows.bootSurvivesCompactionSpec.vars false W args.toList ds gs before) (hL : laidMetH Tryz.prog Rows.bootSurvivesCompactionRow.laid W) :
    Calls Tryz.prog 9 args W fun e W' => ∃ v, e = .returned v ∧ Rows.bootSurvivesCompactionSpec.post enc Tryz.prog Tryz.f9 false true false false W args v W' := by
  have hR : Ms.Rnd W := rnd_of hL
  have h00 : 0 < W.heap.size := rnd_pos hR
  have hval := hval0
  have hW' := hW
  obtain ⟨p, q, hA0, hV, rfl, hfz, hnd⟩ := hW
  have hA : DataW.TrodAll enc Tryz.prog W 0 (fun _ => true) true Tryz.f9.params.toList args.toList ds p := hA0
  rw [Tryz.params9] at hA hval
  obtain ⟨v0, vs0, d0, ds0, p0, q0, hargs, rfl, rfl, h0, r0⟩ := trodAll_cons hA
  obtain ⟨v1, vs1, d1, ds1, p1, q1, rfl, rfl, rfl, h1, r1⟩ := trodAll_cons r0
  obtain ⟨rfl, rfl, rfl⟩ := trodAll_nil r1
  obtain rfl : args = #[v0, v1] := by cases args; simp_all
  obtain ⟨rfl, rfl⟩ := trodVars_none hV
  obtain ⟨a0, len0, cap0, rfl⟩ := okWide_slice Tryz.underlying52 (hval 0 52 v0 rfl rfl)
  have k0 := h0
  have lt0 : ∀ x ∈ p0, x.block < W.heap.size := by obtain ⟨m, hm⟩ := k0; exact DataW.trod_lt m _ _ _ hm
  obtain ⟨f0, s0⟩ : ∃ f, CallS W a0 len0 cap0 f := by
    obtain ⟨fuel, hf⟩ := h0
    obtain ⟨A, l, c, f, hcs, hs⟩ := open_calls hf
    simp [Value.cells] at hcs
    obtain ⟨rfl, rfl, rfl⟩ := hcs
    exact ⟨f, hs⟩
  obtain ⟨a1, len1, cap1, rfl⟩ := okWide_slice Tryz.underlying37 (hval 1 37 v1 rfl rfl)
  have k1 := h1
  have lt1 : ∀ x ∈ p1, x.block < W.heap.size := by obtain ⟨m, hm⟩ := k1; exact DataW.trod_lt m _ _ _ hm
  obtain ⟨f1, s1⟩ : ∃ f, StrS W a1 len1 cap1 f := by
    obtain ⟨fuel, hf⟩ := h1
    obtain ⟨A, l, c, f, hcs, hs⟩ := open_strl hf
    simp [Value.cells] at hcs
    obtain ⟨rfl, rfl, rfl⟩ := hcs
    exact ⟨f, hs⟩
  clear hA0 hval0
  refine (survives_any a0 len0 cap0 f0 a1 len1 cap1 f1 W s0 s1 hR h00).mono fun e W' ⟨he, bel⟩ => ?_
  subst he
  exact ⟨_, rfl, _, _, _, [], _, [], hW', trodAll_mk1 (shut_bool Tryz.underlying4 _), (trodAll_cons_mk (Below.trod laidOut (by kernel_rfl) (of_decide_eq_true (by kernel_rfl)) k0 bel lt0) (trodAll_cons_mk (Below.trod laidOut (by kernel_rfl) (of_decide_eq_true (by kernel_rfl)) k1 bel lt1) trodAll_mk0)), rfl, bel.frame _, fun h => by cases h⟩

theorem laid_met (os : Os) : laidMet Tryz.prog Rows.bootSurvivesCompactionRow.laid ((laidWorld os).forCall (fun _ _ => 0) ⟨#[], #[.slice none 0 0, .slice none 0 0], []⟩).memory :=
  laidMet_of_run' 8 (by kernel_rfl) (by kernel_rfl)
theorem reads (os : Os) {H : Type} (enc : TypeId × Value → H) : ∃ places, DataW.whole enc Tryz.prog ((laidWorld os).forCall (fun _ _ => 0) ⟨#[], #[.slice none 0 0, .slice none 0 0], []⟩).memory Tryz.f9.params.toList Rows.bootSurvivesCompactionSpec.vars false (#[.slice none 0 0, .slice none 0 0] : Array Value).toList 8 = some ([.nil, .nil], [], places) :=
  ⟨[], by kernel_rfl⟩

set_option maxRecDepth 100000 in
theorem lifted (os : Os) (started : os.Started) (H : Type) (enc : TypeId × Value → H) (F : Stop.Interp) :
    ReturnsInHanded {} Tryz.checked os 9 .any ((OpenSpec.ofChange Rows.bootSurvivesCompactionSpec).preRow enc Tryz.prog Tryz.f9 Rows.bootSurvivesCompactionRow.domain false Rows.bootSurvivesCompactionRow.laid) (((OpenSpec.ofChange Rows.bootSurvivesCompactionSpec).at F).post enc Tryz.prog Tryz.f9 false true false false) := by
  obtain ⟨places, hx⟩ := reads os enc
  refine returnsInHanded_of_row (C := Tryz.checked) (s := OpenSpec.ofChange Rows.bootSurvivesCompactionSpec) own started (by kernel_rfl) Tryz.func9
    (witness_row_at (enc := enc) (C := Tryz.checked) false (laidWorld os) #[.slice none 0 0, .slice none 0 0] rfl (by kernel_rfl) (by kernel_rfl) (by kernel_rfl)
      (OpenSpec.preRow_of_cond 8 hx (by kernel_rfl) (fun k hk => by cases hk) (by kernel_rfl) (laid_met os))) ?_
  intro W base args ds gs before hval hW _ _ _ hL _ _
  exact contract H enc W base args ds gs before hval hW hL

theorem said : Rows.BootSurvivesCompactionSaid :=
  OpenClaim.holds_of_cond 9 Tryz.f9 rfl rfl rfl rfl rfl rfl rfl ⟨rfl, rfl, rfl, rfl, rfl⟩ rfl rfl rfl rfl rfl (by kernel_rfl) Tryz.func9 (by kernel_rfl)
    (of_decide_eq_true (by kernel_rfl)) (by unfold Func.isWrapper; first | (rw [if_pos (by decide +kernel)]; kernel_rfl) | (rw [if_neg (by decide +kernel)]; exact ⟨rfl, rfl⟩))
    (fun os started H enc _ F => by rw [OpenClaim.pre_eq_preRow]; exact lifted os started H enc F)

theorem plain (f : FuncId) (fn : Func) (hf : Tryz.pinned.checked.prog.funcNamed "platformfw/platformfwlaw43.BootSurvivesCompaction" = some f) (hfn : Tryz.pinned.checked.prog.funcs[f]? = some fn) :
    true = Tryz.pinned.checked.prog.looks [] ∧ ∀ (j : Nat) t, fn.params[j]? = some t → Tryz.pinned.checked.prog.wantsStandIn t = false := by
  obtain rfl : f = 9 := Option.some.inj ((show Tryz.prog.funcNamed "platformfw/platformfwlaw43.BootSurvivesCompaction" = some 9 by kernel_rfl).symm.trans hf) |>.symm
  obtain rfl : fn = Tryz.f9 := (Option.some.inj (Tryz.func9.symm.trans hfn)).symm
  refine ⟨by kernel_rfl, fun j t ht => ?_⟩
  rw [Tryz.params9] at ht
  have hall : (Tryz.f9.params.all fun t => !Tryz.prog.wantsStandIn t) = true := by kernel_rfl
  rw [Tryz.params9] at hall
  have := Array.all_eq_true_iff_forall_mem.1 hall t (Array.mem_of_getElem? ht)
  show Tryz.prog.wantsStandIn t = false
  simpa using this

theorem proved : Rows.BootSurvivesCompactionCardSaid :=
  Claim7.holds_tied_plain_at .later [] _ _ _ _ said (fun _ h => by cases h) (by kernel_rfl) (fun _ h => by cases h) bootSurvivesCompaction_row_tie rfl ⟨rfl, rfl⟩ (by kernel_rfl) rfl plain (by kernel_rfl)
#print axioms proved
end Go.Proofs.YtdinbpdpalgohaaGreatDoor.bootSurvivesCompactionDone
