/- EnumerateMatchesModel answers true. No condition but that the arguments lie in memory. -/
import Derived.Test.YtedihfcbpgogoaaTM
namespace Go.Proofs.Ytedihfcbpgogoaa
open Go.RowKit
/-- The function that was handed over lies in block Z. -/
def Boxed (Z : Nat) (f : Fn) (Y : World) : Prop := ∀ j u, (cF f)[j]? = some u → Y.cell? ⟨Z, j, none⟩ = some u
theorem Boxed.ch {Z : Nat} {f : Fn} {Y Y' : World} {R : Nat → Prop} (h : Boxed Z f Y) (c : Ch R Y Y') (hz : Z < Y.heap.size) (hr : ¬ R Z) : Boxed Z f Y' := fun j u hu => (c.cell ⟨Z, j, none⟩ hz hr).trans (h j u hu)
theorem Boxed.below {Z : Nat} {f : Fn} {Y Y' : World} {B : Nat} (h : Boxed Z f Y) (c : Below B Y Y') (hz : Z < B) : Boxed Z f Y' := fun j u hu => (c.cell (p := ⟨Z, j, none⟩) hz).trans (h j u hu)
theorem TM.below {w w' : World} {g len cap : Nat} {T : List Fn} (h : TM w g len cap T) (hb : Below w.heap.size w w') : TM w' g len cap T := by
  obtain ⟨cur, hc⟩ := h.hp
  exact ⟨h.fn.below hb, h.ap, cur, ((Ch.of_below hb (fun _ => False)).block g (heap_lt hc) id).trans hc⟩
set_option maxRecDepth 100000 in
set_option maxHeartbeats 8000000 in
theorem matches_any {w : World} {a : Option Addr} {len cap : Nat} {T0 : List Fn} {n at' kind : Int} {f : Fn} {fa : Option Addr} {fn fc : Nat} (h : FnS w a len cap T0) (hs : BarS w fa fn fc f.ba) (hw : wfF f) (hk : 0 ≤ kind ∧ kind ≤ 255) :
    Calls Try.prog 3 #[.slice a len cap, .int .i64 n, .int .i64 at', .agg #[.int .i64 f.pa, .int .i64 f.sl, .int .i64 f.ve, .int .i64 f.de, .bool f.br, .bool f.pf, .bool f.hp, .int .i64 f.sp, .int .i64 f.pn, .int .i64 f.vc, .slice fa fn fc], .int .u8 kind] w fun e w' => e = .returned (.bool true) ∧ Below w.heap.size w w' := by
  obtain ⟨F, hF⟩ : ∃ F : Fn, F = { f with bv := .slice fa fn fc } := ⟨_, rfl⟩
  have hwF : wfF F := by rw [hF]; exact hw
  have hsF : BarS w fa fn fc F.ba := by rw [hF]; exact hs
  have hbF : F.bv = .slice fa fn fc := by rw [hF]
  rw [show f.pa = F.pa by rw [hF], show f.sl = F.sl by rw [hF], show f.ve = F.ve by rw [hF], show f.de = F.de by rw [hF], show f.br = F.br by rw [hF], show f.pf = F.pf by rw [hF], show f.hp = F.hp by rw [hF], show f.sp = F.sp by rw [hF], show f.pn = F.pn by rw [hF], show f.vc = F.vc by rw [hF]]
  clear hs hw hF f
  have BX : Hid (Boxed w.heap.size F (w.alloc (.cells #[.int .i64 F.pa, .int .i64 F.sl, .int .i64 F.ve, .int .i64 F.de, .bool F.br, .bool F.pf, .bool F.hp, .int .i64 F.sp, .int .i64 F.pn, .int .i64 F.vc, .slice fa fn fc] 25))) := fun j u hu => by
    rw [cell_of_row _ _ j _ _ _ (heap_alloc_new w _)]
    have e : cF F = [.int .i64 F.pa, .int .i64 F.sl, .int .i64 F.ve, .int .i64 F.de, .bool F.br, .bool F.pf, .bool F.hp, .int .i64 F.sp, .int .i64 F.pn, .int .i64 F.vc, .slice fa fn fc] := by unfold cF; rw [hbF]
    rw [e] at hu
    simpa using hu
  have B0 : Hid (Below w.heap.size w (w.alloc (.cells #[.int .i64 F.pa, .int .i64 F.sl, .int .i64 F.ve, .int .i64 F.de, .bool F.br, .bool F.pf, .bool F.hp, .int .i64 F.sp, .int .i64 F.pn, .int .i64 F.vc, .slice fa fn fc] 25))) := (Below.refl _ _).alloc (Nat.le_refl _) _
  have HT := Lib.hid (topo_any (h.below B0.out))
  have H0 := Lib.hid (h.below B0.out)
  have h0len := Lib.hid h.len
  have HS0 := Lib.hid (hsF.below B0.out (Nat.le_refl _))
  have hz : w.heap.size < (w.alloc (.cells #[.int .i64 F.pa, .int .i64 F.sl, .int .i64 F.ve, .int .i64 F.de, .bool F.br, .bool F.pf, .bool F.hp, .int .i64 F.sp, .int .i64 F.pn, .int .i64 F.vc, .slice fa fn fc] 25)).heap.size := by simp
  have hfa : Hid (∀ b o, fa = some ⟨b, o, none⟩ → F.ba ≠ [] → b < w.heap.size) := fun b o e hne => by
    obtain ⟨_, _, _, _, h5⟩ := hsF
    obtain ⟨b', o', e', hl, _⟩ := h5 hne
    rw [e] at e'
    injection e' with e'
    injection e' with e1
    omega
  clear h hsF
  go_enter Try.func3, Try.ntmps3
  go_wp2_with fail
  obtain ⟨Z, hZ⟩ : ∃ Z, w.heap.size = Z := ⟨_, rfl⟩
  have HZ := Lib.hid hZ
  rw [hZ] at hz BX hfa ⊢
  clear hZ
  generalize w.alloc (.cells #[.int .i64 F.pa, .int .i64 F.sl, .int .i64 F.ve, .int .i64 F.de, .bool F.br, .bool F.pf, .bool F.hp, .int .i64 F.sp, .int .i64 F.pn, .int .i64 F.vc, .slice fa fn fc] 25) = W0 at *
  refine HT.out.mono ?_
  rintro e w1 ⟨X, vb, vo, Lb, T, Sx, nn, rfl, S, G, hT⟩
  obtain ⟨a1, c1, rfl, H1⟩ := topo_FnS S G
  have H := Lib.hid H1
  have HS := Lib.hid S
  have HG := Lib.hid G
  have B1 := Lib.hid S.bel
  have V := Lib.hid (G.vld hT)
  have hcc := H1.len.2.1
  have hl0 := h0len.out
  have HA := Lib.hid (awake_any w1)
  have HMo := Lib.hid (fun Y => mod_any n 60 Y (by omega) (by omega))
  have hn60 := moI_lt n 60 (by omega)
  clear H1 S G HT
  have HL := Lib.hid ((H0.out.take (k := (min (len : Int) 80).toNat) (by omega)).below B1.out)
  have hcl : (min (len : Int) 80).toNat ≤ cap := by omega
  go_wp2_with fail
  refine HA.out.mono ?_
  rintro e w2 ⟨rfl, b2⟩
  have C2 : Hid (Below w1.heap.size w1 w2) := Lib.hid b2
  have HA1 := Lib.hid (agrees_any (n := n) (HL.out.below C2.out))
  clear b2 HA HL
  go_wp2_with fail
  refine HA1.out.mono ?_
  rintro e w3 ⟨rfl, b3⟩
  have C3 : Hid (Below w1.heap.size w1 w3) := bthen C2.out b3
  have HA2 := Lib.hid (agrees_any (n := n) (H.out.below C3.out))
  clear b3 HA1
  go_wp2_with fail
  refine HA2.out.mono ?_
  rintro e w4 ⟨rfl, b4⟩
  have C4 : Hid (Below w1.heap.size w1 w4) := bthen C3.out b4
  have HM4 := Lib.hid (HMo.out w4)
  clear b4 HA2
  go_wp2_with fail
  refine HM4.out.mono ?_
  rintro e w5 ⟨rfl, rfl⟩
  have HA3 := Lib.hid (agrees_any (n := 1 + moI n 60) (H.out.below C4.out))
  clear HM4 HMo
  go_wp2_with fail
  refine HA3.out.mono ?_
  rintro e w6 ⟨rfl, b6⟩
  have C6 : Hid (Below w1.heap.size w1 w6) := bthen C4.out b6
  have CW : Hid (Below w.heap.size w w6) := bthen B0.out (bthen B1.out C6.out)
  clear b6 HA3
  obtain ⟨m, hm⟩ : ∃ m, T.length = m := ⟨_, rfl⟩
  have HM := Lib.hid hm
  rw [hm] at H hT hcc HS ⊢
  clear hm
  rcases Nat.eq_zero_or_pos m with hm0 | hm0
  · subst hm0
    go_wp2_with fail
    go_ret
    exact ⟨rfl, CW.out⟩
  · have hm0I : ¬ (m : Int) = 0 := by omega
    obtain ⟨q, hq⟩ : ∃ q : Nat, moI at' (m : Int) = (q : Int) := ⟨(moI at' (m : Int)).toNat, by have := (moI_lt at' (m : Int) (by omega)).1; omega⟩
    have hqm : q < m := by have := (moI_lt at' (m : Int) (by omega)).2; omega
    have HMo : Hid (∀ Y : World, Calls Try.prog 12 #[.int .i64 at', .int .i64 (m : Int)] Y fun e w' => e = .returned (.int .i64 (q : Int)) ∧ Y = w') := fun Y => (mod_any at' (m : Int) Y (by omega) (by omega)).mono (fun e w' ⟨h3, h4⟩ => ⟨by rw [h3, hq], h4.symm⟩)
    have hqI : (q : Int) < m := by omega
    have HM6 := Lib.hid (HMo.out w6)
    clear hq
    obtain ⟨g, rfl, tm1, hgW⟩ : ∃ g, a1 = some ⟨g, 0, none⟩ ∧ TM w1 g m c1 T ∧ W0.heap.size ≤ g := by
      have e := HM.out
      have hS := HS.out
      rw [← e] at hS hm0 ⊢
      exact topo_TM hS HG.out hm0
    have TMh := Lib.hid (tm1.below C6.out)
    have C06 : Hid (Below W0.heap.size W0 w6) := bthen B1.out C6.out
    have BX6 : Hid (Boxed Z F w6) := BX.out.below C06.out hz
    have hZ6 : Z < w6.heap.size := Nat.lt_of_lt_of_le hz C06.out.size
    have hZg : Z ≠ g := by omega
    have hwg : w.heap.size ≤ g := by have := B0.out.size; omega
    clear tm1 HMo HS HG H
    go_wp2_with fail
    refine HM6.out.mono ?_
    rintro e w7 ⟨rfl, rfl⟩
    clear HM6
    obtain ⟨kq, hkq⟩ : ∃ kq : Int, kind.tmod 4 = kq := ⟨_, rfl⟩
    have hk4 : kq = 0 ∨ kq = 1 ∨ kq = 2 ∨ kq = 3 := by
      have : kind.tmod 4 = kind % 4 := by rw [Int.tmod_eq_emod_of_nonneg hk.1]
      omega
    rcases hk4 with rfl | rfl | rfl | rfl
    · have HMp : Hid (∀ Y : World, Calls Try.prog 12 #[.int .i64 F.pa, .int .i64 ((m : Int) + 2)] Y fun e w' => e = .returned (.int .i64 (moI F.pa ((m : Int) + 2))) ∧ Y = w') := fun Y => (mod_any F.pa ((m : Int) + 2) Y (by omega) (by omega)).mono (fun e w' ⟨h3, h4⟩ => ⟨h3, h4.symm⟩)
      have hmo := moI_lt F.pa ((m : Int) + 2) (by omega)
      obtain ⟨x, hx⟩ : ∃ p, moI F.pa ((m : Int) + 2) = p := ⟨_, rfl⟩
      rw [hx] at HMp hmo
      have d0 : w6.cell? ⟨g, q * 11, none⟩ = some (.int .i64 (fAt T q).pa) := (TMh.out.cell (j := 0) hqm rfl).1
      have f0 : w6.frozen? ⟨g, q * 11, none⟩ = false := (TMh.out.cell (j := 0) (k := q) hqm rfl).2
      have s0 : w6.cell? ⟨Z, 0, none⟩ = some (.int .i64 F.pa) := BX6.out 0 _ rfl
      clear hx
      go_wp2_with fail
      refine (HMp.out _).mono ?_
      rintro e w7 ⟨rfl, rfl⟩
      have TM7 : Hid (TM (w6.setCell ⟨g, q * 11, none⟩ (.int .i64 (x - 1))) g m c1 (T.set q { fAt T q with pa := x - 1 })) := by
        refine TMh.out.fld (j := 0) hqm (by omega) rfl (near (fun h => absurd rfl h) (fun _ => rfl) (fun _ => rfl) (fun _ => rfl) (fun _ => rfl) (fun _ => rfl) (fun _ => rfl) (fun _ => rfl) (fun _ => rfl) (fun _ => rfl) (fun _ => rfl)) ?_ rfl rfl
        obtain ⟨_, _, _, _, ⟨h0, h1, h2, h3, h7, h8, h9⟩, _, _⟩ := TMh.out.fn.at hqm
        exact ⟨(show InI (x - 1) from ⟨by omega, by omega⟩), h1, h2, h3, h7, h8, h9⟩
      have C7 : Hid (Ch (fun k => k = g) w6 (w6.setCell ⟨g, q * 11, none⟩ (.int .i64 (x - 1)))) := (Ch.refl (fun k => k = g) w6).setCell (p := ⟨g, q * 11, none⟩) (fun _ => rfl) _
      go_wp2_with fail
      refine (agrees_any (n := 256) TM7.out.fn).mono ?_
      rintro e w8 ⟨rfl, b8⟩
      have C8 : Hid (Below w.heap.size w w8) := bthen (CW.out.trans (C7.out.below CW.out.size (fun k hk => by omega))) b8
      clear b8
      go_wp2_with fail
      go_ret
      exact ⟨rfl, C8.out⟩
    · have HMp : Hid (∀ Y : World, Calls Try.prog 12 #[.int .i64 F.sl, .int .i64 34] Y fun e w' => e = .returned (.int .i64 (moI F.sl 34)) ∧ Y = w') := fun Y => (mod_any F.sl 34 Y (by omega) (by omega)).mono (fun e w' ⟨h3, h4⟩ => ⟨h3, h4.symm⟩)
      have hmo := moI_lt F.sl 34 (by omega)
      obtain ⟨x, hx⟩ : ∃ p, moI F.sl 34 = p := ⟨_, rfl⟩
      rw [hx] at HMp hmo
      have d0 : w6.cell? ⟨g, q * 11 + 1, none⟩ = some (.int .i64 (fAt T q).sl) := (TMh.out.cell (j := 1) hqm rfl).1
      have f0 : w6.frozen? ⟨g, q * 11 + 1, none⟩ = false := (TMh.out.cell (j := 1) (k := q) hqm rfl).2
      have s0 : w6.cell? ⟨Z, 1, none⟩ = some (.int .i64 F.sl) := BX6.out 1 _ rfl
      clear hx
      go_wp2_with fail
      refine (HMp.out _).mono ?_
      rintro e w7 ⟨rfl, rfl⟩
      have TM7 : Hid (TM (w6.setCell ⟨g, q * 11 + 1, none⟩ (.int .i64 (x - 1))) g m c1 (T.set q { fAt T q with sl := x - 1 })) := by
        refine TMh.out.fld (j := 1) hqm (by omega) rfl (near (fun _ => rfl) (fun h => absurd rfl h) (fun _ => rfl) (fun _ => rfl) (fun _ => rfl) (fun _ => rfl) (fun _ => rfl) (fun _ => rfl) (fun _ => rfl) (fun _ => rfl) (fun _ => rfl)) ?_ rfl rfl
        obtain ⟨_, _, _, _, ⟨h0, h1, h2, h3, h7, h8, h9⟩, _, _⟩ := TMh.out.fn.at hqm
        exact ⟨h0, (show InI (x - 1) from ⟨by omega, by omega⟩), h2, h3, h7, h8, h9⟩
      have C7 : Hid (Ch (fun k => k = g) w6 (w6.setCell ⟨g, q * 11 + 1, none⟩ (.int .i64 (x - 1)))) := (Ch.refl (fun k => k = g) w6).setCell (p := ⟨g, q * 11 + 1, none⟩) (fun _ => rfl) _
      go_wp2_with fail
      refine (agrees_any (n := 256) TM7.out.fn).mono ?_
      rintro e w8 ⟨rfl, b8⟩
      have C8 : Hid (Below w.heap.size w w8) := bthen (CW.out.trans (C7.out.below CW.out.size (fun k hk => by omega))) b8
      clear b8
      go_wp2_with fail
      go_ret
      exact ⟨rfl, C8.out⟩
    · have d0 : w6.cell? ⟨g, q * 11 + 4, none⟩ = some (.bool (fAt T q).br) := (TMh.out.cell (j := 4) hqm rfl).1
      have f0 : w6.frozen? ⟨g, q * 11 + 4, none⟩ = false := (TMh.out.cell (j := 4) (k := q) hqm rfl).2
      have hbr : ∃ br, (fAt T q).br = br := ⟨_, rfl⟩
      obtain ⟨br, hbr⟩ := hbr
      rw [hbr] at d0
      have TM7 : Hid (TM (w6.setCell ⟨g, q * 11 + 4, none⟩ (.bool (!br))) g m c1 (T.set q { fAt T q with br := !br })) := by
        refine TMh.out.fld (j := 4) hqm (by omega) rfl (near (fun _ => rfl) (fun _ => rfl) (fun _ => rfl) (fun _ => rfl) (fun h => absurd rfl h) (fun _ => rfl) (fun _ => rfl) (fun _ => rfl) (fun _ => rfl) (fun _ => rfl) (fun _ => rfl)) ?_ rfl rfl
        obtain ⟨_, _, _, _, ⟨h0, h1, h2, h3, h7, h8, h9⟩, _, _⟩ := TMh.out.fn.at hqm
        exact ⟨h0, h1, h2, h3, h7, h8, h9⟩
      have C7 : Hid (Ch (fun k => k = g) w6 (w6.setCell ⟨g, q * 11 + 4, none⟩ (.bool (!br)))) := (Ch.refl (fun k => k = g) w6).setCell (p := ⟨g, q * 11 + 4, none⟩) (fun _ => rfl) _
      clear hbr
      go_wp2_with fail
      refine (agrees_any (n := 256) TM7.out.fn).mono ?_
      rintro e w8 ⟨rfl, b8⟩
      have C8 : Hid (Below w.heap.size w w8) := bthen (CW.out.trans (C7.out.below CW.out.size (fun k hk => by omega))) b8
      clear b8
      go_wp2_with fail
      go_ret
      exact ⟨rfl, C8.out⟩
    · have hcF : cF F = [.int .i64 F.pa, .int .i64 F.sl, .int .i64 F.ve, .int .i64 F.de, .bool F.br, .bool F.pf, .bool F.hp, .int .i64 F.sp, .int .i64 F.pn, .int .i64 F.vc, .slice fa fn fc] := by unfold cF; rw [hbF]
      have d0 : w6.cell? ⟨g, q * 11, none⟩ = some ((.int .i64 (fAt T q).pa) : Value) := (TMh.out.cell (j := 0) hqm rfl).1
      have f0 : w6.frozen? ⟨g, q * 11, none⟩ = false := (TMh.out.cell (j := 0) (k := q) hqm rfl).2
      have s0 : w6.cell? ⟨Z, 0, none⟩ = some ((.int .i64 F.pa) : Value) := BX6.out 0 _ (by rw [hcF]; rfl)
      have d1 : w6.cell? ⟨g, q * 11 + 1, none⟩ = some ((.int .i64 (fAt T q).sl) : Value) := (TMh.out.cell (j := 1) hqm rfl).1
      have f1 : w6.frozen? ⟨g, q * 11 + 1, none⟩ = false := (TMh.out.cell (j := 1) (k := q) hqm rfl).2
      have s1 : w6.cell? ⟨Z, 1, none⟩ = some ((.int .i64 F.sl) : Value) := BX6.out 1 _ (by rw [hcF]; rfl)
      have d2 : w6.cell? ⟨g, q * 11 + 2, none⟩ = some ((.int .i64 (fAt T q).ve) : Value) := (TMh.out.cell (j := 2) hqm rfl).1
      have f2 : w6.frozen? ⟨g, q * 11 + 2, none⟩ = false := (TMh.out.cell (j := 2) (k := q) hqm rfl).2
      have s2 : w6.cell? ⟨Z, 2, none⟩ = some ((.int .i64 F.ve) : Value) := BX6.out 2 _ (by rw [hcF]; rfl)
      have d3 : w6.cell? ⟨g, q * 11 + 3, none⟩ = some ((.int .i64 (fAt T q).de) : Value) := (TMh.out.cell (j := 3) hqm rfl).1
      have f3 : w6.frozen? ⟨g, q * 11 + 3, none⟩ = false := (TMh.out.cell (j := 3) (k := q) hqm rfl).2
      have s3 : w6.cell? ⟨Z, 3, none⟩ = some ((.int .i64 F.de) : Value) := BX6.out 3 _ (by rw [hcF]; rfl)
      have d4 : w6.cell? ⟨g, q * 11 + 4, none⟩ = some ((.bool (fAt T q).br) : Value) := (TMh.out.cell (j := 4) hqm rfl).1
      have f4 : w6.frozen? ⟨g, q * 11 + 4, none⟩ = false := (TMh.out.cell (j := 4) (k := q) hqm rfl).2
      have s4 : w6.cell? ⟨Z, 4, none⟩ = some ((.bool F.br) : Value) := BX6.out 4 _ (by rw [hcF]; rfl)
      have d5 : w6.cell? ⟨g, q * 11 + 5, none⟩ = some ((.bool (fAt T q).pf) : Value) := (TMh.out.cell (j := 5) hqm rfl).1
      have f5 : w6.frozen? ⟨g, q * 11 + 5, none⟩ = false := (TMh.out.cell (j := 5) (k := q) hqm rfl).2
      have s5 : w6.cell? ⟨Z, 5, none⟩ = some ((.bool F.pf) : Value) := BX6.out 5 _ (by rw [hcF]; rfl)
      have d6 : w6.cell? ⟨g, q * 11 + 6, none⟩ = some ((.bool (fAt T q).hp) : Value) := (TMh.out.cell (j := 6) hqm rfl).1
      have f6 : w6.frozen? ⟨g, q * 11 + 6, none⟩ = false := (TMh.out.cell (j := 6) (k := q) hqm rfl).2
      have s6 : w6.cell? ⟨Z, 6, none⟩ = some ((.bool F.hp) : Value) := BX6.out 6 _ (by rw [hcF]; rfl)
      have d7 : w6.cell? ⟨g, q * 11 + 7, none⟩ = some ((.int .i64 (fAt T q).sp) : Value) := (TMh.out.cell (j := 7) hqm rfl).1
      have f7 : w6.frozen? ⟨g, q * 11 + 7, none⟩ = false := (TMh.out.cell (j := 7) (k := q) hqm rfl).2
      have s7 : w6.cell? ⟨Z, 7, none⟩ = some ((.int .i64 F.sp) : Value) := BX6.out 7 _ (by rw [hcF]; rfl)
      have d8 : w6.cell? ⟨g, q * 11 + 8, none⟩ = some ((.int .i64 (fAt T q).pn) : Value) := (TMh.out.cell (j := 8) hqm rfl).1
      have f8 : w6.frozen? ⟨g, q * 11 + 8, none⟩ = false := (TMh.out.cell (j := 8) (k := q) hqm rfl).2
      have s8 : w6.cell? ⟨Z, 8, none⟩ = some ((.int .i64 F.pn) : Value) := BX6.out 8 _ (by rw [hcF]; rfl)
      have d9 : w6.cell? ⟨g, q * 11 + 9, none⟩ = some ((.int .i64 (fAt T q).vc) : Value) := (TMh.out.cell (j := 9) hqm rfl).1
      have f9 : w6.frozen? ⟨g, q * 11 + 9, none⟩ = false := (TMh.out.cell (j := 9) (k := q) hqm rfl).2
      have s9 : w6.cell? ⟨Z, 9, none⟩ = some ((.int .i64 F.vc) : Value) := BX6.out 9 _ (by rw [hcF]; rfl)
      have d10 : w6.cell? ⟨g, q * 11 + 10, none⟩ = some (((fAt T q).bv) : Value) := (TMh.out.cell (j := 10) hqm rfl).1
      have f10 : w6.frozen? ⟨g, q * 11 + 10, none⟩ = false := (TMh.out.cell (j := 10) (k := q) hqm rfl).2
      have s10 : w6.cell? ⟨Z, 10, none⟩ = some ((.slice fa fn fc) : Value) := BX6.out 10 _ (by rw [hcF]; rfl)
      have TM7 : Hid (TM (((((((((((w6.setCell ⟨g, q * 11, none⟩ (.int .i64 F.pa)).setCell ⟨g, q * 11 + 1, none⟩ (.int .i64 F.sl)).setCell ⟨g, q * 11 + 2, none⟩ (.int .i64 F.ve)).setCell ⟨g, q * 11 + 3, none⟩ (.int .i64 F.de)).setCell ⟨g, q * 11 + 4, none⟩ (.bool F.br)).setCell ⟨g, q * 11 + 5, none⟩ (.bool F.pf)).setCell ⟨g, q * 11 + 6, none⟩ (.bool F.hp)).setCell ⟨g, q * 11 + 7, none⟩ (.int .i64 F.sp)).setCell ⟨g, q * 11 + 8, none⟩ (.int .i64 F.pn)).setCell ⟨g, q * 11 + 9, none⟩ (.int .i64 F.vc)).setCell ⟨g, q * 11 + 10, none⟩ (.slice fa fn fc)) g m c1 (T.set q F)) :=
        TMh.out.whole hqm hwF hbF HS0.out.1 (HS0.out.below C06.out (Nat.le_refl _)) (fun hne b o e => by have := hfa.out b o e hne; omega)
      have C7 : Hid (Ch (fun k => k = g) w6 (((((((((((w6.setCell ⟨g, q * 11, none⟩ (.int .i64 F.pa)).setCell ⟨g, q * 11 + 1, none⟩ (.int .i64 F.sl)).setCell ⟨g, q * 11 + 2, none⟩ (.int .i64 F.ve)).setCell ⟨g, q * 11 + 3, none⟩ (.int .i64 F.de)).setCell ⟨g, q * 11 + 4, none⟩ (.bool F.br)).setCell ⟨g, q * 11 + 5, none⟩ (.bool F.pf)).setCell ⟨g, q * 11 + 6, none⟩ (.bool F.hp)).setCell ⟨g, q * 11 + 7, none⟩ (.int .i64 F.sp)).setCell ⟨g, q * 11 + 8, none⟩ (.int .i64 F.pn)).setCell ⟨g, q * 11 + 9, none⟩ (.int .i64 F.vc)).setCell ⟨g, q * 11 + 10, none⟩ (.slice fa fn fc))) := ((((((((((((Ch.refl (fun k => k = g) w6).setCell (p := ⟨g, q * 11, none⟩) (fun _ => rfl) _).setCell (p := ⟨g, q * 11 + 1, none⟩) (fun _ => rfl) _).setCell (p := ⟨g, q * 11 + 2, none⟩) (fun _ => rfl) _).setCell (p := ⟨g, q * 11 + 3, none⟩) (fun _ => rfl) _).setCell (p := ⟨g, q * 11 + 4, none⟩) (fun _ => rfl) _).setCell (p := ⟨g, q * 11 + 5, none⟩) (fun _ => rfl) _).setCell (p := ⟨g, q * 11 + 6, none⟩) (fun _ => rfl) _).setCell (p := ⟨g, q * 11 + 7, none⟩) (fun _ => rfl) _).setCell (p := ⟨g, q * 11 + 8, none⟩) (fun _ => rfl) _).setCell (p := ⟨g, q * 11 + 9, none⟩) (fun _ => rfl) _).setCell (p := ⟨g, q * 11 + 10, none⟩) (fun _ => rfl) _)
      clear hcF
      go_wp2_with fail
      refine (agrees_any (n := 256) TM7.out.fn).mono ?_
      rintro e w8 ⟨rfl, b8⟩
      have C8 : Hid (Below w.heap.size w w8) := bthen (CW.out.trans (C7.out.below CW.out.size (fun k hk => by omega))) b8
      clear b8
      go_wp2_with fail
      go_ret
      exact ⟨rfl, C8.out⟩
end Go.Proofs.Ytedihfcbpgogoaa
