/- VarstoreWearIsLevel walked. No condition. -/
import Derived.Test.YtfglopkglnpokaaLB
import Derived.Test.YtfglopkglnpokaaPI
namespace Go.Proofs.Ytfglopkglnpokaa
open Go.RowKit
def cvc (c : CV) : List Value := [.int .i64 c.kd, .int .i64 c.nm, .int .i64 c.ln, .int .u8 (c.fi.toNat : Int)]
/-- The slice reads as these calls. -/
def CallS (w : World) (a : Option Addr) (len cap : Nat) (l : List CV) : Prop := l.length = len ∧ len ≤ cap ∧ cap ≤ maxLen ∧ (l ≠ [] → ∃ b o, a = some ⟨b, o, none⟩ ∧ b < w.heap.size ∧ ∀ i c, l[i]? = some c → w.rangeAt b (o + i * 4) (cvc c))
theorem CallS.below {w w' : World} {a : Option Addr} {len cap B0 : Nat} {l : List CV} (h : CallS w a len cap l) (hb : Below B0 w w') (hB : w.heap.size ≤ B0) : CallS w' a len cap l := by
  obtain ⟨h1, h2, h3, h5⟩ := h
  refine ⟨h1, h2, h3, fun hne => ?_⟩
  obtain ⟨b, o, rfl, hl, hr⟩ := h5 hne
  refine ⟨b, o, rfl, Nat.lt_of_lt_of_le hl hb.size, fun i e he j u hu => ?_⟩
  rw [hb.cell (p := ⟨b, o + i * 4 + j, none⟩) (by show b < B0; omega)]
  exact hr i e he j u hu
/-- What a walk reads of call i. -/
theorem CallS.at {w : World} {a : Option Addr} {len cap i : Nat} {l : List CV} (h : CallS w a len cap l) (hi : i < len) : ∃ (b o : Nat) (c : CV), a = some ⟨b, o, none⟩ ∧ b < w.heap.size ∧ l[i]? = some c ∧
    w.cell? ⟨b, o + i * 4, none⟩ = some (.int .i64 c.kd) ∧ w.cell? ⟨b, o + i * 4 + 1, none⟩ = some (.int .i64 c.nm) ∧ w.cell? ⟨b, o + i * 4 + 2, none⟩ = some (.int .i64 c.ln) ∧ w.cell? ⟨b, o + i * 4 + 3, none⟩ = some (.int .u8 (c.fi.toNat : Int)) := by
  obtain ⟨h1, h2, h3, h5⟩ := h
  obtain ⟨b, o, e, hl, hr⟩ := h5 (by intro e; rw [e] at h1; simp at h1; omega)
  have hc : l[i]? = some l[i] := List.getElem?_eq_getElem (by omega)
  have := hr i _ hc
  exact ⟨b, o, l[i], e, hl, hc, this 0 _ rfl, this 1 _ rfl, this 2 _ rfl, this 3 _ rfl⟩
set_option maxRecDepth 100000 in
set_option maxHeartbeats 1000000 in
theorem wear_any (rB rP rE : Int) (a : Option Addr) (len cap : Nat) (l : List CV) (w : World) (hl : CallS w a len cap l) :
    Calls Try.prog 3 #[fsV rB rP rE, .slice a len cap] w fun e w' => e = .returned (.bool true) ∧ Below w.heap.size w w' := by
  have HL := Lib.hid hl
  have hcap : len ≤ cap := hl.2.1
  have hcapM := hl.2.2.1
  unfold maxLen at hcapM
  clear hl
  by_cases hbig : 40 < len
  · have hbI : (len : Int) > 40 := by omega
    have HAW := Lib.hid (awake_any (w.alloc (.cells #[.int .i64 rB, .int .i64 rP, .int .i64 rE] 23)))
    have HB0 : Hid (Below w.heap.size w (w.alloc (.cells #[.int .i64 rB, .int .i64 rP, .int .i64 rE] 23))) := (Below.refl _ _).alloc (Nat.le_refl _) _
    go_enter Try.func3, Try.ntmps3
    go_wp2_with fail
    refine HAW.out.mono ?_
    rintro e w1 ⟨rfl, b1⟩
    have HB1 : Hid (Below w.heap.size w w1) := HB0.out.trans (b1.mono HB0.out.size)
    clear b1 HAW HB0
    go_wp2_with fail
    go_ret
    exact ⟨rfl, HB1.out⟩
  · have hbI : ¬ (len : Int) > 40 := by omega
    have HB0 : Hid (Below w.heap.size w (w.alloc (.cells #[.int .i64 rB, .int .i64 rP, .int .i64 rE] 23))) := (Below.refl _ _).alloc (Nat.le_refl _) _
    have r0 := Row.ofList w 23 #[.int .i64 rB, .int .i64 rP, .int .i64 rE] (fsc rB rP rE) 3 rfl
    have z0 : (w.alloc (.cells #[.int .i64 rB, .int .i64 rP, .int .i64 rE] 23)).cell? ⟨w.heap.size, 0, none⟩ = some (.int .i64 rB) := r0.cell (i := 0) (by omega)
    have z1 : (w.alloc (.cells #[.int .i64 rB, .int .i64 rP, .int .i64 rE] 23)).cell? ⟨w.heap.size, 1, none⟩ = some (.int .i64 rP) := r0.cell (i := 1) (by omega)
    have z2 : (w.alloc (.cells #[.int .i64 rB, .int .i64 rP, .int .i64 rE] 23)).cell? ⟨w.heap.size, 2, none⟩ = some (.int .i64 rE) := r0.cell (i := 2) (by omega)
    have HSH := Lib.hid (shape_law rB rP rE (w.alloc (.cells #[.int .i64 rB, .int .i64 rP, .int .i64 rE] 23)))
    have hB := shB_le rB
    have hP := shP_le rP
    have hE := shE_le rE
    generalize shB rB = B at *
    generalize shP rP = P at *
    generalize shE rE = E at *
    clear r0
    go_enter Try.func3, Try.ntmps3
    go_wp2_with fail
    refine HSH.out.mono ?_
    rintro e w1 ⟨rfl, b1⟩
    have HB1 : Hid (Below w.heap.size w w1) := HB0.out.trans (b1.mono HB0.out.size)
    clear b1 HSH HB0 z0 z1 z2
    go_wp2_with fail
    obtain ⟨T, hT⟩ : ∃ T, w1.heap.size = T := ⟨_, rfl⟩
    have HX : Hid ((w1.alloc (.cells #[.int .i64 B, .int .i64 P, .int .i64 E] 23)).cell? ⟨T, 0, none⟩ = some (.int .i64 B)) := by rw [← hT]; exact (Row.ofList w1 23 #[.int .i64 B, .int .i64 P, .int .i64 E] (fsc B P E) 3 rfl).cell (i := 0) (by omega)
    have HB2 : Hid (Below w.heap.size w (w1.alloc (.cells #[.int .i64 B, .int .i64 P, .int .i64 E] 23))) := HB1.out.alloc HB1.out.size _
    have hTs : (w1.alloc (.cells #[.int .i64 B, .int .i64 P, .int .i64 E] 23)).heap.size = T + 1 := by simp [hT]
    have hwT : w.heap.size ≤ T := by rw [← hT]; exact HB1.out.size
    rw [hT]
    generalize w1.alloc (.cells #[.int .i64 B, .int .i64 P, .int .i64 E] 23) = w2 at *
    clear HB1 hT
    refine (open_law w2 B P E ⟨by omega, by omega⟩ ⟨by omega, by omega⟩ (by omega)).mono ?_
    rintro e w3 ⟨S, X, y, D, f1, rfl, ha, hI, hS, her, hc, hbl, b3⟩
    rw [hTs] at ha b3
    have hfB : f1.B = B := hS.1
    have HLV : Hid (Level f1 st0.blk) := ⟨fun b _ _ _ => her b, 0, .inl fun b _ => by rw [her b]; omega⟩
    have HI : Hid (Inv f1 st0 ∧ f1.cut = false ∧ f1.B = B ∧ st0.gen ≤ 1 + 0) := ⟨hI, hc, hfB, Nat.le_refl _⟩
    have HA : Hid (AT w3 (T + 1) S X y D (32 + 0) f1 st0) := ha
    have HX3 : Hid (w3.cell? ⟨T, 0, none⟩ = some (.int .i64 B)) := (b3.cell (p := ⟨T, 0, none⟩) (by show T < T + 1; omega)).trans HX.out
    have HB3 : Hid (Below w.heap.size w w3) := HB2.out.trans (b3.mono (by omega))
    clear ha hI hS her hc hbl b3 HB2 HX hfB hTs
    go_wp2_with fail
    go_loopw [9] (fun z wr => ∃ (i : Nat) (fl : FL) (st : ST), i ≤ len ∧ z = .int .i64 (i : Int) ∧ Hid (AT wr (T + 1) S X y D (32 + i) fl st) ∧ Hid (Inv fl st ∧ fl.cut = false ∧ fl.B = B ∧ st.gen ≤ 1 + i) ∧ Hid (Level fl st.blk) ∧ Hid (wr.cell? ⟨T, 0, none⟩ = some (.int .i64 B)) ∧ Hid (Below w.heap.size w wr)) (fun z _ => len - (intOf z).toNat)
    case atStart => exact ⟨0, f1, st0, by omega, rfl, HA, HI, HLV, HX3, HB3⟩
    case round =>
      clear HA HI HLV HX3 HB3
      obtain ⟨i, fl, st, hi, rfl, HA, HI, HLV, HX, HB⟩ := hrel
      by_cases hlt : i < len
      · have y0 : (i : Int) < len := by omega
        obtain ⟨bb, o, c, rfl, _, _, q0, q1, q2, q3⟩ := (HL.out.below HB.out (Nat.le_refl _)).at hlt
        have HG := Lib.hid HA.out.gen
        have hg40 : st.gen ≤ 41 := by have := HI.out.2.2.2; omega
        have HDO : Hid (Calls Try.prog 13 #[fptr S, .agg #[.int .i64 c.kd, .int .i64 c.nm, .int .i64 c.ln, .int .u8 (c.fi.toNat : Int)]] wr fun e w' => e = .returned (.int .i64 (doC fl st c).1) ∧ AT w' (T + 1) S X y D (32 + i + 1) (doC fl st c).2.1 (doC fl st c).2.2 ∧ Below (T + 1) wr w') := HA.out.do HI.out.1.blk (by omega) c
        have hcs := doF_cases HI.out.1 (by omega) c.kd c.nm c.ln c.fi
        have hcalm := hcs.calm HI.out.1 HI.out.2.1
        have hlv := hcs.level HI.out.1 HI.out.2.1 HLV.out
        have hdoC : doF fl st c.kd c.nm c.ln c.fi = doC fl st c := rfl
        rw [hdoC] at hcalm hlv
        obtain ⟨e1, f1, s1, hr1⟩ : ∃ e f s, doC fl st c = (e, f, s) := ⟨_, _, _, rfl⟩
        rw [hr1] at HDO hcalm hlv
        simp only at HDO hcalm hlv
        have HI2 : Hid (Inv f1 s1 ∧ f1.cut = false ∧ f1.B = B ∧ s1.gen ≤ 1 + (i + 1)) := ⟨hcalm.1, hcalm.2.1, hcalm.2.2.1.1.trans HI.out.2.2.1, by have := hcalm.2.2.2.1; have := HI.out.2.2.2; omega⟩
        have HLV2 := Lib.hid hlv.1
        have hgg := hlv.2
        obtain ⟨g0, hg0⟩ : ∃ g, st.gen = g := ⟨_, rfl⟩
        rw [hg0] at HG hgg hg40
        clear hcs hcalm hlv hdoC hr1 HLV hg0
        go_wp2_with fail
        refine HG.out.mono ?_
        rintro e w' ⟨rfl, rfl⟩
        go_wp2_with fail
        refine HDO.out.mono ?_
        rintro e w4 ⟨rfl, ha, b4⟩
        have HA4 := Lib.hid ha
        have HB4 : Hid (Below w.heap.size w w4) := HB.out.trans (b4.mono (by omega))
        have HX4 : Hid (w4.cell? ⟨T, 0, none⟩ = some (.int .i64 B)) := (b4.cell (p := ⟨T, 0, none⟩) (by show T < T + 1; omega)).trans HX.out
        have hx4 := HX4.out
        have HG4 := Lib.hid ha.gen
        obtain ⟨g1, hg1⟩ : ∃ g, s1.gen = g := ⟨_, rfl⟩
        rw [hg1] at HG4 hgg
        have HER : Hid (∀ b, b < B → Calls Try.prog 14 #[fptr X, .int .i64 b] w4 fun e w' => e = .returned (.int .i64 (f1.er b)) ∧ w4 = w') := fun b hb => erases_any ha.f (by rw [HI2.out.2.2.1]; exact hb)
        have HE0 : Hid (Calls Try.prog 14 #[fptr X, .int .i64 0] w4 fun e w' => e = .returned (.int .i64 (f1.er 0)) ∧ w4 = w') := HER.out 0 (by omega)
        obtain ⟨m, hm⟩ := HLV2.out.bound
        have hE4 : ∀ b, b < B → f1.er b ≤ 1000000000 := fun b hb => by
          have := HI2.out.1.er b (by rw [HI2.out.2.2.1]; exact hb)
          have := ha.f.hE
          omega
        have HM : Hid (∀ b, b < B → m ≤ f1.er b ∧ f1.er b ≤ m + 2) := fun b hb => hm b (by rw [HI2.out.2.2.1]; exact hb)
        have HM4 := Lib.hid hE4
        have hmm : m ≤ 1000000000 := by have := HM.out 0 (by omega); have := hE4 0 (by omega); omega
        clear ha b4 HDO HG HB HX hg1 hm hE4 q0 q1 q2 q3
        have hgd : g1 = g0 ∨ (¬ (g1 : Int) = (g0 : Int)) ∧ ((g1 : Int) != (g0 : Int) + 1) = false := by
          rcases hgg with e | e
          · left; exact e
          · right; exact ⟨by omega, by simp [e]⟩
        clear hgg
        go_wp2_with fail
        refine HG4.out.mono ?_
        rintro e w' ⟨rfl, rfl⟩
        rcases hgd with rfl | ⟨h1, h2⟩
        all_goals
          go_wp2_with fail
          refine HE0.out.mono ?_
          rintro e w' ⟨rfl, rfl⟩
          go_wp2_with fail
          refine HE0.out.mono ?_
          rintro e w' ⟨rfl, rfl⟩
          go_wp2_with fail
          have HM0 : Hid (m ≤ f1.er 0 ∧ f1.er 0 ≤ m + 2) := HM.out 0 (by omega)
          go_loop [12, 13, 14] (fun x12 x13 z => ∃ lo hi k : Nat, k ≤ B ∧ m ≤ lo ∧ lo ≤ m + 2 ∧ m ≤ hi ∧ hi ≤ m + 2 ∧ x12 = .int .i64 (lo : Int) ∧ x13 = .int .i64 (hi : Int) ∧ z = .int .i64 (k : Int)) (fun _ _ z => B - (intOf z).toNat)
          case atStart => exact ⟨f1.er 0, f1.er 0, 1, by omega, HM0.out.1, HM0.out.2, HM0.out.1, HM0.out.2, rfl, rfl, rfl⟩
          case round =>
            obtain ⟨lo, hi', k, hk, h1, h2, h3, h4, rfl, rfl, rfl⟩ := hrel
            by_cases hkB : k < B
            · have y1 : (k : Int) < B := by omega
              have HEk := Lib.hid (HER.out k hkB)
              have hmk := HM.out k hkB
              obtain ⟨ek, hek⟩ : ∃ x, f1.er k = x := ⟨_, rfl⟩
              rw [hek] at HEk hmk
              clear hek
              go_wp2_with fail
              refine HEk.out.mono ?_
              rintro e w' ⟨rfl, rfl⟩
              go_wp2_with fail
              refine HEk.out.mono ?_
              rintro e w' ⟨rfl, rfl⟩
              go_wp2_with fail
              exact ⟨⟨min lo ek, max hi' ek, k + 1, by omega, by omega, by omega, by omega, by omega, by congr 1; omega, by congr 1; omega, by go_num⟩, by simp [intOf]; omega⟩
            · have y1 : ¬ (k : Int) < B := by omega
              have hdif : ¬ ((hi' : Int) - (lo : Int) > 2) := by omega
              go_wp2_with fail
              go_roundw
              case rel => exact ⟨i + 1, f1, s1, by omega, by go_num, HA4, HI2, HLV2, HX4, HB4⟩
              case measure => simp [intOf]; omega
      · have y0 : ¬ (i : Int) < len := by omega
        have HAW := Lib.hid (awake_any wr)
        go_wp2_with fail
        refine HAW.out.mono ?_
        rintro e w4 ⟨rfl, b4⟩
        have HB4 : Hid (Below w.heap.size w w4) := HB.out.trans (b4.mono HB.out.size)
        clear b4 HAW
        go_wp2_with fail
        go_ret
        exact ⟨rfl, HB4.out⟩
end Go.Proofs.Ytfglopkglnpokaa
