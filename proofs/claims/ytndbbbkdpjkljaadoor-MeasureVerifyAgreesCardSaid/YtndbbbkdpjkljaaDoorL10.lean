/- The walk of MeasureReplays. Condition: the round constants lie in block 0. -/
import Derived.Test.YtndbbbkdpjkljaaDoorW
import Derived.Test.YtndbbbkdpjkljaaDoorL7
namespace Go.Proofs.YtndbbbkdpjkljaaDoor
open Go.RowKit
attribute [local go_sem ↓] alloc26 load26n store26n alloc45 load45n store45n
attribute [local go_sem] stN_uc stN_b8 set_new fold_drew ldN_drew ldN_drewN stN_drew stN_drewN stN_ev set_ev stN_b8c set_newc

theorem mea_ok (l : List Cl) : (mea l).all okE = true := by
  rw [List.all_eq_true]
  intro e he
  obtain ⟨c, _, hc⟩ := List.mem_flatMap.1 he
  unfold mev at hc
  split at hc
  · have := List.mem_singleton.1 hc
    subst this
    have := mo_lt c.r 8 (by omega)
    simp [okE]; omega
  · cases hc
theorem mea_byt (l : List Cl) : ∀ e ∈ mea l, Byt e.d := by
  intro e he
  obtain ⟨c, _, hc⟩ := List.mem_flatMap.1 he
  unfold mev at hc
  split at hc
  · have := List.mem_singleton.1 hc
    subst this
    exact sumD_byt _
  · cases hc
theorem mea_take (l : List Cl) (k : Nat) : mea (l.take k) = (mea l).take (mea (l.take k)).length := by
  have e : mea l = mea (l.take k) ++ mea (l.drop k) := by
    conv => lhs; rw [← List.take_append_drop k l]
    unfold mea
    rw [List.flatMap_append]
  conv => rhs; rw [e]
  rw [List.take_left']
  rfl
theorem CallS.take {w : World} {a : Option Addr} {len cap k : Nat} {l : List Cl} (h : CallS w a len cap l) (hk : k ≤ len) : CallS w a k cap (l.take k) := by
  obtain ⟨h1, h2, h3, h4, h5⟩ := h
  refine ⟨by simp; omega, by omega, h3, fun c hc => h4 c (List.mem_of_mem_take hc), fun hne => ?_⟩
  obtain ⟨b, o, ha, hb, hr⟩ := h5 (by intro h; subst h; simp at hne)
  refine ⟨b, o, ha, hb, fun i c hc => hr i c ?_⟩
  have hi : i < k := by have := (List.getElem?_eq_some_iff.1 hc).1; simp at this; omega
  rw [List.getElem?_take_of_lt hi] at hc
  exact hc
theorem RdE.take {w : World} {a : Option Addr} {c k : Nat} {es : List Ev} (h : RdE w (.slice a es.length c) es) (hk : k ≤ es.length) : RdE w (.slice a k c) (es.take k) := by
  obtain ⟨a', c', e, h⟩ := h
  injection e with e1 _ e3
  subst e1 e3
  refine ⟨a, c, by simp; omega, fun hne => ?_⟩
  obtain ⟨b, o, ha, hb, hr⟩ := h (by intro h; subst h; simp at hne)
  refine ⟨b, o, ha, hb, fun i e he => hr i e ?_⟩
  have hi : i < k := by have := (List.getElem?_eq_some_iff.1 he).1; simp at this; omega
  rw [List.getElem?_take_of_lt hi] at he
  exact he
theorem own_cap {w : World} {base e n size : Nat} {v : Value} {xs : List Value} (h : w.ownsRow base e size v n xs) : ∃ a c, v = .slice a n c ∧ n ≤ c := by
  rcases h.2 with ⟨rfl, rfl⟩ | ⟨g, cap, cur, rfl, _, _, hc, _⟩
  · exact ⟨_, _, rfl, Nat.le_refl _⟩
  · exact ⟨_, _, rfl, hc⟩
theorem RepAny.ok {w w' : World} {es : List Ev} {e : Ending} (h : RepAny w es e w') (hok : es.all okE = true) : RepOK w es e w' := by
  rcases h with h | h
  · exact h.2
  · rw [hok] at h; cases h.1

set_option maxRecDepth 100000 in
set_option maxHeartbeats 4000000 in
theorem replays_walk (a : Option Addr) (len cap : Nat) (l : List Cl) (cut : Int) (w : World) (h : CallS w a len cap l) (hr : Rnd w) (h0 : 0 < w.heap.size) :
    Calls Tryd.prog 10 #[.slice a len cap, .int .i64 cut] w fun e w' => e = .returned (.bool true) ∧ Below w.heap.size w w' := by
  have HR := Lib.hid hr
  have HC := Lib.hid h
  have hlen : len ≤ 9223372036854775807 := by have h1 := h.2.1; have h2 := h.2.2.1; unfold maxLen at h2; omega
  have hlc : len ≤ cap := h.2.1
  have HLen := Lib.hid h.1
  clear hr h
  have HLg := Lib.hid (large_any a len cap l w HC.out)
  by_cases hlg : lg l = true
  · rw [hlg] at HLg
    go_enter Tryd.func10, Tryd.ntmps10
    go_wp2_with fail
    refine HLg.out.mono ?_
    rintro e w1 ⟨rfl, rfl⟩
    go_wp2_with fail
    refine (awake_any _ HR.out h0).mono ?_
    rintro e w1 ⟨rfl, hb⟩
    go_wp2_with fail
    go_ret
    exact ⟨rfl, hb⟩
  · have hlg' : lg l = false := by simpa using hlg
    rw [hlg'] at HLg
    obtain ⟨h12, hsm⟩ := lg_no hlg'
    have HSM := Lib.hid hsm
    have h12' : len ≤ 12 := by have := HLen.out; omega
    clear hlg hlg' hsm
    go_enter Tryd.func10, Tryd.ntmps10
    go_wp2_with fail
    refine HLg.out.mono ?_
    rintro e w1 ⟨rfl, rfl⟩
    go_wp2_with fail
    refine (measured_any a len cap l w HC.out (by omega) (fun c hc => by have := (HSM.out c hc).2; omega) HR.out h0).mono ?_
    rintro e w1 ⟨rfl, hL1, hb1⟩
    have LA1 := Lib.hid hL1.up
    have B1 := Lib.hid hb1
    have hlt1 : w.heap.size < w1.heap.size := by obtain ⟨_, _, h, _⟩ := hL1; exact h.lt
    clear hL1 hb1 HLg
    have hle : (mea l).length ≤ 12 := by have := mea_len l; omega
    have HOK := Lib.hid (mea_ok l)
    have HBY := Lib.hid (mea_byt l)
    go_wp2_with fail
    refine (events_any 0 w.heap.size (mea l) w1 LA1.out.log (by omega)).mono ?_
    rintro e w2 ⟨v2, rfl, hO2, hb2⟩
    have R2 := Lib.hid hO2.rd
    have A2 := Lib.hid (LA1.out.keep hb2 (Nat.le_refl _))
    have B2 := Lib.hid (bss B1.out hb2)
    have hs2 := hb2.size
    clear hO2 hb2 LA1
    go_wp2_with fail
    refine (replay_any v2 (mea l) w2 R2.out (by omega) HBY.out (HR.out.below B2.out h0) (by have := B2.out.size; omega)).mono ?_
    rintro e w3 hrep
    obtain ⟨g, rfl, hg, hG, hb3⟩ := hrep.ok HOK.out
    have A3 := Lib.hid (A2.out.keep hb3 (by omega))
    have B3 := Lib.hid (bss B2.out hb3)
    have G3 := Lib.hid hG
    have hs3 := hb3.size
    have hgl : g < w3.heap.size := Row.lt hG
    clear hb3 hG hrep A2 R2
    generalize hN1 : w1.heap.size = N1 at A3 hlt1 hs2
    clear hN1
    have hbound : N1 ≤ w3.heap.size := by omega
    obtain ⟨ea, hea⟩ : ∃ ea, ea = mea l := ⟨_, rfl⟩
    have bA : Hid (∀ q, Byt (regs ea q)) := regs_byt ea
    rw [← hea] at A3 G3 hle
    have HEA := Lib.hid hea
    clear hea
    obtain ⟨wk, hwk⟩ : ∃ wk : World, wk = w3 := ⟨_, rfl⟩
    go_wp2_with fail
    rw [← hwk] at A3 G3 B3 hbound hgl ⊢
    clear hwk
    obtain ⟨NG, hNG⟩ : ∃ NG : Nat, NG = wk.heap.size := ⟨_, rfl⟩
    have hNG2 : NG ≤ wk.heap.size := by omega
    rw [← hNG] at hgl hbound
    clear hNG
    go_loopw [8] (fun y wr => ∃ q : Nat, q ≤ 8 ∧ y = .int .i64 q ∧ Hid (LOGU wr N1 w.heap.size ea) ∧ Hid (RG wr g (regs ea)) ∧ Hid (Below w.heap.size w wr) ∧ NG ≤ wr.heap.size) (fun y _ => 8 - (intOf y).toNat)
    case atStart => exact ⟨0, by omega, rfl, A3, G3, B3, hNG2⟩
    case round =>
      clear A3 G3 B3 hNG2
      obtain ⟨q, hq8, rfl, LA, G, hb, hNG2⟩ := hrel
      have hsz := hb.out.size
      by_cases hq : q < 8
      · have y0 : (q : Int) < 8 := by omega
        obtain ⟨D, hD⟩ : ∃ D : Nat → Int, regs ea q = D := ⟨_, rfl⟩
        have bD : Hid (Byt D) := by rw [← hD]; exact bA.out q
        have HCA : Hid (∀ V, LOGU V N1 w.heap.size ea → Calls Tryd.prog 22 #[.pointer (some ⟨w.heap.size, 0, none⟩), .int .i64 (q : Int)] V fun e w' => e = .returned (.tuple #[.agg (arr 32 (b8 D)), .int .i64 0]) ∧ Below V.heap.size V w') := fun V h => by
          obtain ⟨_, v, h1, _⟩ := h
          rw [← hD]; exact register_yes w.heap.size q (regs ea) v V hq h1
        have HLD : Hid (∀ V, RG V g (regs ea) → ldN 32 V (.pointer (some ⟨g, q * 32, none⟩)) = some (arr 32 (b8 D))) := fun V h => by
          rw [← hD]; exact ldN_of (h.range hq) (by simp [arr])
        clear hD
        go_wp2_with fail
        refine (HCA.out wr LA.out).mono ?_
        rintro e w4 ⟨rfl, hb4⟩
        have A4 := Lib.hid ((LA.out.keep hb4 (by omega)).keep ((Below.refl w4.heap.size w4).alloc (Nat.le_refl _) (.cells (arr 32 (b8 D)) 26)) (by have := hb4.size; omega))
        have G4 := Lib.hid (Row.alloc (Row.below G.out hb4 (Row.lt G.out)) (.cells (arr 32 (b8 D)) 26))
        have B4 : Hid (Below w.heap.size w (w4.alloc (.cells (arr 32 (b8 D)) 26))) := (bss hb.out hb4).alloc (bss hb.out hb4).size _
        have r4 : Hid (Row (w4.alloc (.cells (arr 32 (b8 D)) 26)) w4.heap.size 26 32 (b8 D)) := Row.ofList w4 26 _ _ 32 rfl
        have s4 : NG ≤ (w4.alloc (.cells (arr 32 (b8 D)) 26)).heap.size := by have := hb4.size; simp; omega
        clear hb4
        go_wp2_with fail
        generalize w4.alloc (.cells (arr 32 (b8 D)) 26) = V at A4 G4 B4 r4 s4 ⊢
        generalize w4.heap.size = Ra at r4 ⊢
        have lA : ldN 32 V (.pointer (some ⟨Ra, 0, none⟩)) = some (arr 32 (b8 D)) := ldN_of (Row.range0 r4.out) (by simp [arr])
        have lB := HLD.out V G4.out
        have hne : ∀ W, (binOp .neq 26 (.agg (arr 32 (b8 D))) (.agg (arr 32 (b8 D)))).run Tryd.prog W = .ok (.bool false) W := fun W => by
          rw [neD bD.out bD.out]; simp
        refine wp_region_still_lit (by kernel_rfl) (by kernel_rfl) ?_
        repeat still_step
        refine wpStill_nil ?_
        change Exit.then _ _ _ _ V.drew
        have A5 : Hid (LOGU V.drew N1 w.heap.size ea) := A4.out
        have G5 : Hid (RG V.drew g (regs ea)) := G4.out
        have B5 := Lib.hid B4.out.drew
        have s5 : NG ≤ V.drew.heap.size := s4
        clear lA lB A4 G4 B4 r4 s4
        generalize V.drew = V2 at A5 G5 B5 s5 ⊢
        go_wp2_with fail
        exact ⟨⟨q + 1, by omega, by go_num, A5, G5, B5, s5⟩, by simp [intOf]; omega⟩
      · have y0 : ¬ (q : Int) < 8 := by omega
        clear G
        have hk := mo_lt cut (len + 1) (by omega)
        have HMd : Hid (∀ V, Calls Tryd.prog 14 #[.int .i64 cut, .int .i64 ((len : Int) + 1)] V fun e w' => e = .returned (.int .i64 ((mo cut (len + 1) : Nat) : Int)) ∧ V = w') := fun V => by
          have := mod_any cut (len + 1) V (by omega) (by omega)
          rw [show ((len + 1 : Nat) : Int) = (len : Int) + 1 by omega] at this
          exact this
        go_wp2_with fail
        refine (HMd.out _).mono ?_
        rintro e w4 ⟨rfl, rfl⟩
        generalize mo cut (len + 1) = k at hk ⊢
        have hk1 : (k : Int) ≤ len := by omega
        have hkc : (k : Int) ≤ cap := by omega
        have HT := Lib.hid ((HC.out.below hb.out (Nat.le_refl _)).take (show k ≤ len by omega))
        go_wp2_with fail
        refine (measured_any a k cap (l.take k) wr HT.out (by omega) (fun c hc => by have := (HSM.out c (List.mem_of_mem_take hc)).2; omega) (HR.out.below hb.out h0) (by omega)).mono ?_
        rintro e w4 ⟨rfl, hL4, hb4⟩
        have P4 := Lib.hid hL4.up
        have A4 := Lib.hid (LA.out.keep hb4 (by omega))
        have B4 := Lib.hid (bss hb.out hb4)
        clear hL4 hb4 HT LA
        go_wp2_with fail
        refine (events_any 0 w.heap.size ea w4 A4.out.log (by omega)).mono ?_
        rintro e w5 ⟨v5, rfl, hO5, hb5⟩
        have R5 := Lib.hid hO5.rd
        obtain ⟨a5, c5, e5, hcc⟩ := own_cap hO5
        subst e5
        have P5 := Lib.hid (P4.out.keep hb5 (Nat.le_refl _))
        have B5 := Lib.hid (bss B4.out hb5)
        clear hO5 hb5 P4 A4
        obtain ⟨ep, hep⟩ : ∃ ep, ep = mea (l.take k) := ⟨_, rfl⟩
        have hpl : ep.length ≤ ea.length := by
          rw [hep, HEA.out, mea_take]; simp; omega
        have HEP : Hid (ep = ea.take ep.length) := by
          show ep = ea.take ep.length
          rw [HEA.out, hep]; exact mea_take l k
        rw [← hep] at P5
        have HPB : Hid (∀ e ∈ ep, Byt e.d) := by rw [hep]; exact mea_byt _
        clear hep
        go_wp2_with fail
        refine (events_any 0 wr.heap.size ep w5 P5.out.log (by omega)).mono ?_
        rintro e w6 ⟨v6, rfl, hO6, hb6⟩
        have R6 := Lib.hid hO6.rd
        have R56 := Lib.hid (R5.out.below hb6 (Nat.le_refl _))
        have B6 := Lib.hid (bss B5.out hb6)
        obtain ⟨a6, c6, rfl⟩ := own_len hO6
        clear hO6 hb6 P5
        have R7 := Lib.hid (R56.out.take hpl)
        rw [← HEP.out] at R7
        have d1 : decide ((ep.length : Int) ≤ (ea.length : Int)) = true := by simp; omega
        have d2 : (ep.length : Int) ≤ c5 := by omega
        go_wp2_with fail
        refine (equalE_same _ _ ep w6 R6.out R7.out (by omega) HPB.out).mono ?_
        rintro e w7 ⟨rfl, hb7⟩
        have B7 := Lib.hid (bss B6.out hb7)
        clear hb7
        go_wp2_with fail
        refine (awake_any _ (HR.out.below B7.out h0) (by have := B7.out.size; omega)).mono ?_
        rintro e w8 ⟨rfl, hb8⟩
        have B8 := bss B7.out hb8
        go_wp2_with fail
        go_ret
        exact ⟨rfl, B8⟩
end Go.Proofs.YtndbbbkdpjkljaaDoor
