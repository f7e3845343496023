/- EnumerateRoutes answers true. No condition but that the row lies in memory. -/
import Derived.Test.YtedihfcbpgogoaaL7
import Derived.Test.YtedihfcbpgogoaaRR
namespace Go.Proofs.Ytedihfcbpgogoaa
open Go.RowKit
def RouteV (T : List Fn) (n : Nat) (b : Nat → BN) (bus s : Int) (r : Option Nat) : Prop := (¬ Asg T n b ∧ r = none) ∨ (Asg T n b ∧ RtR T b bus s (-1) 0 r)
theorem RouteP.val {T : List Fn} {n : Nat} {b : Nat → BN} {bus s : Int} {w w' : World} {e : Ending} (h : RouteP T n b bus s w e w') : ∃ r, RouteV T n b bus s r ∧ e = .returned (rout r) := by
  obtain ⟨_, ⟨h1, h2⟩ | ⟨h1, r, h2, h3⟩⟩ := h
  · exact ⟨none, .inl ⟨h1, rfl⟩, h2⟩
  · exact ⟨r, .inr ⟨h1, h2⟩, h3⟩
theorem RouteV.det {T : List Fn} {n : Nat} {b : Nat → BN} {bus s : Int} {r r' : Option Nat} (h : RouteV T n b bus s r) (h' : RouteV T n b bus s r') : r' = r := by
  rcases h with ⟨h1, h2⟩ | ⟨h1, h2⟩ <;> rcases h' with ⟨h3, h4⟩ | ⟨h3, h4⟩
  · rw [h2, h4]
  · exact absurd h3 h1
  · exact absurd h1 h3
  · exact h4.det h2
/-- What ref.Buses returns as a row. -/
theorem BusP.row {T : List Fn} {w w' : World} {e : Ending} (v : Vld T) (hT : T.length ≤ 30) (h : BusP T 256 w e w') : ∃ a n cap x, e = .returned (.tuple #[.slice a n cap, .int .i64 x]) ∧ BS w' a n cap (bus T).2 ∧ Below w.heap.size w w' := by
  obtain ⟨b2, ⟨hv, _⟩ | ⟨_, _, _, h3, rfl⟩ | ⟨_, _, _, h3, B, hB, hr, rfl⟩⟩ := h
  · exact absurd ⟨v, by omega, by omega⟩ hv
  · exact ⟨none, 0, 0, _, rfl, ⟨Nat.le_refl _, by omega, .inl rfl⟩, b2⟩
  · exact ⟨_, _, _, _, rfl, ⟨Nat.le_refl _, by omega, .inr ⟨B, rfl, hr⟩⟩, b2⟩
set_option maxRecDepth 100000 in
set_option maxHeartbeats 4000000 in
theorem routes_any {w : World} {a : Option Addr} {len cap : Nat} {T0 : List Fn} {bs sl : Int} (h : FnS w a len cap T0) :
    Calls Try.prog 4 #[.slice a len cap, .int .i64 bs, .int .i64 sl] w fun e w' => e = .returned (.bool true) ∧ Below w.heap.size w w' := by
  have HT := Lib.hid (topo_any h)
  clear h
  go_enter Try.func4, Try.ntmps4
  go_wp2_with fail
  refine HT.out.mono ?_
  rintro e w1 ⟨X, vb, vo, Lb, T, Sx, nn, rfl, S, G, hT⟩
  obtain ⟨a1, c1, rfl, H1⟩ := topo_FnS S G
  have H := Lib.hid H1
  have B1 := Lib.hid S.bel
  have V := Lib.hid (G.vld hT)
  have hcc := H1.len.2.1
  have HB := Lib.hid (rbuses_any (n := 256) H1)
  clear H1 S G HT
  go_wp2_with fail
  refine HB.out.mono ?_
  intro e w2 hbp
  obtain ⟨a2, n2, c2, x2, rfl, bs2, b2⟩ := hbp.row V.out hT
  have B2 : Hid (Below w.heap.size w w2) := bthen B1.out b2
  have H2 := Lib.hid (H.out.below b2)
  have BS2 := Lib.hid bs2
  clear HB b2 bs2 hbp H
  go_wp2_with fail
  go_loopw [1, 2, 10, 11, 12, 13, 14] (fun x y z _ _ _ _ wr => ∃ (k : Nat) (p q : Int), k ≤ 2 ∧ z = .int .i64 (k : Int) ∧ x = .int .i64 p ∧ y = .int .i64 q ∧ Hid (Below w2.heap.size w2 wr)) (fun _ _ z _ _ _ _ _ => 2 - (intOf z).toNat)
  case atStart => exact ⟨0, bs, sl, by omega, rfl, rfl, rfl, Below.refl _ _⟩
  case round =>
    obtain ⟨k, p, q, hk, rfl, rfl, rfl, BR⟩ := hrel
    by_cases hk2 : k < 2
    · have y1 : (k : Int) < 2 := by omega
      have HR1 := Lib.hid (route_any (bus := p) (s := q) (H2.out.below BR.out) (BS2.out.below BR.out))
      go_wp2_with fail
      refine HR1.out.mono ?_
      intro e w3 hp3
      obtain ⟨r, hr, rfl⟩ := hp3.val
      have B3 : Hid (Below w2.heap.size w2 w3) := bthen BR.out hp3.1
      have HRr := Lib.hid hr
      have HR2 := Lib.hid (rroute_any (bus := p) (s := q) (H2.out.below B3.out) (BS2.out.below B3.out))
      clear hp3 hr HR1
      unfold rout
      obtain ⟨ri, hri⟩ : ∃ ri : Int, ((r.getD 0 : Nat) : Int) = ri := ⟨_, rfl⟩
      obtain ⟨rb, hrb⟩ : ∃ rb, r.isSome = rb := ⟨_, rfl⟩
      have e1 := Lib.hid hri
      have e2 := Lib.hid hrb
      rw [hri, hrb]
      clear hri hrb
      go_wp2_with fail
      refine HR2.out.mono ?_
      intro e w4 hp4
      obtain ⟨r', hr', rfl⟩ := hp4.val
      obtain rfl := HRr.out.det hr'
      have B4 : Hid (Below w2.heap.size w2 w4) := bthen B3.out hp4.1
      clear hp4 hr' HR2 HRr
      unfold rout
      rw [e1.out, e2.out]
      have k1 : (ri != ri) = false := by simp
      have HM1 := Lib.hid (mod_any p 12 w4 (by omega) (by omega))
      have HM2 := Lib.hid (mod_any q 8 w4 (by omega) (by omega))
      cases rb
      all_goals
        go_wp2_with fail
        refine HM1.out.mono ?_
        rintro e w5 ⟨rfl, rfl⟩
        go_wp2_with fail
        refine HM2.out.mono ?_
        rintro e w6 ⟨rfl, rfl⟩
        go_wp2_with fail
        go_roundw
        case rel => exact ⟨k + 1, _, _, by omega, by go_num, rfl, rfl, B4⟩
        case measure => simp [intOf]; omega
    · have y1 : ¬ (k : Int) < 2 := by omega
      have HA := Lib.hid (awake_any wr)
      go_wp2_with fail
      refine HA.out.mono ?_
      rintro e w3 ⟨rfl, b3⟩
      have B3 : Hid (Below w.heap.size w w3) := bthen B2.out (bthen BR.out b3)
      clear b3
      go_wp2_with fail
      go_ret
      exact ⟨rfl, B3.out⟩
end Go.Proofs.Ytedihfcbpgogoaa
