/- enumerate.Route. No condition but that the rows lie in memory. -/
import Derived.Test.YtedihfcbpgogoaaX
namespace Go.Proofs.Ytedihfcbpgogoaa
open Go.RowKit
def rout (r : Option Nat) : Value := .tuple #[.int .i64 ((r.getD 0 : Nat) : Int), .bool r.isSome]
def RouteP (T : List Fn) (n : Nat) (b : Nat → BN) (bus s : Int) (w : World) (e : Ending) (w' : World) : Prop := Below w.heap.size w w' ∧
  ((¬ Asg T n b ∧ e = .returned (rout none)) ∨ (Asg T n b ∧ ∃ r, RtR T b bus s (-1) 0 r ∧ e = .returned (rout r)))
theorem RouteP.un {T : List Fn} {n : Nat} {b : Nat → BN} {bus s : Int} {w w' : World} (h : ¬ Asg T n b) (hb : Below w.heap.size w w') : RouteP T n b bus s w (.returned (.tuple #[.int .i64 0, .bool false])) w' := ⟨hb, .inl ⟨h, rfl⟩⟩
theorem RouteP.no {T : List Fn} {n : Nat} {b : Nat → BN} {bus s : Int} {w w' : World} (h : Asg T n b) (hr : RtR T b bus s (-1) 0 none) (hb : Below w.heap.size w w') : RouteP T n b bus s w (.returned (.tuple #[.int .i64 0, .bool false])) w' := ⟨hb, .inr ⟨h, none, hr, rfl⟩⟩
theorem RouteP.yes {T : List Fn} {n : Nat} {b : Nat → BN} {bus s : Int} {w w' : World} {k : Nat} (h : Asg T n b) (hr : RtR T b bus s (-1) 0 (some k)) (hb : Below w.heap.size w w') : RouteP T n b bus s w (.returned (.tuple #[.int .i64 (k : Int), .bool true])) w' := ⟨hb, .inr ⟨h, some k, hr, rfl⟩⟩
theorem find_at {l : List Nat} {p : Nat → Bool} {i : Nat} (h : i < l.length) (h1 : p l[i] = true) (h2 : ∀ j (hj : j < l.length), j < i → p l[j] = false) : l.find? p = some l[i] := by
  rw [List.find?_eq_some_iff_getElem]
  exact ⟨h1, i, h, rfl, fun j hj => by simp [h2 j (by omega) hj]⟩
theorem find_none {l : List Nat} {p : Nat → Bool} (h2 : ∀ j (hj : j < l.length), p l[j] = false) : l.find? p = none := by
  rw [List.find?_eq_none]
  intro x hx
  obtain ⟨j, hj, rfl⟩ := List.mem_iff_getElem.1 hx
  simp [h2 j hj]
theorem kids_len {T : List Fn} (V : VT T) (p : Int) : (kids T p).length ≤ T.length := len_lt _ _ (kids_nodup V) (fun _ hk => ((mem_kids V).1 hk).1)
theorem kidsI_toI (T : List Fn) (p : Int) : kidsI T p = toI (kids T p) := rfl
set_option maxRecDepth 100000 in
set_option maxHeartbeats 4000000 in
theorem route_any {w : World} {a a' : Option Addr} {len cap n cap' : Nat} {T : List Fn} {b : Nat → BN} {bus s : Int} (h : FnS w a len cap T) (h' : BS w a' n cap' b) :
    Calls Try.prog 14 #[.slice a len cap, .slice a' n cap', .int .i64 bus, .int .i64 s] w (RouteP T n b bus s w) := by
  have H := Lib.hid h
  have H' := Lib.hid h'
  have HL := Lib.hid h.len
  have hcc := h.len.2.1
  have hcc' := h'.1
  clear h h'
  go_enter Try.func14, Try.ntmps14
  go_wp2_with fail
  generalize hW : World.alloc _ _ = W0 at *
  have hz : W0.heap.size = w.heap.size + 3 := by rw [← hW]; simp
  have x4 : Hid (W0.cell? ⟨w.heap.size, 0, none⟩ = some (.slice a len cap)) := by show _ = _; rw [← hW]; simp [go_sem]
  have x5 : Hid (W0.cell? ⟨w.heap.size + 1, 0, none⟩ = some (.slice a' n cap')) := by show _ = _; rw [← hW]; simp [go_sem]
  have x6 : Hid (W0.cell? ⟨w.heap.size + 1 + 1, 0, none⟩ = some (.int .i64 bus)) := by show _ = _; rw [← hW]; simp [go_sem]
  have B0 : Hid (Below w.heap.size w W0) := by show Below _ _ _; rw [← hW]; exact (((Below.refl _ _).alloc (Nat.le_refl _) _).alloc (by simp) _).alloc (by simp; omega) _
  clear hW
  have HA := Lib.hid (assigned_any (H.out.below B0.out) (H'.out.below B0.out))
  obtain ⟨Z, hZ⟩ : ∃ Z, w.heap.size = Z := ⟨_, rfl⟩
  have HZ := Lib.hid hZ
  rw [hZ] at hz x4 x5 x6 ⊢
  clear hZ
  refine HA.out.mono ?_
  rintro e w1 ⟨t, rfl, ht, b1⟩
  have C0 : Hid (∀ W, Below W0.heap.size W0 W → W.cell? ⟨Z, 0, none⟩ = some (.slice a len cap) ∧ W.cell? ⟨Z + 1, 0, none⟩ = some (.slice a' n cap') ∧ W.cell? ⟨Z + 1 + 1, 0, none⟩ = some (.int .i64 bus)) := fun W hW =>
    ⟨(hW.cell (p := ⟨Z, 0, none⟩) (by show Z < _; omega)).trans x4.out, (hW.cell (p := ⟨Z + 1, 0, none⟩) (by show Z + 1 < _; omega)).trans x5.out, (hW.cell (p := ⟨Z + 1 + 1, 0, none⟩) (by show Z + 1 + 1 < _; omega)).trans x6.out⟩
  have CB : Hid (∀ W, Below W0.heap.size W0 W → Below w.heap.size w W) := fun W hW => bthen B0.out hW
  have B1 := Lib.hid b1
  clear b1 x4 x5 x6 HA
  cases t
  · have hn : Hid (¬ Asg T n b) := Lib.hid (by simpa using ht)
    clear ht
    go_wp2_with fail
    go_ret2
    exact RouteP.un hn.out (CB.out _ B1.out)
  · have ha : Hid (Asg T n b) := Lib.hid (by simpa using ht)
    clear ht
    have hnl : n = len := by have := ha.out.2.2.1; have := HL.out; omega
    subst hnl
    have hl64 : n ≤ 64 := by have := ha.out.1.len; have := HL.out; omega
    have V := Lib.hid ha.out.1.vt
    go_wp2_with fail
    go_loopw [10, 11, 12] (fun u v _ wr => ∃ p c : Int, u = .int .i64 p ∧ v = .int .i64 c ∧ -1 ≤ p ∧ p < n ∧ Hid (Below W0.heap.size W0 wr) ∧ Hid (∀ r, RtR T b bus s p c r → RtR T b bus s (-1) 0 r)) (fun u _ _ _ => (n - intOf u).toNat)
    case atStart => exact ⟨-1, 0, rfl, rfl, by omega, by omega, B1, fun r hr => hr⟩
    case round =>
      clear B1
      obtain ⟨p, c, rfl, rfl, hp1, hp2, B1, HR⟩ := hrel
      obtain ⟨x4, x5, x6⟩ := C0.out wr B1.out
      have HO := Lib.hid (on_any (p := p) V.out (H.out.below (CB.out _ B1.out)) (by omega))
      have hkl : (kids T p).length ≤ 64 := by have := kids_len V.out p; have := HL.out; omega
      by_cases hcb : c = bus
      · subst hcb
        have hne : (c != c) = false := by simp
        go_wp2_with fail
        refine HO.out.mono ?_
        rintro e w2 ⟨v2, rfl, o2⟩
        have B2 : Hid (Below W0.heap.size W0 w2) := bthen B1.out o2.bel
        obtain ⟨a2, cp2, rfl, hcp2, hf2⟩ := o2.row.form
        have HF : Hid (∀ W, Below w2.heap.size w2 W → ∀ j (hj : j < (kids T p).length), ∃ g, a2 = some ⟨g, 0, none⟩ ∧ W.cell? ⟨g, j, none⟩ = some (.int .i64 ((kids T p)[j] : Int))) := fun W hW j hj => by
          obtain ⟨g, h1, h2, h3⟩ := hf2 j (by unfold kidsI; rw [List.length_map]; exact hj)
          rw [kidsI_at hj] at h3
          exact ⟨g, h1, (hW.cell (p := ⟨g, j, none⟩) h2).trans h3⟩
        have hlen2 : (kidsI T p).length = (kids T p).length := by unfold kidsI; rw [List.length_map]
        rw [hlen2] at hcp2 ⊢
        have HKM : Hid (∀ k, k ∈ kids T p → k < n) := fun k hk => by have := ((mem_kids V.out).1 hk).1; have := HL.out; omega
        have HR2 : Hid (∀ r, (kids T p).find? (slot T s) = r → RtR T b c s (-1) 0 r) := fun r hr => HR.out _ (.here hr)
        clear hf2 o2 hlen2 x4 x5 x6 HO HR
        obtain ⟨ks, hks⟩ : ∃ ks, kids T p = ks := ⟨_, rfl⟩
        rw [hks] at HF HKM HR2 hcp2 hkl ⊢
        clear hks
        obtain ⟨m, hm⟩ : ∃ m, ks.length = m := ⟨_, rfl⟩
        have HM := Lib.hid hm
        rw [hm] at hcp2 hkl ⊢
        clear hm
        go_wp2_with fail
        go_loopw [14, 44] (fun _ z wr => ∃ i : Nat, i ≤ m ∧ z = .int .i64 (i : Int) ∧ Hid (Below w2.heap.size w2 wr) ∧ Hid (∀ j (hj : j < ks.length), j < i → slot T s ks[j] = false)) (fun _ z _ => m - (intOf z).toNat)
        case atStart => exact ⟨0, by omega, rfl, Below.refl _ _, fun j _ hj => by omega⟩
        case round =>
          obtain ⟨i, hi, rfl, B3, HI⟩ := hrel
          have B4 : Hid (Below W0.heap.size W0 wr) := bthen B2.out B3.out
          by_cases him : i < m
          · have y1 : (i : Int) < m := by omega
            have hik : i < ks.length := by have := HM.out; omega
            obtain ⟨g, rfl, hc⟩ := HF.out wr B3.out i hik
            obtain ⟨k, hk⟩ : ∃ k, ks[i] = k := ⟨_, rfl⟩
            have hkn := HKM.out k (by rw [← hk]; exact List.getElem_mem hik)
            have hkI : (k : Int) < n := by omega
            obtain ⟨bT, oT, rfl, hbT, _, _, hrr⟩ := H.out.at hkn
            have c1 : wr.cell? ⟨bT, oT + k * 11 + 1, none⟩ = some (.int .i64 (fAt T k).sl) := ((CB.out _ B4.out).cell (p := ⟨bT, oT + k * 11 + 1, none⟩) hbT).trans (rangeAt.cell hrr (j := 1) rfl)
            have HS : Hid (slot T s k = true → RtR T b c s (-1) 0 (some k)) := fun h => HR2.out _ (by rw [← hk] at h ⊢; exact find_at hik h HI.out)
            have HI2 : Hid (slot T s k = false → ∀ j (hj : j < ks.length), j < i + 1 → slot T s ks[j] = false) := fun h j hj hji => by
              rcases Nat.lt_succ_iff_lt_or_eq.1 hji with h1 | rfl
              · exact HI.out j hj h1
              · rw [hk]; exact h
            have HSL : Hid (slot T s k = decide ((fAt T k).sl = s)) := rfl
            obtain ⟨x4, x5, x6⟩ := C0.out wr B4.out
            rw [hk] at hc
            clear hrr hk
            generalize (fAt T k).sl = sl at *
            by_cases e : sl = s
            · have h2 := Lib.hid (HS.out (by rw [HSL.out]; simp [e]))
              subst e
              have e2 : (sl == sl) = true := by simp
              clear HS HI2
              go_wp2_with fail
              go_ret2
              exact RouteP.yes ha.out h2.out (CB.out _ B4.out)
            · have h2 := Lib.hid (HI2.out (by rw [HSL.out]; simp [e]))
              have e2 : (sl == s) = false := by simp [e]
              clear HS HI2
              go_wp2_with fail
              go_roundw
              case rel => exact ⟨i + 1, by omega, by go_num, B3, h2⟩
              case measure => simp [intOf]; omega
          · have y1 : ¬ (i : Int) < m := by omega
            have hr : Hid (RtR T b c s (-1) 0 none) := HR2.out _ (find_none (fun j hj => HI.out j hj (by have := HM.out; omega)))
            go_wp2_with fail
            go_ret2
            exact RouteP.no ha.out hr.out (CB.out _ B4.out)
      · have hne : (c != bus) = true := by simp [hcb]
        go_wp2_with fail
        refine HO.out.mono ?_
        rintro e w2 ⟨v2, rfl, o2⟩
        have O2 := Lib.hid o2
        have B2 : Hid (Below W0.heap.size W0 w2) := bthen B1.out o2.bel
        obtain ⟨y4, y5, y6⟩ := C0.out w2 B2.out
        have HX := Lib.hid (index_any (W := w2) (a' := a') (cap' := cap') (b := b) (bus := bus) (ks := kids T p) (v := v2) H.out (CB.out _ B2.out) (H'.out.below (CB.out _ B2.out)) y4 y5 y6 o2.row (fun k hk => by have := ((mem_kids V.out).1 hk).1; have := HL.out; omega) (by omega))
        obtain ⟨a2, cp2, hv2, hcp2⟩ := o2.val
        subst hv2
        clear o2 x4 x5 x6 y4 y5 y6
        go_wp2_with fail
        refine HX.out.mono ?_
        rintro e w3 ⟨rfl, q, rfl⟩
        have B3 : Hid (Below W0.heap.size W0 (w2.drewN q)) := bdN B2.out q
        generalize w2.drewN q = w3 at *
        clear HX
        cases hfi : (kids T p).findIdx? (mt T b bus) with
        | none =>
          have hr : Hid (RtR T b bus s (-1) 0 none) := HR.out _ (.no hcb (List.findIdx?_eq_none_iff.1 hfi))
          have hfx : fx none = -1 := rfl
          rw [hfx]
          clear hfx hfi
          go_wp2_with fail
          go_ret2
          exact RouteP.no ha.out hr.out (CB.out _ B3.out)
        | some j =>
          obtain ⟨hj, hm, _⟩ := List.findIdx?_eq_some_iff_getElem.1 hfi
          have hfx : fx (some j) = (j : Int) := rfl
          rw [hfx]
          obtain ⟨k, hk⟩ : ∃ k, (kids T p)[j] = k := ⟨_, rfl⟩
          have hkm : k ∈ kids T p := by rw [← hk]; exact List.getElem_mem hj
          rw [hk] at hm
          obtain ⟨hk1, hk2⟩ := (mem_kids V.out).1 hkm
          have hkp := (Dn.kid hk1 hk2).gt V.out
          have hkn : k < n := by have := HL.out; omega
          have hr : Hid (∀ r, RtR T b bus s (k : Int) (b k).se r → RtR T b bus s (-1) 0 r) := fun r hr => HR.out _ (.go hcb hkm hm (fun k' hk' hm' => ha.out.uni hkm hk' hm hm') hr)
          have HO3 := Lib.hid (on_any (p := p) V.out (H.out.below (CB.out _ B3.out)) (by omega))
          obtain ⟨x4, x5, x6⟩ := C0.out _ B3.out
          clear hfx hfi hm
          have hj0 : ¬ (j : Int) < 0 := by omega
          go_wp2_with fail
          refine HO3.out.mono ?_
          rintro e w4 ⟨v4, rfl, o4⟩
          have B4 : Hid (Below W0.heap.size W0 w4) := bthen B3.out o4.bel
          obtain ⟨a4, cp4, rfl, hcp4, hf4⟩ := o4.row.form
          have hlen4 : (kidsI T p).length = (kids T p).length := by unfold kidsI; rw [List.length_map]
          obtain ⟨g4, rfl, hg4, hc4⟩ := hf4 j (by omega)
          rw [kidsI_at hj, hk] at hc4
          rw [hlen4] at hcp4 ⊢
          obtain ⟨y4, y5, y6⟩ := C0.out w4 B4.out
          obtain ⟨gB, rfl, _, _, d1, _⟩ := (H'.out.below (CB.out _ B4.out)).at hkn
          have hjI : (j : Int) < (kids T p).length := by omega
          have hkI : (k : Int) < n := by omega
          clear hf4 o4 x4 x5 x6 HO3
          go_wp2_with fail
          go_roundw
          case rel => exact ⟨k, (b k).se, rfl, rfl, by omega, by omega, B4, hr⟩
          case measure => simp [intOf]; omega
end Go.Proofs.Ytedihfcbpgogoaa
