/- ref.Route. No condition but that the rows lie in memory. -/
import Derived.Test.YtedihfcbpgogoaaY
namespace Go.Proofs.Ytedihfcbpgogoaa
open Go.RowKit
/-- The bridge found among the first i children. -/
def Nx (T : List Fn) (b : Nat → BN) (bus : Int) (ks : List Nat) (i : Nat) (x : Int) : Prop :=
  (x = -1 ∧ ∀ j (hj : j < ks.length), j < i → mt T b bus ks[j] = false) ∨ ∃ j, ∃ hj : j < ks.length, x = (ks[j] : Int) ∧ mt T b bus ks[j] = true
theorem Nx.skip {T : List Fn} {b : Nat → BN} {bus : Int} {ks : List Nat} {i : Nat} {x : Int} (h : Nx T b bus ks i x) (hi : i < ks.length) (hm : mt T b bus ks[i] = false) : Nx T b bus ks (i + 1) x := by
  rcases h with ⟨e, h⟩ | h
  · exact .inl ⟨e, fun j hj hji => by
      rcases Nat.lt_succ_iff_lt_or_eq.1 hji with h1 | rfl
      · exact h j hj h1
      · exact hm⟩
  · exact .inr h
set_option maxRecDepth 100000 in
set_option maxHeartbeats 4000000 in
theorem rroute_any {w : World} {a a' : Option Addr} {len cap n cap' : Nat} {T : List Fn} {b : Nat → BN} {bus s : Int} (h : FnS w a len cap T) (h' : BS w a' n cap' b) :
    Calls Try.prog 15 #[.slice a len cap, .slice a' n cap', .int .i64 bus, .int .i64 s] w (RouteP T n b bus s w) := by
  have H := Lib.hid h
  have H' := Lib.hid h'
  have HL := Lib.hid h.len
  have hcc := h.len.2.1
  have hcc' := h'.1
  have HA := Lib.hid (numbered_any h h')
  clear h h'
  go_enter Try.func15, Try.ntmps15
  go_wp2_with fail
  refine HA.out.mono ?_
  rintro e w1 ⟨t, rfl, ht, b1⟩
  have B1 := Lib.hid b1
  clear b1 HA
  cases t
  · have hn : Hid (¬ Asg T n b) := Lib.hid (by simpa using ht)
    clear ht
    go_wp2_with fail
    go_ret2
    exact RouteP.un hn.out B1.out
  · have ha : Hid (Asg T n b) := Lib.hid (by simpa using ht)
    clear ht
    have hnl : n = len := by have := ha.out.2.2.1; have := HL.out; omega
    subst hnl
    have hl64 : n ≤ 64 := by have := ha.out.1.len; have := HL.out; omega
    have V := Lib.hid ha.out.1.vt
    go_wp2_with fail
    go_loopw [10, 11, 12, 13, 14, 15] (fun u v _ _ _ _ wr => ∃ p c : Int, u = .int .i64 p ∧ v = .int .i64 c ∧ -1 ≤ p ∧ p < n ∧ Hid (Below w.heap.size w wr) ∧ Hid (∀ r, RtR T b bus s p c r → RtR T b bus s (-1) 0 r)) (fun u _ _ _ _ _ _ => (n - intOf u).toNat)
    case atStart => exact ⟨-1, 0, rfl, rfl, by omega, by omega, B1, fun r hr => hr⟩
    case round =>
      clear B1
      obtain ⟨p, c, rfl, rfl, hp1, hp2, B1, HR⟩ := hrel
      have HO := Lib.hid (below_any (p := p) (H.out.below B1.out) (by omega))
      have hkl : (kids T p).length ≤ 64 := by have := kids_len V.out p; have := HL.out; omega
      go_wp2_with fail
      refine HO.out.mono ?_
      rintro e w2 ⟨v2, rfl, o2⟩
      have B2 : Hid (Below w.heap.size w w2) := bthen B1.out o2.bel
      obtain ⟨a2, cp2, rfl, hcp2, hf2⟩ := o2.row.form
      have HF : Hid (∀ W, Below w2.heap.size w2 W → ∀ j (hj : j < (kids T p).length), ∃ g, a2 = some ⟨g, 0, none⟩ ∧ W.cell? ⟨g, j, none⟩ = some (.int .i64 ((kids T p)[j] : Int))) := fun W hW j hj => by
        obtain ⟨g, h1, h2, h3⟩ := hf2 j (by unfold kidsI; rw [List.length_map]; exact hj)
        rw [kidsI_at hj] at h3
        exact ⟨g, h1, (hW.cell (p := ⟨g, j, none⟩) h2).trans h3⟩
      have hlen2 : (kidsI T p).length = (kids T p).length := by unfold kidsI; rw [List.length_map]
      rw [hlen2] at hcp2 ⊢
      have HKM : Hid (∀ k, k ∈ kids T p → k < n ∧ p < (k : Int)) := fun k hk => by
        obtain ⟨h1, h2⟩ := (mem_kids V.out).1 hk
        exact ⟨by have := HL.out; omega, (Dn.kid h1 h2).gt V.out⟩
      have HK : Hid (∀ ks, kids T p = ks → ∀ r, (c = bus → ks.find? (slot T s) = r → RtR T b bus s (-1) 0 r) ∧ (c ≠ bus → (∀ k ∈ ks, mt T b bus k = false) → RtR T b bus s (-1) 0 none) ∧ (c ≠ bus → ∀ k, k ∈ ks → mt T b bus k = true → RtR T b bus s (k : Int) (b k).se r → RtR T b bus s (-1) 0 r)) := fun ks e r => by
        subst e
        refine ⟨fun h1 h2 => ?_, fun h1 h2 => HR.out _ (.no h1 h2), fun h1 k hk hm hr => HR.out _ (.go h1 hk hm (fun k' hk' hm' => ha.out.uni hk hk' hm hm') hr)⟩
        subst h1
        exact HR.out _ (.here h2)
      clear hf2 o2 hlen2 HO HR
      obtain ⟨ks, hks⟩ : ∃ ks, kids T p = ks := ⟨_, rfl⟩
      have HKK := Lib.hid (HK.out ks hks)
      rw [hks] at HF HKM hcp2 hkl ⊢
      clear hks HK
      obtain ⟨m, hm⟩ : ∃ m, ks.length = m := ⟨_, rfl⟩
      have HM := Lib.hid hm
      rw [hm] at hcp2 hkl ⊢
      clear hm
      have CT : Hid (∀ W, Below w.heap.size w W → ∀ k, k < n → ∃ bT oT B, a = some ⟨bT, oT, none⟩ ∧ a' = some ⟨B, 0, none⟩ ∧ W.cell? ⟨bT, oT + k * 11 + 1, none⟩ = some (.int .i64 (fAt T k).sl) ∧ W.cell? ⟨bT, oT + k * 11 + 4, none⟩ = some (.bool (fAt T k).br) ∧ W.cell? ⟨B, k * 3 + 1, none⟩ = some (.int .i64 (b k).se) ∧ W.cell? ⟨B, k * 3 + 2, none⟩ = some (.int .i64 (b k).su)) := fun W hW k hk => by
        obtain ⟨bT, oT, e, hbT, _, _, hr⟩ := (H.out.below hW).at hk
        obtain ⟨B, e', _, _, d1, d2⟩ := (H'.out.below hW).at hk
        exact ⟨bT, oT, B, e, e', rangeAt.cell hr (j := 1) rfl, rangeAt.cell hr (j := 4) rfl, d1, d2⟩
      by_cases hcb : c = bus
      · have hcb1 : (c == bus) = true := by simp [hcb]
        have hcb2 : (c != bus) = false := by simp [hcb]
        have HC := Lib.hid hcb
        subst hcb
        go_wp2_with fail
        obtain ⟨wo, hwo⟩ : ∃ wo : World, wo = w2 := ⟨_, rfl⟩
        go_loopw [13, 14, 15] (fun x z _ wr => ∃ i : Nat, i ≤ m ∧ z = .int .i64 (i : Int) ∧ x = .int .i64 (-1) ∧ Hid (Below w2.heap.size w2 wr) ∧ Hid (∀ j (hj : j < ks.length), j < i → slot T s ks[j] = false)) (fun _ z _ _ => m - (intOf z).toNat)
        case atStart => exact ⟨0, by omega, rfl, rfl, Below.refl _ _, fun j _ hj => by omega⟩
        case round =>
          clear hwo
          obtain ⟨i, hi, rfl, rfl, B3, HI⟩ := hrel
          have B4 : Hid (Below w.heap.size w wr) := bthen B2.out B3.out
          by_cases him : i < m
          · have y1 : (i : Int) < m := by omega
            have hik : i < ks.length := by have := HM.out; omega
            obtain ⟨g, rfl, hc⟩ := HF.out wr B3.out i hik
            obtain ⟨k, hk⟩ : ∃ k, ks[i] = k := ⟨_, rfl⟩
            have hkn := (HKM.out k (by rw [← hk]; exact List.getElem_mem hik)).1
            have hkI : (k : Int) < n := by omega
            obtain ⟨bT, oT, B, rfl, rfl, c1, _, _, _⟩ := CT.out wr B4.out k hkn
            have HS : Hid (slot T s k = true → RtR T b c s (-1) 0 (some k)) := fun h => (HKK.out _).1 HC.out (by rw [← hk] at h ⊢; exact find_at hik h HI.out)
            have HI2 : Hid (slot T s k = false → ∀ j (hj : j < ks.length), j < i + 1 → slot T s ks[j] = false) := fun h j hj hji => by
              rcases Nat.lt_succ_iff_lt_or_eq.1 hji with h1 | rfl
              · exact HI.out j hj h1
              · rw [hk]; exact h
            have HSL : Hid (slot T s k = decide ((fAt T k).sl = s)) := rfl
            rw [hk] at hc
            clear hk
            generalize (fAt T k).sl = sl at *
            by_cases e : sl = s
            · have h2 := Lib.hid (HS.out (by rw [HSL.out]; simp [e]))
              subst e
              have e2 : (sl == sl) = true := by simp
              clear HS HI2
              go_wp2_with fail
              go_ret2
              exact RouteP.yes ha.out h2.out B4.out
            · have h2 := Lib.hid (HI2.out (by rw [HSL.out]; simp [e]))
              have e2 : (sl == s) = false := by simp [e]
              clear HS HI2
              go_wp2_with fail
              go_roundw
              case rel => exact ⟨i + 1, by omega, by go_num, rfl, B3, h2⟩
              case measure => simp [intOf]; omega
          · have y1 : ¬ (i : Int) < m := by omega
            have hr : Hid (RtR T b c s (-1) 0 none) := (HKK.out _).1 HC.out (find_none (fun j hj => HI.out j hj (by have := HM.out; omega)))
            go_wp2_with fail
            go_ret2
            exact RouteP.no ha.out hr.out B4.out
      · have hcb1 : (c == bus) = false := by simp [hcb]
        have hcb2 : (c != bus) = true := by simp [hcb]
        go_wp2_with fail
        obtain ⟨wo, hwo⟩ : ∃ wo : World, wo = w2 := ⟨_, rfl⟩
        go_loopw [13, 14, 15] (fun x z _ wr => ∃ (i : Nat) (y : Int), i ≤ m ∧ z = .int .i64 (i : Int) ∧ x = .int .i64 y ∧ Hid (Below w2.heap.size w2 wr) ∧ Hid (Nx T b bus ks i y)) (fun _ z _ _ => m - (intOf z).toNat)
        case atStart => exact ⟨0, -1, by omega, rfl, rfl, Below.refl _ _, .inl ⟨rfl, fun j _ hj => by omega⟩⟩
        case round =>
          clear hwo
          obtain ⟨i, y, hi, rfl, rfl, B3, HI⟩ := hrel
          have B4 : Hid (Below w.heap.size w wr) := bthen B2.out B3.out
          by_cases him : i < m
          · have y1 : (i : Int) < m := by omega
            have hik : i < ks.length := by have := HM.out; omega
            obtain ⟨g, rfl, hc⟩ := HF.out wr B3.out i hik
            obtain ⟨k, hk⟩ : ∃ k, ks[i] = k := ⟨_, rfl⟩
            have hkn := (HKM.out k (by rw [← hk]; exact List.getElem_mem hik)).1
            have hkI : (k : Int) < n := by omega
            obtain ⟨bT, oT, B, rfl, rfl, c1, c4, d1, d2⟩ := CT.out wr B4.out k hkn
            have HS : Hid (mt T b bus k = true → Nx T b bus ks (i + 1) (k : Int)) := fun h => .inr ⟨i, hik, by rw [hk], by rw [hk]; exact h⟩
            have HI2 : Hid (mt T b bus k = false → Nx T b bus ks (i + 1) y) := fun h => HI.out.skip hik (by rw [hk]; exact h)
            have HSL : Hid (mt T b bus k = ((fAt T k).br && decide ((b k).se ≤ bus) && decide (bus ≤ (b k).su))) := rfl
            rw [hk] at hc
            clear hk
            generalize (fAt T k).sl = sl at *
            generalize (fAt T k).br = br at *
            generalize (b k).se = se at *
            generalize (b k).su = su at *
            cases br
            · have h2 := Lib.hid (HI2.out (by rw [HSL.out]; rfl))
              clear HS HI2
              go_wp2_with fail
              go_roundw
              case rel => exact ⟨i + 1, y, by omega, by go_num, rfl, B3, h2⟩
              case measure => simp [intOf]; omega
            · by_cases q1 : se ≤ bus
              · by_cases q2 : bus ≤ su
                · have h2 := Lib.hid (HS.out (by rw [HSL.out]; simp [q1, q2]))
                  clear HS HI2
                  go_wp2_with fail
                  go_roundw
                  case rel => exact ⟨i + 1, k, by omega, by go_num, rfl, B3, h2⟩
                  case measure => simp [intOf]; omega
                · have h2 := Lib.hid (HI2.out (by rw [HSL.out]; simp; omega))
                  have q2' : ¬ bus ≤ su := q2
                  clear HS HI2
                  go_wp2_with fail
                  go_roundw
                  case rel => exact ⟨i + 1, y, by omega, by go_num, rfl, B3, h2⟩
                  case measure => simp [intOf]; omega
              · have h2 := Lib.hid (HI2.out (by rw [HSL.out]; simp; omega))
                have q1' : ¬ se ≤ bus := q1
                clear HS HI2
                go_wp2_with fail
                go_roundw
                case rel => exact ⟨i + 1, y, by omega, by go_num, rfl, B3, h2⟩
                case measure => simp [intOf]; omega
          · have y1 : ¬ (i : Int) < m := by omega
            rcases HI.out with ⟨rfl, hno⟩ | ⟨j, hj, rfl, hmt⟩
            · have hr : Hid (RtR T b bus s (-1) 0 none) := (HKK.out none).2.1 hcb (fun k hk => by
                obtain ⟨j, hj, rfl⟩ := List.mem_iff_getElem.1 hk
                exact hno j hj (by have := HM.out; omega))
              clear hno HI
              go_wp2_with fail
              go_ret2
              exact RouteP.no ha.out hr.out B4.out
            · obtain ⟨k, hk⟩ : ∃ k, ks[j] = k := ⟨_, rfl⟩
              have hkm : k ∈ ks := by rw [← hk]; exact List.getElem_mem hj
              obtain ⟨hkn, hkp⟩ := HKM.out k hkm
              rw [hk] at hmt HI ⊢
              have hr : Hid (∀ r, RtR T b bus s (k : Int) (b k).se r → RtR T b bus s (-1) 0 r) := fun r hr => (HKK.out r).2.2 hcb k hkm hmt hr
              obtain ⟨bT, oT, B, rfl, rfl, _, _, d1, _⟩ := CT.out wr B4.out k hkn
              have hkI : (k : Int) < n := by omega
              have hk0 : ¬ (k : Int) < 0 := by omega
              clear hmt hk HI
              go_wp2_with fail
              go_quiet (fail)
              generalize hgq : wr.drewN _ = wq at *
              have BQ : Hid (Below w.heap.size w wq) := by rw [← hgq]; exact bdN B4.out _
              clear hgq
              go_wp2_with fail
              go_roundw
              case rel => exact ⟨k, (b k).se, rfl, rfl, by omega, by omega, BQ, hr⟩
              case measure => simp [intOf]; omega
end Go.Proofs.Ytedihfcbpgogoaa
