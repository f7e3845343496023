/- ref.Valid. No condition but that the topology lies in memory. -/
import Derived.Test.YtedihfcbpgogoaaO
import Derived.Test.YtedihfcbpgogoaaN
namespace Go.Proofs.Ytedihfcbpgogoaa
open Go.RowKit
set_option maxRecDepth 100000 in
set_option maxHeartbeats 8000000 in
theorem rvalid_any {w : World} {a : Option Addr} {len cap : Nat} {T : List Fn} (h : FnS w a len cap T) :
    Calls Try.prog 25 #[.slice a len cap] w (VPost (Vld T) w) := by
  have H := Lib.hid h
  obtain ⟨hT, hc, hm⟩ := h.len
  clear h
  by_cases hl : len ≤ 64
  · have hl2 : ¬ (64 : Int) < len := by omega
    go_enter Try.func25, Try.ntmps25
    go_wp2_with fail
    go_loopw [3, 4] (fun z _ wr => ∃ i : Nat, i ≤ len ∧ z = .int .i64 (i : Int) ∧ Hid (Below w.heap.size w wr) ∧ Hid (∀ j, j < i → vI T j)) (fun z _ _ => len - (intOf z).toNat)
    case atStart => exact ⟨0, by omega, rfl, Below.refl _ _, fun j hj => by omega⟩
    case round =>
      obtain ⟨i, hi, rfl, B, HI⟩ := hrel
      by_cases hil : i < len
      · have y1 : (i : Int) < len := by omega
        obtain ⟨b, o, rfl, hb, hwf, hbv, hr⟩ := H.out.at hil
        have c : ∀ j u, (cF (fAt T i))[j]? = some u → wr.cell? ⟨b, o + i * 11 + j, none⟩ = some u := fun j u hu => (B.out.cell (p := ⟨b, o + i * 11 + j, none⟩) hb).trans (rangeAt.cell hr hu)
        have c0 := c 0 _ rfl
        have c1 := c 1 _ rfl
        have c2 := c 2 _ rfl
        have c3 := c 3 _ rfl
        have c4 := c 4 _ rfl
        have c5 := c 5 _ rfl
        have c6 := c 6 _ rfl
        have c7 := c 7 _ rfl
        have c8 := c 8 _ rfl
        have c9 := c 9 _ rfl
        have c10 := c 10 _ rfl
        rw [Nat.add_zero] at c0
        obtain ⟨ab, cb, hbv, hbar⟩ := hbv
        rw [hbv] at c10
        have HC : Hid (Calls Try.prog 40 #[.agg #[.int .i64 (fAt T i).pa, .int .i64 (fAt T i).sl, .int .i64 (fAt T i).ve, .int .i64 (fAt T i).de, .bool (fAt T i).br, .bool (fAt T i).pf, .bool (fAt T i).hp, .int .i64 (fAt T i).sp, .int .i64 (fAt T i).pn, .int .i64 (fAt T i).vc, .slice ab (fAt T i).ba.length cb]] wr (VPost (vF (fAt T i)) wr)) :=
          rvalidF_any (SLs.below hbar B.out (Nat.le_refl _))
        have HI2 := Lib.hid (fun (q : vI T i) (j : Nat) (hj : j < i + 1) => (by
          rcases Nat.lt_succ_iff_lt_or_eq.1 hj with h1 | rfl
          · exact HI.out j h1
          · exact q : vI T j))
        have NV : Hid (¬ vI T i → ¬ Vld T) := fun h1 h2 => h1 (h2.at' i (by omega))
        have KV : Hid (vF (fAt T i) → -1 ≤ (fAt T i).pa → (fAt T i).pa < (i : Int) → (0 ≤ (fAt T i).pa → (fAt T (fAt T i).pa.toNat).br = true) → (∀ j, j < i → ¬ ((fAt T j).pa = (fAt T i).pa ∧ (fAt T j).sl = (fAt T i).sl)) → vI T i) := fun h1 h2 h3 h4 h5 => ⟨h1, ⟨h2, h3⟩, h4, h5⟩
        have NF : Hid (¬ vF (fAt T i) → ¬ vI T i) := fun h1 h2 => h1 h2.fn
        have NP : Hid (vI T i → -1 ≤ (fAt T i).pa ∧ (fAt T i).pa < (i : Int)) := fun h2 => h2.pa
        have NB : Hid (vI T i → 0 ≤ (fAt T i).pa → (fAt T (fAt T i).pa.toNat).br = true) := fun h2 => h2.br
        have NS : Hid (vI T i → ∀ j, j < i → ¬ ((fAt T j).pa = (fAt T i).pa ∧ (fAt T j).sl = (fAt T i).sl)) := fun h2 => h2.un
        have cP : 0 ≤ (fAt T i).pa → (fAt T i).pa < (i : Int) → ∀ W, Below w.heap.size w W → W.cell? ⟨b, o + (fAt T i).pa.toNat * 11 + 4, none⟩ = some (.bool (fAt T (fAt T i).pa.toNat).br) := fun h1 h2 W hW => by
          obtain ⟨b', o', e, _, _, _, hr2⟩ := H.out.at (i := (fAt T i).pa.toNat) (by omega)
          injection e with e
          injection e with e1 e2 _
          subst e1 e2
          exact (hW.cell (p := ⟨b, o + (fAt T i).pa.toNat * 11 + 4, none⟩) hb).trans (rangeAt.cell hr2 (j := 4) rfl)
        have HCP := Lib.hid cP
        have CK : Hid (∀ k, k < len → ∀ W, Below w.heap.size w W → W.cell? ⟨b, o + k * 11, none⟩ = some (.int .i64 (fAt T k).pa) ∧ W.cell? ⟨b, o + k * 11 + 1, none⟩ = some (.int .i64 (fAt T k).sl)) := fun k hk W hW => by
          obtain ⟨b', o', e, _, _, _, hr2⟩ := H.out.at (i := k) hk
          injection e with e
          injection e with e1 e2 _
          subst e1 e2
          exact ⟨(hW.cell (p := ⟨b, o + k * 11, none⟩) hb).trans (rangeAt.cell hr2 (j := 0) rfl), (hW.cell (p := ⟨b, o + k * 11 + 1, none⟩) hb).trans (rangeAt.cell hr2 (j := 1) rfl)⟩
        have CI := Lib.hid (CK.out i hil)
        clear c hr hbar hwf cP
        generalize vI T i = VI at *
        generalize (fAt T (fAt T i).pa.toNat).br = pbr at *
        generalize fAt T i = fi at *
        generalize fi.ba.length = nb at *
        go_wp2_with fail
        refine HC.out.mono ?_
        rintro e w1 ⟨bb, rfl, hbb, hb1⟩
        have B1 : Hid (Below w.heap.size w w1) := bthen B.out hb1
        obtain ⟨c0, c1⟩ := CI.out w1 B1.out
        have cP := fun h1 h2 => HCP.out h1 h2 w1 B1.out
        clear HC c2 c3 c4 c5 c6 c7 c8 c9 c10 hb1 hbv
        cases bb
        · have hnv : Hid (¬ Vld T) := NV.out (NF.out (by simpa using hbb))
          clear hbb
          go_wp2_with fail
          go_ret
          exact vno hnv.out B1.out
        · have hvf : Hid (vF fi) := Lib.hid (by simpa using hbb)
          clear hbb
          by_cases p1 : -1 ≤ fi.pa
          · by_cases p2 : fi.pa < (i : Int)
            · have p1' : ¬ fi.pa < -1 := by omega
              have p2' : ¬ (i : Int) ≤ fi.pa := by omega
              have hlen : fi.pa < (len : Int) := by omega
              by_cases p3 : 0 ≤ fi.pa
              · have e1 := cP p3 p2
                clear cP HCP
                cases pbr
                · have hnv : Hid (¬ Vld T) := NV.out (fun q => by have := NB.out q p3; cases this)
                  go_wp2_with fail
                  go_ret
                  exact vno hnv.out B1.out
                · have kv : Hid ((∀ j, j < i → ¬ ((fAt T j).pa = fi.pa ∧ (fAt T j).sl = fi.sl)) → VI) := fun h => KV.out hvf.out p1 p2 (fun h => rfl) h
                  go_wp2_with fail
                  obtain ⟨wo, hwo⟩ : ∃ wo : World, wo = w1 := ⟨_, rfl⟩
                  go_loopw [4] (fun z wr => ∃ k : Nat, k ≤ i ∧ z = .int .i64 (k : Int) ∧ Hid (Below w.heap.size w wr) ∧ Hid (∀ j, j < k → ¬ ((fAt T j).pa = fi.pa ∧ (fAt T j).sl = fi.sl))) (fun z _ => i - (intOf z).toNat)
                  case atStart => exact ⟨0, by omega, rfl, B1, fun j hj => by omega⟩
                  case round =>
                    clear B1 c0 c1 hwo
                    obtain ⟨k, hk, rfl, B1, HK⟩ := hrel
                    by_cases hki : k < i
                    · have hkI : (k : Int) < i := by omega
                      have hkL : (k : Int) < len := by omega
                      obtain ⟨c0, c1⟩ := CI.out wr B1.out
                      obtain ⟨d0, d1⟩ := CK.out k (by omega) wr B1.out
                      have HK2 : Hid (¬ ((fAt T k).pa = fi.pa ∧ (fAt T k).sl = fi.sl) → ∀ j, j < k + 1 → ¬ ((fAt T j).pa = fi.pa ∧ (fAt T j).sl = fi.sl)) := fun h j hj => by
                        rcases Nat.lt_succ_iff_lt_or_eq.1 hj with h1 | rfl
                        · exact HK.out j h1
                        · exact h
                      have hnv : Hid ((fAt T k).pa = fi.pa ∧ (fAt T k).sl = fi.sl → ¬ Vld T) := fun h => NV.out (fun q => NS.out q k hki h)
                      generalize (fAt T k).pa = pk at *
                      generalize (fAt T k).sl = sk at *
                      by_cases q1 : pk = fi.pa
                      · have q1' : (pk == fi.pa) = true := by simp [q1]
                        by_cases q2 : sk = fi.sl
                        · have q2' : (sk == fi.sl) = true := by simp [q2]
                          have hn2 := Lib.hid (hnv.out ⟨q1, q2⟩)
                          clear HK2 hnv
                          subst q1 q2
                          go_wp2_with fail
                          go_quiet (fail)
                          go_wp2_with fail
                          go_ret
                          exact vno hn2.out (bdN B1.out _)
                        · have q2' : (sk == fi.sl) = false := by simp [q2]
                          have hn2 := Lib.hid (HK2.out (fun h => q2 h.2))
                          clear HK2 hnv
                          subst q1
                          go_wp2_with fail
                          go_quiet (fail)
                          go_wp2_with fail
                          go_roundw
                          case rel => exact ⟨k + 1, by omega, by go_num, bdN B1.out _, hn2⟩
                          case measure => simp [intOf]; omega
                      · have q1' : (pk == fi.pa) = false := by simp [q1]
                        have hn2 := Lib.hid (HK2.out (fun h => q1 h.1))
                        clear HK2 hnv
                        go_wp2_with fail
                        go_quiet (fail)
                        go_wp2_with fail
                        go_roundw
                        case rel => exact ⟨k + 1, by omega, by go_num, bdN B1.out _, hn2⟩
                        case measure => simp [intOf]; omega
                    · have hkI : ¬ (k : Int) < i := by omega
                      have hvi : Hid VI := kv.out (fun j hj => HK.out j (by omega))
                      go_wp2_with fail
                      go_roundw
                      case rel => exact ⟨i + 1, by omega, by go_num, B1, HI2.out hvi.out⟩
                      case measure => simp [intOf]; omega
              · clear cP HCP
                have kv : Hid ((∀ j, j < i → ¬ ((fAt T j).pa = fi.pa ∧ (fAt T j).sl = fi.sl)) → VI) := fun h => KV.out hvf.out p1 p2 (fun h => absurd h p3) h
                go_wp2_with fail
                obtain ⟨wo, hwo⟩ : ∃ wo : World, wo = w1 := ⟨_, rfl⟩
                go_loopw [4] (fun z wr => ∃ k : Nat, k ≤ i ∧ z = .int .i64 (k : Int) ∧ Hid (Below w.heap.size w wr) ∧ Hid (∀ j, j < k → ¬ ((fAt T j).pa = fi.pa ∧ (fAt T j).sl = fi.sl))) (fun z _ => i - (intOf z).toNat)
                case atStart => exact ⟨0, by omega, rfl, B1, fun j hj => by omega⟩
                case round =>
                  clear B1 c0 c1 hwo
                  obtain ⟨k, hk, rfl, B1, HK⟩ := hrel
                  by_cases hki : k < i
                  · have hkI : (k : Int) < i := by omega
                    have hkL : (k : Int) < len := by omega
                    obtain ⟨c0, c1⟩ := CI.out wr B1.out
                    obtain ⟨d0, d1⟩ := CK.out k (by omega) wr B1.out
                    have HK2 : Hid (¬ ((fAt T k).pa = fi.pa ∧ (fAt T k).sl = fi.sl) → ∀ j, j < k + 1 → ¬ ((fAt T j).pa = fi.pa ∧ (fAt T j).sl = fi.sl)) := fun h j hj => by
                      rcases Nat.lt_succ_iff_lt_or_eq.1 hj with h1 | rfl
                      · exact HK.out j h1
                      · exact h
                    have hnv : Hid ((fAt T k).pa = fi.pa ∧ (fAt T k).sl = fi.sl → ¬ Vld T) := fun h => NV.out (fun q => NS.out q k hki h)
                    generalize (fAt T k).pa = pk at *
                    generalize (fAt T k).sl = sk at *
                    by_cases q1 : pk = fi.pa
                    · have q1' : (pk == fi.pa) = true := by simp [q1]
                      by_cases q2 : sk = fi.sl
                      · have q2' : (sk == fi.sl) = true := by simp [q2]
                        have hn2 := Lib.hid (hnv.out ⟨q1, q2⟩)
                        clear HK2 hnv
                        subst q1 q2
                        go_wp2_with fail
                        go_quiet (fail)
                        go_wp2_with fail
                        go_ret
                        exact vno hn2.out (bdN B1.out _)
                      · have q2' : (sk == fi.sl) = false := by simp [q2]
                        have hn2 := Lib.hid (HK2.out (fun h => q2 h.2))
                        clear HK2 hnv
                        subst q1
                        go_wp2_with fail
                        go_quiet (fail)
                        go_wp2_with fail
                        go_roundw
                        case rel => exact ⟨k + 1, by omega, by go_num, bdN B1.out _, hn2⟩
                        case measure => simp [intOf]; omega
                    · have q1' : (pk == fi.pa) = false := by simp [q1]
                      have hn2 := Lib.hid (HK2.out (fun h => q1 h.1))
                      clear HK2 hnv
                      go_wp2_with fail
                      go_quiet (fail)
                      go_wp2_with fail
                      go_roundw
                      case rel => exact ⟨k + 1, by omega, by go_num, bdN B1.out _, hn2⟩
                      case measure => simp [intOf]; omega
                  · have hkI : ¬ (k : Int) < i := by omega
                    have hvi : Hid VI := kv.out (fun j hj => HK.out j (by omega))
                    go_wp2_with fail
                    go_roundw
                    case rel => exact ⟨i + 1, by omega, by go_num, B1, HI2.out hvi.out⟩
                    case measure => simp [intOf]; omega
            · have hnv : Hid (¬ Vld T) := NV.out (fun q => p2 (NP.out q).2)
              have p2' : (i : Int) ≤ fi.pa := by omega
              have p1' : ¬ fi.pa < -1 := by omega
              go_wp2_with fail
              go_ret
              exact vno hnv.out B1.out
          · have hnv : Hid (¬ Vld T) := NV.out (fun q => p1 (NP.out q).1)
            have p1' : fi.pa < -1 := by omega
            go_wp2_with fail
            go_ret
            exact vno hnv.out B1.out
      · have y1 : ¬ (i : Int) < len := by omega
        have hv : Hid (Vld T) := ⟨by omega, fun j hj => HI.out j (by omega)⟩
        go_wp2_with fail
        go_ret
        exact vyes hv.out B.out
  · have hl2 : (64 : Int) < len := by omega
    have hv : Hid (¬ Vld T) := fun h => hl (by have := h.len; omega)
    go_enter Try.func25, Try.ntmps25
    go_wp2_with fail
    go_ret
    exact vno hv.out (Below.refl _ _)
end Go.Proofs.Ytedihfcbpgogoaa
