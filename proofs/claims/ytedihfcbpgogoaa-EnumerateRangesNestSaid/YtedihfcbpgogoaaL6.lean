/- EnumerateRangesNest answers true. No condition but that the row lies in memory. -/
import Derived.Test.YtedihfcbpgogoaaL7
namespace Go.Proofs.Ytedihfcbpgogoaa
open Go.RowKit
theorem dn_up {T : List Fn} {k i : Nat} (hi : i < T.length) : Dn T (k : Int) i ↔ ∃ m : Nat, (fAt T i).pa = (m : Int) ∧ (m = k ∨ Dn T (k : Int) m) := by
  constructor
  · intro h
    cases h with
    | kid _ hp => exact ⟨k, hp, .inl rfl⟩
    | step hm _ hp => exact ⟨_, hp, .inr hm⟩
  · rintro ⟨m, hp, rfl | hm⟩
    · exact .kid hi hp
    · exact .step hm hi hp
/-- p lies on the way up from i; above tells whether k has been met. -/
def UpI (T : List Fn) (k i : Nat) (p : Int) (above : Bool) : Prop := (above = true ∨ ∃ m : Nat, p = (m : Int) ∧ (m = k ∨ Dn T (k : Int) m)) ↔ Dn T (k : Int) i
theorem UpI.start {T : List Fn} {k i : Nat} (hi : i < T.length) : UpI T k i (fAt T i).pa false := by
  unfold UpI; rw [dn_up hi]; simp
theorem UpI.step {T : List Fn} {k i m : Nat} {a : Bool} (hm : m < T.length) (h : UpI T k i (m : Int) a) : UpI T k i (fAt T m).pa (a || decide ((m : Int) = (k : Int))) := by
  unfold UpI at *
  rw [← h]
  constructor
  · rintro (h1 | ⟨q, e, h1⟩)
    · simp only [Bool.or_eq_true, decide_eq_true_eq] at h1
      rcases h1 with h1 | h1
      · exact .inl h1
      · exact .inr ⟨m, rfl, .inl (by omega)⟩
    · exact .inr ⟨m, rfl, .inr ((dn_up hm).2 ⟨q, e, h1⟩)⟩
  · rintro (h1 | ⟨q, e, h1⟩)
    · exact .inl (by simp [h1])
    · have : q = m := by omega
      subst this
      rcases h1 with h1 | h1
      · exact .inl (by simp [h1])
      · exact .inr ((dn_up hm).1 h1)
theorem UpI.done {T : List Fn} {k i : Nat} {p : Int} {a : Bool} (hp : p < 0) (h : UpI T k i p a) : a = true ↔ Dn T (k : Int) i := by
  unfold UpI at h
  rw [← h]
  constructor
  · exact .inl
  · rintro (h1 | ⟨q, e, _⟩)
    · exact h1
    · omega
structure NF (T : List Fn) : Prop where
  nb : ∀ i, i < T.length → (fAt T i).br = false → ((bus T).2 i).se = 0 ∧ ((bus T).2 i).su = 0
  rg : ∀ i, i < T.length → (fAt T i).br = true → 0 < ((bus T).2 i).se ∧ ((bus T).2 i).se + (fAt T i).sp ≤ ((bus T).2 i).su ∧ ((bus T).2 i).su ≤ 100000 ∧ ((bus T).2 i).bu < ((bus T).2 i).se ∧ 0 ≤ (fAt T i).sp
  two : ∀ i k, i < T.length → k < i → (fAt T i).br = true → (fAt T k).br = true → (Dn T (k : Int) i ∧ ((bus T).2 k).se < ((bus T).2 i).se ∧ ((bus T).2 i).su ≤ ((bus T).2 k).su) ∨ (¬ Dn T (k : Int) i ∧ (((bus T).2 k).su < ((bus T).2 i).se ∨ ((bus T).2 i).su < ((bus T).2 k).se))
theorem nf {T : List Fn} (v : Vld T) : NF T := by
  have V := v.vt
  have N : Num T (Dn T (-1)) 0 b0 (bus T).1 (bus T).2 := (num_spec V (T.length + 1) (-1) 0 0 b0 (by omega) (by omega) (Int.le_refl _)).1
  have hb := bus_le V v.len
  refine ⟨fun i hi h => ?_, fun i hi h => ?_, fun i k hi hk h1 h2 => ?_⟩
  · exact N.nb i (dn_root V i hi) h
  · have := N.rg i (dn_root V i hi) h
    have := V.sp i hi
    omega
  · have hkl : k < T.length := by omega
    by_cases hd : Dn T (k : Int) i
    · exact .inl ⟨hd, N.nest k i (dn_root V k hkl) (dn_root V i hi) h1 hd⟩
    · refine .inr ⟨hd, N.dis k i (dn_root V k hkl) (dn_root V i hi) h2 h1 (by omega) hd (fun h => by have := h.gt V; omega)⟩
set_option maxRecDepth 100000 in
set_option maxHeartbeats 8000000 in
theorem ranges_any {w : World} {a : Option Addr} {len cap : Nat} {T0 : List Fn} (h : FnS w a len cap T0) :
    Calls Try.prog 6 #[.slice a len cap] w fun e w' => e = .returned (.bool true) ∧ Below w.heap.size w w' := by
  have HT := Lib.hid (topo_any h)
  clear h
  go_enter Try.func6, Try.ntmps6
  go_wp2_with fail
  refine HT.out.mono ?_
  rintro e w1 ⟨X, vb, vo, Lb, T, Sx, nn, rfl, S, G, hT⟩
  obtain ⟨a1, c1, rfl, H1⟩ := topo_FnS S G
  have H := Lib.hid H1
  have B1 := Lib.hid S.bel
  have V := Lib.hid (G.vld hT)
  have hcc := H1.len.2.1
  have HB := Lib.hid (buses_any (n := 256) H1)
  clear H1 S G HT
  go_wp2_with fail
  refine HB.out.mono ?_
  rintro e w2 ⟨b2, ⟨hv, _⟩ | ⟨_, _, _, h3, rfl⟩ | ⟨_, _, _, h3, B, hB, hr, rfl⟩⟩
  · exact absurd ⟨V.out, by omega, by omega⟩ hv
  · have B2 : Hid (Below w.heap.size w w2) := bthen B1.out b2
    have HA := Lib.hid (awake_any w2)
    clear HB b2 h3
    go_wp2_with fail
    refine HA.out.mono ?_
    rintro e w3 ⟨rfl, b3⟩
    have B3 : Hid (Below w.heap.size w w3) := bthen B2.out b3
    have HA3 := Lib.hid (awake_any w3)
    clear b3 HA
    go_wp2_with fail
    refine HA3.out.mono ?_
    rintro e w4 ⟨rfl, b4⟩
    have B4 : Hid (Below w.heap.size w w4) := bthen B3.out b4
    clear b4
    go_wp2_with fail
    go_ret
    exact ⟨rfl, B4.out⟩
  · have B2 : Hid (Below w.heap.size w w2) := bthen B1.out b2
    have HA := Lib.hid (awake_any w2)
    have H2 := Lib.hid (H.out.below b2)
    have BS2 : Hid (BS w2 (some ⟨B, 0, none⟩) T.length T.length (bus T).2) := ⟨Nat.le_refl _, by omega, .inr ⟨B, rfl, hr⟩⟩
    have N := Lib.hid (nf V.out)
    clear HB b2 h3 hr hB H
    obtain ⟨m, hm⟩ : ∃ m, T.length = m := ⟨_, rfl⟩
    have HM := Lib.hid hm
    rw [hm] at H2 BS2 hcc hT ⊢
    clear hm
    have hmm : ((m : Int) != (m : Int)) = false := by simp
    go_wp2_with fail
    refine HA.out.mono ?_
    rintro e w3 ⟨rfl, b3⟩
    have B3 : Hid (Below w.heap.size w w3) := bthen B2.out b3
    have H3 := Lib.hid (H2.out.below b3)
    have BS3 := Lib.hid (BS2.out.below b3)
    clear b3 HA H2 BS2 B2
    have C : Hid (∀ W, Below w3.heap.size w3 W → ∀ i, i < m → ∃ bT oT, a1 = some ⟨bT, oT, none⟩ ∧ W.cell? ⟨bT, oT + i * 11, none⟩ = some (.int .i64 (fAt T i).pa) ∧ W.cell? ⟨bT, oT + i * 11 + 4, none⟩ = some (.bool (fAt T i).br) ∧ W.cell? ⟨bT, oT + i * 11 + 7, none⟩ = some (.int .i64 (fAt T i).sp) ∧
        W.cell? ⟨B, i * 3, none⟩ = some (.int .i64 ((bus T).2 i).bu) ∧ W.cell? ⟨B, i * 3 + 1, none⟩ = some (.int .i64 ((bus T).2 i).se) ∧ W.cell? ⟨B, i * 3 + 2, none⟩ = some (.int .i64 ((bus T).2 i).su)) := fun W hW i hi => by
      obtain ⟨bT, oT, e, hbT, _, _, hr⟩ := (H3.out.below hW).at hi
      obtain ⟨B', e', _, d0, d1, d2⟩ := (BS3.out.below hW).at hi
      injection e' with e'
      injection e' with e' _ _
      subst e'
      exact ⟨bT, oT, e, rangeAt.cell hr (j := 0) rfl, rangeAt.cell hr (j := 4) rfl, rangeAt.cell hr (j := 7) rfl, d0, d1, d2⟩
    obtain ⟨bn, hbn⟩ : ∃ bn, (bus T).2 = bn := ⟨_, rfl⟩
    have n1 := N.out.nb
    have n2 := N.out.rg
    have n3 := N.out.two
    rw [hbn, HM.out] at n1 n2 n3
    rw [hbn] at C
    have N1 := Lib.hid n1
    have N2 := Lib.hid n2
    have N3 := Lib.hid n3
    clear n1 n2 n3 hbn N H3 BS3
    have PA : Hid (∀ i, i < m → -1 ≤ (fAt T i).pa ∧ (fAt T i).pa < (i : Int)) := fun i hi => V.out.vt.pa i (by have := HM.out; omega)
    go_wp2_with fail
    go_loopw [6, 7, 8, 9, 10, 11] (fun z _ _ _ _ _ wr => ∃ i : Nat, i ≤ m ∧ z = .int .i64 (i : Int) ∧ Hid (Below w3.heap.size w3 wr)) (fun z _ _ _ _ _ _ => m - (intOf z).toNat)
    case atStart => exact ⟨0, by omega, rfl, Below.refl _ _⟩
    case round =>
      obtain ⟨i, hi, rfl, BR⟩ := hrel
      by_cases him : i < m
      · have y1 : (i : Int) < m := by omega
        obtain ⟨bT, oT, rfl, c0, c4, c7, d0, d1, d2⟩ := C.out wr BR.out i him
        have PAi := PA.out i him
        cases hbr : (fAt T i).br
        · rw [hbr] at c4
          obtain ⟨e1, e2⟩ := N1.out i him hbr
          rw [e1] at d1
          rw [e2] at d2
          clear hbr e1 e2 PAi
          go_wp2_with fail
          go_roundw
          case rel => exact ⟨i + 1, by omega, by go_num, BR⟩
          case measure => simp [intOf]; omega
        · rw [hbr] at c4
          have n2 := N2.out i him hbr
          have N3i := Lib.hid (fun k (hk : k < i) (hkb : (fAt T k).br = true) => N3.out i k him hk hbr hkb)
          have SEi : Hid (∀ W, Below w3.heap.size w3 W → W.cell? ⟨bT, oT + i * 11, none⟩ = some (.int .i64 (fAt T i).pa) ∧ W.cell? ⟨B, i * 3 + 1, none⟩ = some (.int .i64 (bn i).se) ∧ W.cell? ⟨B, i * 3 + 2, none⟩ = some (.int .i64 (bn i).su)) := fun W hW => by
            obtain ⟨bT', oT', e, c0, _, _, _, d1, d2⟩ := C.out W hW i him
            injection e with e
            injection e with e1 e2 _
            subst e1 e2
            exact ⟨c0, d1, d2⟩
          have U0 : Hid (∀ k, UpI T k i (fAt T i).pa false) := fun k => UpI.start (by have := HM.out; omega)
          clear hbr
          generalize (bn i).bu = bui at *
          generalize (bn i).se = sei at *
          generalize (bn i).su = sui at *
          generalize (fAt T i).sp = spi at *
          generalize (fAt T i).pa = pai at *
          have g1 : decide (sei ≤ bui) = false := by simp; omega
          have g2 : IntKind.i64.wrap (sei + spi) = sei + spi := IntWalk.i64_in _ (by omega)
          have g3 : decide (sui < sei + spi) = false := by simp; omega
          go_wp2_with fail
          go_quiet (fail)
          clear g1 g2 g3
          generalize hgq : wr.drewN _ = wq at *
          have BR2 : Hid (Below w3.heap.size w3 wq) := by rw [← hgq]; exact bdN BR.out _
          clear hgq
          go_wp2_with fail
          obtain ⟨wo, hwo⟩ : ∃ wo : World, wo = wq := ⟨_, rfl⟩
          go_loopw [7, 8, 9, 10, 11] (fun z _ _ _ _ wr => ∃ k : Nat, k ≤ i ∧ z = .int .i64 (k : Int) ∧ Hid (Below w3.heap.size w3 wr)) (fun z _ _ _ _ _ => i - (intOf z).toNat)
          case atStart => exact ⟨0, by omega, rfl, BR2⟩
          case round =>
            clear hwo BR2
            obtain ⟨k, hk, rfl, BK⟩ := hrel
            by_cases hki : k < i
            · have yk : (k : Int) < i := by omega
              have ykm : (k : Int) < m := by omega
              obtain ⟨bT', oT', ee, _, kc4, _, _, kd1, kd2⟩ := C.out wr BK.out k (by omega)
              injection ee with ee
              injection ee with ee1 ee2 _
              subst ee1 ee2
              obtain ⟨ic0, id1, id2⟩ := SEi.out wr BK.out
              cases hkb : (fAt T k).br
              · rw [hkb] at kc4
                clear hkb
                go_wp2_with fail
                go_roundw
                case rel => exact ⟨k + 1, by omega, by go_num, BK⟩
                case measure => simp [intOf]; omega
              · rw [hkb] at kc4
                have n3 := N3i.out k hki hkb
                have n2k := N2.out k (by omega) hkb
                have SEk : Hid (∀ W, Below w3.heap.size w3 W → W.cell? ⟨B, k * 3 + 1, none⟩ = some (.int .i64 (bn k).se) ∧ W.cell? ⟨B, k * 3 + 2, none⟩ = some (.int .i64 (bn k).su)) := fun W hW => by
                  obtain ⟨_, _, _, _, _, _, _, d1, d2⟩ := C.out W hW k (by omega)
                  exact ⟨d1, d2⟩
                have HN3 := Lib.hid n3
                clear hkb n3
                generalize (bn k).bu = buk at *
                generalize (bn k).se = sek at *
                generalize (bn k).su = suk at *
                generalize (fAt T k).sp = spk at *
                go_wp2_with fail
                obtain ⟨wo, hwo⟩ : ∃ wo : World, wo = wr := ⟨_, rfl⟩
                go_loopw [8, 9] (fun x z wr => ∃ (ab : Bool) (p : Int), x = .bool ab ∧ z = .int .i64 p ∧ -1 ≤ p ∧ p < i ∧ Hid (UpI T k i p ab) ∧ Hid (Below w3.heap.size w3 wr)) (fun _ z _ => (intOf z + 1).toNat)
                case atStart => exact ⟨false, pai, rfl, rfl, PAi.1, PAi.2, U0.out k, BK⟩
                case round =>
                  clear hwo BK kc4 kd1 kd2 ic0 id1 id2
                  obtain ⟨ab, p, rfl, rfl, hp1, hp2, U, BP⟩ := hrel
                  by_cases hp0 : 0 ≤ p
                  · obtain ⟨q, rfl⟩ : ∃ q : Nat, p = (q : Int) := ⟨p.toNat, by omega⟩
                    obtain ⟨bT', oT', ee, qc0, _⟩ := C.out wr BP.out q (by omega)
                    injection ee with ee
                    injection ee with ee1 ee2 _
                    subst ee1 ee2
                    have yq : (q : Int) < m := by omega
                    have PAq := PA.out q (by omega)
                    have U2 := Lib.hid (U.out.step (by have := HM.out; omega))
                    generalize (fAt T q).pa = paq at *
                    cases ab
                    · by_cases e : q = k
                      · subst e
                        have e2 : ((q : Int) == (q : Int)) = true := by simp
                        have U3 : Hid (UpI T q i paq true) := by
                          have := U2.out
                          rw [show decide ((q : Int) = (q : Int)) = true by simp] at this
                          exact Lib.hid this
                        go_wp2_with fail
                        go_roundw
                        case rel => exact ⟨true, paq, rfl, rfl, PAq.1, by omega, U3, BP⟩
                        case measure => simp [intOf]; omega
                      · have e2 : ((q : Int) == (k : Int)) = false := by simp; omega
                        have U3 : Hid (UpI T k i paq false) := by
                          have := U2.out
                          rw [show decide ((q : Int) = (k : Int)) = false by simp; omega] at this
                          exact Lib.hid this
                        go_wp2_with fail
                        go_roundw
                        case rel => exact ⟨false, paq, rfl, rfl, PAq.1, by omega, U3, BP⟩
                        case measure => simp [intOf]; omega
                    · have U3 : Hid (UpI T k i paq true) := by have := U2.out; rw [Bool.true_or] at this; exact Lib.hid this
                      go_wp2_with fail
                      go_roundw
                      case rel => exact ⟨true, paq, rfl, rfl, PAq.1, by omega, U3, BP⟩
                      case measure => simp [intOf]; omega
                  · have hp0' : ¬ 0 ≤ p := hp0
                    have hdn := U.out.done (by omega)
                    obtain ⟨kd1, kd2⟩ := SEk.out wr BP.out
                    obtain ⟨_, id1, id2⟩ := SEi.out wr BP.out
                    rcases HN3.out with ⟨hd, r1, r2⟩ | ⟨hd, r1⟩
                    · have hab : ab = true := hdn.2 hd
                      subst hab
                      have t1 : decide (sek < sei) = true := by simp; omega
                      have t2 : decide (sui ≤ suk) = true := by simp; omega
                      have t3 : decide (suk < sei) = false := by simp; omega
                      have t4 : decide (sui < sek) = false := by simp; omega
                      clear hdn hd r1 r2 U
                      go_wp2_with fail
                      go_quiet (fail)
                      generalize hgq : wr.drewN _ = wq2 at *
                      have BQ : Hid (Below w3.heap.size w3 wq2) := by rw [← hgq]; exact bdN BP.out _
                      clear hgq
                      obtain ⟨kd1, kd2⟩ := SEk.out wq2 BQ.out
                      obtain ⟨_, id1, id2⟩ := SEi.out wq2 BQ.out
                      go_wp2_with fail
                      go_quiet (fail)
                      generalize hgq : wq2.drewN _ = wq3 at *
                      have BQ2 : Hid (Below w3.heap.size w3 wq3) := by rw [← hgq]; exact bdN BQ.out _
                      clear hgq
                      go_wp2_with fail
                      go_roundw
                      case rel => exact ⟨k + 1, by omega, by go_num, BQ2⟩
                      case measure => simp [intOf]; omega
                    · have hab : ab = false := by cases ab; rfl; exact absurd (hdn.1 rfl) hd
                      subst hab
                      clear hdn hd U
                      by_cases r2 : suk < sei
                      · have t1 : decide (sek < sei) = true := by simp; omega
                        have t2 : decide (sui ≤ suk) = false := by simp; omega
                        have t3 : decide (suk < sei) = true := by simp; omega
                        clear r1
                        go_wp2_with fail
                        go_quiet (fail)
                        generalize hgq : wr.drewN _ = wq2 at *
                        have BQ : Hid (Below w3.heap.size w3 wq2) := by rw [← hgq]; exact bdN BP.out _
                        clear hgq
                        obtain ⟨kd1, kd2⟩ := SEk.out wq2 BQ.out
                        obtain ⟨_, id1, id2⟩ := SEi.out wq2 BQ.out
                        go_wp2_with fail
                        go_quiet (fail)
                        generalize hgq : wq2.drewN _ = wq3 at *
                        have BQ2 : Hid (Below w3.heap.size w3 wq3) := by rw [← hgq]; exact bdN BQ.out _
                        clear hgq
                        go_wp2_with fail
                        go_roundw
                        case rel => exact ⟨k + 1, by omega, by go_num, BQ2⟩
                        case measure => simp [intOf]; omega
                      · have t1 : decide (sek < sei) = false := by simp; omega
                        have t3 : decide (suk < sei) = false := by simp; omega
                        have t4 : decide (sui < sek) = true := by simp; omega
                        clear r1
                        go_wp2_with fail
                        go_quiet (fail)
                        generalize hgq : wr.drewN _ = wq2 at *
                        have BQ : Hid (Below w3.heap.size w3 wq2) := by rw [← hgq]; exact bdN BP.out _
                        clear hgq
                        obtain ⟨kd1, kd2⟩ := SEk.out wq2 BQ.out
                        obtain ⟨_, id1, id2⟩ := SEi.out wq2 BQ.out
                        go_wp2_with fail
                        go_quiet (fail)
                        generalize hgq : wq2.drewN _ = wq3 at *
                        have BQ2 : Hid (Below w3.heap.size w3 wq3) := by rw [← hgq]; exact bdN BQ.out _
                        clear hgq
                        go_wp2_with fail
                        go_roundw
                        case rel => exact ⟨k + 1, by omega, by go_num, BQ2⟩
                        case measure => simp [intOf]; omega
            · have yk : ¬ (k : Int) < i := by omega
              go_wp2_with fail
              go_roundw
              case rel => exact ⟨i + 1, by omega, by go_num, BK⟩
              case measure => simp [intOf]; omega
      · have y1 : ¬ (i : Int) < m := by omega
        have BF : Hid (Below w.heap.size w wr) := bthen B3.out BR.out
        go_wp2_with fail
        go_ret
        exact ⟨rfl, BF.out⟩
end Go.Proofs.Ytedihfcbpgogoaa
