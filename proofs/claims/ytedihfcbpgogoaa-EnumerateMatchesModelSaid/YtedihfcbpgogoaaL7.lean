/- EnumerateSmallestNumber answers true. No condition but that the row lies in memory. -/
import Derived.Test.YtedihfcbpgogoaaTB
namespace Go.Proofs.Ytedihfcbpgogoaa
open Go.RowKit
theorem topo_FnS {w w' : World} {X : Nat} {vb vo : Value} {Lb : List Int} {T : List Fn} {Sx : Int → Int → Bool} {n : Nat} {R : Nat → Prop} (S : TS w w' X vb vo Lb T Sx n R) (G : TG Lb T) : ∃ a cap, vo = .slice a T.length cap ∧ FnS w' a T.length cap T := by
  obtain ⟨a, cap, e⟩ : ∃ a cap, vo = .slice a T.length cap := by
    obtain ⟨_, ⟨e, h0⟩ | ⟨g, cap, cur, e, _⟩⟩ := S.out
    · exact ⟨none, 0, by rw [e, h0]⟩
    · exact ⟨_, _, e⟩
  subst e
  refine ⟨a, cap, rfl, own_SLs S.out rfl (fun x _ => cF_len x) G.wf, fun f hf => ?_⟩
  obtain ⟨a', c', e1, e2, _⟩ := S.bars f hf
  exact ⟨a', c', e1, e2⟩
theorem bus_all {T : List Fn} (V : VT T) : (bus T).1 = ws T (fun _ => True) T.length := by
  have h1 := (num_spec V (T.length + 1) (-1) 0 0 b0 (by omega) (by omega) (Int.le_refl _)).1
  have h3 := h1.tot
  have e : bus T = num T (T.length + 1) (-1) 0 0 b0 := rfl
  rw [← e] at h3
  rw [h3, ws_congr T (S2 := fun _ => True) T.length (fun j hj => ⟨fun _ => trivial, fun _ => dn_root V j hj⟩)]
  omega
theorem ws_succ (T : List Fn) (n : Nat) : ws T (fun _ => True) (n + 1) = ws T (fun _ => True) n + if (fAt T n).br = true then 1 + (fAt T n).sp else 0 := by
  simp [ws]
set_option maxRecDepth 100000 in
set_option maxHeartbeats 2000000 in
theorem smallest_any {w : World} {a : Option Addr} {len cap : Nat} {T0 : List Fn} {n : Int} (h : FnS w a len cap T0) :
    Calls Try.prog 7 #[.slice a len cap, .int .i64 n] w fun e w' => e = .returned (.bool true) ∧ Below w.heap.size w w' := by
  have HT := Lib.hid (topo_any h)
  clear h
  go_enter Try.func7, Try.ntmps7
  go_wp2_with fail
  refine HT.out.mono ?_
  rintro e w1 ⟨X, vb, vo, Lb, T, Sx, nn, rfl, S, G, hT⟩
  obtain ⟨a1, c1, rfl, H1⟩ := topo_FnS S G
  have H := Lib.hid H1
  have B1 := Lib.hid S.bel
  have V := Lib.hid (G.vld hT)
  have hcc := H1.len.2.1
  obtain ⟨m, hm⟩ : ∃ m, T.length = m := ⟨_, rfl⟩
  have HM := Lib.hid hm
  rw [hm] at H hT hcc ⊢
  clear hm H1 S G HT
  go_wp2_with fail
  go_loopw [6, 7] (fun x z wr => ∃ i : Nat, i ≤ m ∧ z = .int .i64 (i : Int) ∧ x = .int .i64 (1 + ws T (fun _ => True) i) ∧ w1 = wr) (fun _ z _ => m - (intOf z).toNat)
  case atStart => exact ⟨0, by omega, rfl, rfl, rfl⟩
  case round =>
    obtain ⟨i, hi, rfl, rfl, rfl⟩ := hrel
    have hws := ws_le T V.out.vt (fun _ => True) i (by have := HM.out; omega)
    by_cases him : i < m
    · have y1 : (i : Int) < m := by omega
      obtain ⟨bT, oT, rfl, hbT, _, _, hr⟩ := H.out.at him
      have c4 : w1.cell? ⟨bT, oT + i * 11 + 4, none⟩ = some (.bool (fAt T i).br) := rangeAt.cell hr (j := 4) rfl
      have c7 : w1.cell? ⟨bT, oT + i * 11 + 7, none⟩ = some (.int .i64 (fAt T i).sp) := rangeAt.cell hr (j := 7) rfl
      have hsp := V.out.vt.sp i (by have := HM.out; omega)
      have hsc := ws_succ T i
      have HS := Lib.hid hsc
      clear hsc hr
      generalize (fAt T i).sp = sp at *
      generalize (fAt T i).br = br at *
      generalize ws T (fun _ => True) i = W at *
      cases br
      · have HS2 : Hid (ws T (fun _ => True) (i + 1) = W) := by show _ = _; rw [HS.out]; simp
        go_wp2_with fail
        go_roundw
        case rel => exact ⟨i + 1, by omega, by go_num, by rw [HS2.out], trivial⟩
        case measure => simp [intOf]; omega
      · have HS2 : Hid (ws T (fun _ => True) (i + 1) = W + (1 + sp)) := by show _ = _; rw [HS.out]; simp
        go_wp2_with fail
        go_roundw
        case rel => exact ⟨i + 1, by omega, by go_num, by rw [HS2.out]; go_num, trivial⟩
        case measure => simp [intOf]; omega
    · have y1 : ¬ (i : Int) < m := by omega
      have hbus : Hid ((bus T).1 = ws T (fun _ => True) i) := by
        show _ = _
        rw [bus_all V.out.vt]; congr 1; have := HM.out; omega
      have hn := moI_lt n 256 (by omega)
      have HMo := Lib.hid (mod_any n 256 w1 (by omega) (by omega))
      generalize ws T (fun _ => True) i = W at *
      generalize moI n 256 = q at *
      go_wp2_with fail
      refine HMo.out.mono ?_
      rintro e w2 ⟨rfl, rfl⟩
      have HB := Lib.hid (buses_any (n := 1 + q) H.out)
      clear HMo
      go_wp2_with fail
      refine HB.out.mono ?_
      rintro e w3 ⟨b3, ⟨hv, _⟩ | ⟨_, _, _, h3, rfl⟩ | ⟨_, _, _, h3, B, _, _, rfl⟩⟩
      · exact absurd ⟨V.out, by omega, by omega⟩ hv
      · rw [hbus.out] at h3
        have B3 : Hid (Below w.heap.size w w3) := bthen B1.out b3
        have HA := Lib.hid (awake_any w3)
        have hq : ¬ (1 + W ≤ 1 + q) := by omega
        have hq2 : decide (W ≤ q) = false := by simp; omega
        clear HB b3
        go_wp2_with fail
        refine HA.out.mono ?_
        rintro e w4 ⟨rfl, b4⟩
        have B4 : Hid (Below w.heap.size w w4) := bthen B3.out b4
        clear b4
        go_wp2_with fail
        go_ret
        exact ⟨rfl, B4.out⟩
      · rw [hbus.out] at h3
        have B3 : Hid (Below w.heap.size w w3) := bthen B1.out b3
        have HA := Lib.hid (awake_any w3)
        have hq : 1 + W ≤ 1 + q := by omega
        have hq2 : decide (W ≤ q) = true := by simp; omega
        clear HB b3
        go_wp2_with fail
        refine HA.out.mono ?_
        rintro e w4 ⟨rfl, b4⟩
        have B4 : Hid (Below w.heap.size w w4) := bthen B3.out b4
        clear b4
        go_wp2_with fail
        go_ret
        exact ⟨rfl, B4.out⟩
end Go.Proofs.Ytedihfcbpgogoaa
