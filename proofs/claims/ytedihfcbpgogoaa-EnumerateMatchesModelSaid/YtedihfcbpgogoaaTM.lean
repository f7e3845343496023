/- EnumerateMatchesModel answers true. No condition but that the arguments lie in memory. -/
import Derived.Test.YtedihfcbpgogoaaAG
namespace Go.Proofs.Ytedihfcbpgogoaa
open Go.RowKit
theorem TM.fld {w : World} {g len cap k j : Nat} {T : List Fn} {u : Value} {f : Fn} (h : TM w g len cap T) (hk : k < len) (hj : j < 11) (hu : (cF f)[j]? = some u) (hc : ∀ q u', q ≠ j → (cF f)[q]? = some u' → (cF (fAt T k))[q]? = some u') (hw : wfF f) (e1 : f.bv = (fAt T k).bv) (e2 : f.ba = (fAt T k).ba) :
    TM (w.setCell ⟨g, k * 11 + j, none⟩ u) g len cap (T.set k f) := by
  obtain ⟨_, _, _, _, _, hb, _⟩ := h.fn.at hk
  have hT := h.fn.len.1
  refine h.set hk hj hu hc hw ?_ (fun hne b o n c e => h.ap (fAt T k) ?_ (by rw [← e2]; exact hne) b o n c (by rw [← e1]; exact e))
  · obtain ⟨a, c, e, hs⟩ := hb
    exact ⟨a, c, by rw [e1, e2]; exact e, by rw [e2]; exact hs⟩
  · have : k < T.length := by omega
    rw [show fAt T k = T[k] by simp [fAt, this]]
    exact List.getElem_mem this
theorem near {f f' : Fn} {j : Nat} (h0 : j ≠ 0 → f.pa = f'.pa) (h1 : j ≠ 1 → f.sl = f'.sl) (h2 : j ≠ 2 → f.ve = f'.ve) (h3 : j ≠ 3 → f.de = f'.de) (h4 : j ≠ 4 → f.br = f'.br) (h5 : j ≠ 5 → f.pf = f'.pf) (h6 : j ≠ 6 → f.hp = f'.hp) (h7 : j ≠ 7 → f.sp = f'.sp) (h8 : j ≠ 8 → f.pn = f'.pn) (h9 : j ≠ 9 → f.vc = f'.vc) (h10 : j ≠ 10 → f.bv = f'.bv) :
    ∀ q u', q ≠ j → (cF f)[q]? = some u' → (cF f')[q]? = some u' := by
  intro q u' hq hu
  have hq11 : q < 11 := by have := (List.getElem?_eq_some_iff.1 hu).1; rw [cF_len] at this; exact this
  rcases (by omega : q = 0 ∨ q = 1 ∨ q = 2 ∨ q = 3 ∨ q = 4 ∨ q = 5 ∨ q = 6 ∨ q = 7 ∨ q = 8 ∨ q = 9 ∨ q = 10) with rfl | rfl | rfl | rfl | rfl | rfl | rfl | rfl | rfl | rfl | rfl
  · have e := h0 (Ne.symm hq); simp only [cF] at hu ⊢; rw [← e]; exact hu
  · have e := h1 (Ne.symm hq); simp only [cF] at hu ⊢; rw [← e]; exact hu
  · have e := h2 (Ne.symm hq); simp only [cF] at hu ⊢; rw [← e]; exact hu
  · have e := h3 (Ne.symm hq); simp only [cF] at hu ⊢; rw [← e]; exact hu
  · have e := h4 (Ne.symm hq); simp only [cF] at hu ⊢; rw [← e]; exact hu
  · have e := h5 (Ne.symm hq); simp only [cF] at hu ⊢; rw [← e]; exact hu
  · have e := h6 (Ne.symm hq); simp only [cF] at hu ⊢; rw [← e]; exact hu
  · have e := h7 (Ne.symm hq); simp only [cF] at hu ⊢; rw [← e]; exact hu
  · have e := h8 (Ne.symm hq); simp only [cF] at hu ⊢; rw [← e]; exact hu
  · have e := h9 (Ne.symm hq); simp only [cF] at hu ⊢; rw [← e]; exact hu
  · have e := h10 (Ne.symm hq); simp only [cF] at hu ⊢; rw [← e]; exact hu
theorem FnS.take {w : World} {a : Option Addr} {len cap k : Nat} {T : List Fn} (h : FnS w a len cap T) (hk : k ≤ len) : FnS w a k cap (T.take k) := by
  obtain ⟨⟨h1, h2, h3, h4, h5⟩, h6⟩ := h
  refine ⟨⟨by rw [List.length_take]; omega, by omega, h3, fun c hc => h4 c (List.mem_of_mem_take hc), fun hne => ?_⟩, fun f hf => h6 f (List.mem_of_mem_take hf)⟩
  obtain ⟨b, o, e, hl, hr⟩ := h5 (by intro e; rw [e] at hne; simp at hne)
  refine ⟨b, o, e, hl, fun i c hc => hr i c ?_⟩
  rw [List.getElem?_take] at hc
  split at hc
  · exact hc
  · cases hc
/-- All fields, one by one. -/
theorem TM.whole {w : World} {g len cap k : Nat} {T : List Fn} {f : Fn} {a : Option Addr} {n c : Nat} (h : TM w g len cap T) (hk : k < len) (hw : wfF f) (e : f.bv = .slice a n c) (hn : f.ba.length = n) (hs : BarS w a n c f.ba) (ha : f.ba ≠ [] → ∀ b o, a = some ⟨b, o, none⟩ → b ≠ g) :
    TM (((((((((((w.setCell ⟨g, k * 11, none⟩ (.int .i64 f.pa)).setCell ⟨g, k * 11 + 1, none⟩ (.int .i64 f.sl)).setCell ⟨g, k * 11 + 2, none⟩ (.int .i64 f.ve)).setCell ⟨g, k * 11 + 3, none⟩ (.int .i64 f.de)).setCell ⟨g, k * 11 + 4, none⟩ (.bool f.br)).setCell ⟨g, k * 11 + 5, none⟩ (.bool f.pf)).setCell ⟨g, k * 11 + 6, none⟩ (.bool f.hp)).setCell ⟨g, k * 11 + 7, none⟩ (.int .i64 f.sp)).setCell ⟨g, k * 11 + 8, none⟩ (.int .i64 f.pn)).setCell ⟨g, k * 11 + 9, none⟩ (.int .i64 f.vc)).setCell ⟨g, k * 11 + 10, none⟩ (.slice a n c)) g len cap (T.set k f) := by
  obtain ⟨_, _, _, _, wk, _, _⟩ := h.fn.at hk
  obtain ⟨w0, w1, w2, w3, w7, w8, w9⟩ := wk
  obtain ⟨v0, v1, v2, v3, v7, v8, v9⟩ := hw
  have hkT : k < T.length := by have := h.fn.len.1; omega
  generalize hF : fAt T k = F at *
  obtain ⟨F0, hF0⟩ : ∃ F0 : Fn, F0 = { F with pa := f.pa } := ⟨_, rfl⟩
  have t0 := h.fld (j := 0) (f := F0) hk (by omega) (by rw [hF0]; rfl) (by rw [hF, hF0]; exact near (fun h => absurd rfl h) (fun _ => rfl) (fun _ => rfl) (fun _ => rfl) (fun _ => rfl) (fun _ => rfl) (fun _ => rfl) (fun _ => rfl) (fun _ => rfl) (fun _ => rfl) (fun _ => rfl)) (by rw [hF0]; exact ⟨v0, w1, w2, w3, w7, w8, w9⟩) (by rw [hF, hF0]) (by rw [hF, hF0])
  obtain ⟨F1, hF1⟩ : ∃ F1 : Fn, F1 = { F0 with sl := f.sl } := ⟨_, rfl⟩
  have t1 := t0.fld (j := 1) (f := F1) hk (by omega) (by rw [hF1]; rfl) (by rw [fAt_set _ hkT, hF1]; exact near (fun _ => rfl) (fun h => absurd rfl h) (fun _ => rfl) (fun _ => rfl) (fun _ => rfl) (fun _ => rfl) (fun _ => rfl) (fun _ => rfl) (fun _ => rfl) (fun _ => rfl) (fun _ => rfl)) (by rw [hF1, hF0]; exact ⟨v0, v1, w2, w3, w7, w8, w9⟩) (by rw [fAt_set _ hkT, hF1]) (by rw [fAt_set _ hkT, hF1])
  rw [List.set_set] at t1
  obtain ⟨F2, hF2⟩ : ∃ F2 : Fn, F2 = { F1 with ve := f.ve } := ⟨_, rfl⟩
  have t2 := t1.fld (j := 2) (f := F2) hk (by omega) (by rw [hF2]; rfl) (by rw [fAt_set _ hkT, hF2]; exact near (fun _ => rfl) (fun _ => rfl) (fun h => absurd rfl h) (fun _ => rfl) (fun _ => rfl) (fun _ => rfl) (fun _ => rfl) (fun _ => rfl) (fun _ => rfl) (fun _ => rfl) (fun _ => rfl)) (by rw [hF2, hF1, hF0]; exact ⟨v0, v1, v2, w3, w7, w8, w9⟩) (by rw [fAt_set _ hkT, hF2]) (by rw [fAt_set _ hkT, hF2])
  rw [List.set_set] at t2
  obtain ⟨F3, hF3⟩ : ∃ F3 : Fn, F3 = { F2 with de := f.de } := ⟨_, rfl⟩
  have t3 := t2.fld (j := 3) (f := F3) hk (by omega) (by rw [hF3]; rfl) (by rw [fAt_set _ hkT, hF3]; exact near (fun _ => rfl) (fun _ => rfl) (fun _ => rfl) (fun h => absurd rfl h) (fun _ => rfl) (fun _ => rfl) (fun _ => rfl) (fun _ => rfl) (fun _ => rfl) (fun _ => rfl) (fun _ => rfl)) (by rw [hF3, hF2, hF1, hF0]; exact ⟨v0, v1, v2, v3, w7, w8, w9⟩) (by rw [fAt_set _ hkT, hF3]) (by rw [fAt_set _ hkT, hF3])
  rw [List.set_set] at t3
  obtain ⟨F4, hF4⟩ : ∃ F4 : Fn, F4 = { F3 with br := f.br } := ⟨_, rfl⟩
  have t4 := t3.fld (j := 4) (f := F4) hk (by omega) (by rw [hF4]; rfl) (by rw [fAt_set _ hkT, hF4]; exact near (fun _ => rfl) (fun _ => rfl) (fun _ => rfl) (fun _ => rfl) (fun h => absurd rfl h) (fun _ => rfl) (fun _ => rfl) (fun _ => rfl) (fun _ => rfl) (fun _ => rfl) (fun _ => rfl)) (by rw [hF4, hF3, hF2, hF1, hF0]; exact ⟨v0, v1, v2, v3, w7, w8, w9⟩) (by rw [fAt_set _ hkT, hF4]) (by rw [fAt_set _ hkT, hF4])
  rw [List.set_set] at t4
  obtain ⟨F5, hF5⟩ : ∃ F5 : Fn, F5 = { F4 with pf := f.pf } := ⟨_, rfl⟩
  have t5 := t4.fld (j := 5) (f := F5) hk (by omega) (by rw [hF5]; rfl) (by rw [fAt_set _ hkT, hF5]; exact near (fun _ => rfl) (fun _ => rfl) (fun _ => rfl) (fun _ => rfl) (fun _ => rfl) (fun h => absurd rfl h) (fun _ => rfl) (fun _ => rfl) (fun _ => rfl) (fun _ => rfl) (fun _ => rfl)) (by rw [hF5, hF4, hF3, hF2, hF1, hF0]; exact ⟨v0, v1, v2, v3, w7, w8, w9⟩) (by rw [fAt_set _ hkT, hF5]) (by rw [fAt_set _ hkT, hF5])
  rw [List.set_set] at t5
  obtain ⟨F6, hF6⟩ : ∃ F6 : Fn, F6 = { F5 with hp := f.hp } := ⟨_, rfl⟩
  have t6 := t5.fld (j := 6) (f := F6) hk (by omega) (by rw [hF6]; rfl) (by rw [fAt_set _ hkT, hF6]; exact near (fun _ => rfl) (fun _ => rfl) (fun _ => rfl) (fun _ => rfl) (fun _ => rfl) (fun _ => rfl) (fun h => absurd rfl h) (fun _ => rfl) (fun _ => rfl) (fun _ => rfl) (fun _ => rfl)) (by rw [hF6, hF5, hF4, hF3, hF2, hF1, hF0]; exact ⟨v0, v1, v2, v3, w7, w8, w9⟩) (by rw [fAt_set _ hkT, hF6]) (by rw [fAt_set _ hkT, hF6])
  rw [List.set_set] at t6
  obtain ⟨F7, hF7⟩ : ∃ F7 : Fn, F7 = { F6 with sp := f.sp } := ⟨_, rfl⟩
  have t7 := t6.fld (j := 7) (f := F7) hk (by omega) (by rw [hF7]; rfl) (by rw [fAt_set _ hkT, hF7]; exact near (fun _ => rfl) (fun _ => rfl) (fun _ => rfl) (fun _ => rfl) (fun _ => rfl) (fun _ => rfl) (fun _ => rfl) (fun h => absurd rfl h) (fun _ => rfl) (fun _ => rfl) (fun _ => rfl)) (by rw [hF7, hF6, hF5, hF4, hF3, hF2, hF1, hF0]; exact ⟨v0, v1, v2, v3, v7, w8, w9⟩) (by rw [fAt_set _ hkT, hF7]) (by rw [fAt_set _ hkT, hF7])
  rw [List.set_set] at t7
  obtain ⟨F8, hF8⟩ : ∃ F8 : Fn, F8 = { F7 with pn := f.pn } := ⟨_, rfl⟩
  have t8 := t7.fld (j := 8) (f := F8) hk (by omega) (by rw [hF8]; rfl) (by rw [fAt_set _ hkT, hF8]; exact near (fun _ => rfl) (fun _ => rfl) (fun _ => rfl) (fun _ => rfl) (fun _ => rfl) (fun _ => rfl) (fun _ => rfl) (fun _ => rfl) (fun h => absurd rfl h) (fun _ => rfl) (fun _ => rfl)) (by rw [hF8, hF7, hF6, hF5, hF4, hF3, hF2, hF1, hF0]; exact ⟨v0, v1, v2, v3, v7, v8, w9⟩) (by rw [fAt_set _ hkT, hF8]) (by rw [fAt_set _ hkT, hF8])
  rw [List.set_set] at t8
  obtain ⟨F9, hF9⟩ : ∃ F9 : Fn, F9 = { F8 with vc := f.vc } := ⟨_, rfl⟩
  have t9 := t8.fld (j := 9) (f := F9) hk (by omega) (by rw [hF9]; rfl) (by rw [fAt_set _ hkT, hF9]; exact near (fun _ => rfl) (fun _ => rfl) (fun _ => rfl) (fun _ => rfl) (fun _ => rfl) (fun _ => rfl) (fun _ => rfl) (fun _ => rfl) (fun _ => rfl) (fun h => absurd rfl h) (fun _ => rfl)) (by rw [hF9, hF8, hF7, hF6, hF5, hF4, hF3, hF2, hF1, hF0]; exact ⟨v0, v1, v2, v3, v7, v8, v9⟩) (by rw [fAt_set _ hkT, hF9]) (by rw [fAt_set _ hkT, hF9])
  rw [List.set_set] at t9
  have t10 := t9.set (j := 10) (f := f) (u := .slice a n c) hk (by omega) (by rw [← e]; rfl) (by rw [fAt_set _ hkT]; exact near (fun _ => by rw [hF9, hF8, hF7, hF6, hF5, hF4, hF3, hF2, hF1, hF0]) (fun _ => by rw [hF9, hF8, hF7, hF6, hF5, hF4, hF3, hF2, hF1, hF0]) (fun _ => by rw [hF9, hF8, hF7, hF6, hF5, hF4, hF3, hF2, hF1, hF0]) (fun _ => by rw [hF9, hF8, hF7, hF6, hF5, hF4, hF3, hF2, hF1, hF0]) (fun _ => by rw [hF9, hF8, hF7, hF6, hF5, hF4, hF3, hF2, hF1, hF0]) (fun _ => by rw [hF9, hF8, hF7, hF6, hF5, hF4, hF3, hF2, hF1, hF0]) (fun _ => by rw [hF9, hF8, hF7, hF6, hF5, hF4, hF3, hF2, hF1, hF0]) (fun _ => by rw [hF9, hF8, hF7, hF6, hF5, hF4, hF3, hF2, hF1, hF0]) (fun _ => by rw [hF9, hF8, hF7, hF6, hF5, hF4, hF3, hF2, hF1, hF0]) (fun _ => by rw [hF9, hF8, hF7, hF6, hF5, hF4, hF3, hF2, hF1, hF0]) (fun h => absurd rfl h)) ⟨v0, v1, v2, v3, v7, v8, v9⟩ ?_ ?_
  · rw [List.set_set] at t10
    exact t10
  · refine ⟨a, c, by rw [e, hn], ?_⟩
    rw [hn]
    by_cases hb0 : f.ba = []
    · rw [hb0] at hs ⊢
      exact ⟨hs.1, hs.2.1, hs.2.2.1, hs.2.2.2.1, fun h => absurd rfl h⟩
    exact hs.ch (C := fun k => k = g) (((((((((((Ch.refl (fun k => k = g) w).setCell (p := ⟨g, k * 11, none⟩) (fun _ => rfl) _).setCell (p := ⟨g, k * 11 + 1, none⟩) (fun _ => rfl) _).setCell (p := ⟨g, k * 11 + 2, none⟩) (fun _ => rfl) _).setCell (p := ⟨g, k * 11 + 3, none⟩) (fun _ => rfl) _).setCell (p := ⟨g, k * 11 + 4, none⟩) (fun _ => rfl) _).setCell (p := ⟨g, k * 11 + 5, none⟩) (fun _ => rfl) _).setCell (p := ⟨g, k * 11 + 6, none⟩) (fun _ => rfl) _).setCell (p := ⟨g, k * 11 + 7, none⟩) (fun _ => rfl) _).setCell (p := ⟨g, k * 11 + 8, none⟩) (fun _ => rfl) _).setCell (p := ⟨g, k * 11 + 9, none⟩) (fun _ => rfl) _) (ha hb0)
  · intro hne b o n' c' e'
    rw [e] at e'
    injection e' with e' _ _
    exact ha hne b o e'
end Go.Proofs.Ytedihfcbpgogoaa
