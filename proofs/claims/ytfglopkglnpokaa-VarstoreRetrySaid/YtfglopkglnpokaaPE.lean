/- Plain law 5: the state of a store, and that opening the flash finds it. No condition, no program. -/
import Derived.Test.YtfglopkglnpokaaPD
namespace Go.Proofs.Ytfglopkglnpokaa
open Go.RowKit
set_option maxHeartbeats 1000000 in
theorem numB_be8 (n : Nat) (h : n < 18446744073709551616) : numB (be8 n) = n := by
  have e : be8 n = [UInt8.ofNat (n / 2 ^ 56 % 256), UInt8.ofNat (n / 2 ^ 48 % 256), UInt8.ofNat (n / 2 ^ 40 % 256), UInt8.ofNat (n / 2 ^ 32 % 256), UInt8.ofNat (n / 2 ^ 24 % 256), UInt8.ofNat (n / 2 ^ 16 % 256), UInt8.ofNat (n / 2 ^ 8 % 256), UInt8.ofNat (n / 2 ^ 0 % 256)] := rfl
  rw [e]
  unfold numB
  simp only [List.foldl_cons, List.foldl_nil]
  rw [u8_of (by omega), u8_of (by omega), u8_of (by omega), u8_of (by omega), u8_of (by omega), u8_of (by omega), u8_of (by omega), u8_of (by omega)]
  omega
theorem be8_len (n : Nat) : (be8 n).length = 8 := by simp [be8]
theorem hdr_ok (n : Nat) : okLens 3 ([] : Str).length (be8 n).length = true := by rw [be8_len]; rfl
theorem hdr_len (n : Nat) : (hdr n).length = 13 := by unfold hdr; rw [recd_len, be8_len]; rfl
theorem hdr_pages (n : Nat) : pagesR (hdr n) = [pad (hdr n)] := by
  have h1 := pagesR_len (hdr n)
  rw [hdr_len] at h1
  have h2 := pagesR_flat (hdr n)
  match hc : pagesR (hdr n), h1 with
  | [p], _ =>
    rw [hc] at h2
    simp at h2
    rw [h2]
theorem hdr_pad_len (n : Nat) : (pad (hdr n)).length = 64 := by rw [pad_len, hdr_len]; rfl
theorem hdr_inj {a b : Nat} (ha : a < 18446744073709551616) (hb : b < 18446744073709551616) (h : pad (hdr a) = pad (hdr b)) : a = b := by
  have h1 : decF (pad (hdr a) ++ []) = decF (pad (hdr b) ++ []) := by rw [h]
  unfold hdr at h1
  rw [decF_pad (hdr_ok a), decF_pad (hdr_ok b)] at h1
  simp only [Option.some.injEq, Prod.mk.injEq] at h1
  have := congrArg numB h1.2.2.1
  rwa [numB_be8 a ha, numB_be8 b hb] at this
theorem hdr_blank (a : Nat) : pad (hdr a) ≠ blank := fun h => by
  have h1 : (pad (hdr a)).getD 0 0 = 3 := rfl
  rw [h] at h1
  exact absurd h1 (by decide)
theorem blank_sup (a : Nat) : Sup blank (pad (hdr a)) := by
  have := Sup.blank (pad (hdr a))
  rw [hdr_pad_len] at this
  exact this
theorem pgsF_take1 {fl : FL} {b : Nat} (hP : 1 ≤ fl.P) : (pgsF fl b).take 1 = [fl.pg b 0] := by
  unfold pgsF
  rw [← List.map_take, List.take_range, Nat.min_eq_left hP]
  rfl
theorem hdrG_of {fl : FL} {b g : Nat} (hP : 1 ≤ fl.P) (h64 : P64 (pgsF fl b)) (hg : g < 18446744073709551616) (h : fl.pg b 0 = pad (hdr g)) : hdrG (pgsF fl b) = some g := by
  have h1 : dec (pgsF fl b) = some (3, [], be8 g, pgs (5 + ([] : Str).length + (be8 g).length)) := dec_of h64 (hdr_ok g) (by
    rw [be8_len]
    show (pgsF fl b).take 1 = pagesR (hdr g)
    rw [pgsF_take1 hP, h, hdr_pages])
  rw [hdrG_3 h1, numB_be8 g hg]
theorem hdrG_sup {fl : FL} {b g g1 : Nat} (hP : 1 ≤ fl.P) (h64 : P64 (pgsF fl b)) (h1 : g1 < 18446744073709551616) (hs : Sup (fl.pg b 0) (pad (hdr g1))) (h : hdrG (pgsF fl b) = some g) : fl.pg b 0 = pad (hdr g1) ∧ g = g1 := by
  rcases hd : dec (pgsF fl b) with _ | ⟨k, n, v, c⟩
  · rw [hdrG_no hd] at h; cases h
  · by_cases hk : k = 3
    · subst hk
      obtain ⟨hok, hc, _, _, _⟩ := dec_take h64 hd
      have hnv : n.length = 0 ∧ v.length = 8 := by
        unfold okLens at hok
        simp at hok
        exact ⟨by rw [hok.1]; rfl, hok.2⟩
      have hc1 : c = 1 := by rw [hc, hnv.1, hnv.2]; rfl
      subst hc1
      have h2 : dec [fl.pg b 0] = some (3, n, v, 1) := dec_local h64 (by rw [← pgsF_take1 hP]; exact h64.take 1) hd (by rw [pgsF_take1 hP]; rfl)
      have h3 := dec_sup (m := 0) (by rw [← pgsF_take1 hP]; exact h64.take 1) h2 (hdr_ok g1) (by simp; exact hs)
      have h4 : fl.pg b 0 = pad (hdr g1) := by simp at h3; exact h3
      refine ⟨h4, ?_⟩
      rw [hdrG_of hP h64 h1 h4] at h
      injection h with h
      exact h.symm
    · rw [hdrG_k hd hk] at h; cases h
/-- The store's state is what its flash holds. -/
structure Inv (fl : FL) (st : ST) : Prop where
  B2 : 2 ≤ fl.B
  P2 : 2 ≤ fl.P
  l64 : ∀ b q, b < fl.B → q < fl.P → (fl.pg b q).length = 64
  off : fl.off = false
  blk : st.blk < fl.B
  g64 : st.gen < 18446744073709551616
  hd : fl.pg st.blk 0 = pad (hdr st.gen)
  run : Run (pgsF fl st.blk) [] 1 st.V st.nxt
  nx : st.nxt ≤ fl.P
  stp : st.clo = false → ∀ q, st.nxt ≤ q → q < fl.P → fl.pg st.blk q = blank
  cls : st.clo = true → st.nxt < fl.P ∧ zeros (fl.pg st.blk st.nxt) ≠ 0 ∧ dec ((pgsF fl st.blk).drop st.nxt) = none
  cap : 1 + sumP (recs st.V) ≤ st.nxt
  oth : ∀ b, b < fl.B → b ≠ st.blk → ∃ g1, g1 < 18446744073709551616 ∧ Sup (fl.pg b 0) (pad (hdr g1)) ∧ (fl.pg b 0 = pad (hdr g1) → g1 < st.gen)
  srt : Srt st.V
  ok : ∀ p ∈ st.V, okLens 1 p.1.length p.2.length = true
  er : ∀ b, b < fl.B → fl.er b ≤ fl.E
section
variable {fl g : FL} {st : ST}
theorem Inv.p64 (h : Inv fl st) {b : Nat} (hb : b < fl.B) : P64 (pgsF fl b) := pgsF_64 fun q hq => h.l64 b q hb hq
theorem Inv.h0 (h : Inv fl st) : hdrG (pgsF fl st.blk) = some st.gen := hdrG_of (by have := h.P2; omega) (h.p64 h.blk) h.g64 h.hd
theorem Inv.h1 (h : Inv fl st) {b g : Nat} (hb : b < fl.B) (hne : b ≠ st.blk) (hg : hdrG (pgsF fl b) = some g) : g < st.gen := by
  obtain ⟨g1, k1, k2, k3⟩ := h.oth b hb hne
  obtain ⟨e1, e2⟩ := hdrG_sup (by have := h.P2; omega) (h.p64 hb) k1 k2 hg
  rw [e2]
  exact k3 e1
theorem Inv.opnK (h : Inv fl st) : ∀ k, k ≤ fl.B → (st.blk < k → opnK fl k = some (st.blk, st.gen)) ∧ (k ≤ st.blk → ∀ b g, opnK fl k = some (b, g) → g < st.gen)
  | 0, _ => ⟨fun k => by omega, fun _ b g k => by cases k⟩
  | k + 1, hk => by
    have ih := Inv.opnK h k (by omega)
    have e : Go.Proofs.Ytfglopkglnpokaa.opnK fl (k + 1) = pickG (Go.Proofs.Ytfglopkglnpokaa.opnK fl k) k (hdrG (pgsF fl k)) := rfl
    rw [e]
    rcases Nat.lt_trichotomy st.blk k with h1 | h1 | h1
    · refine ⟨fun _ => ?_, fun k => by omega⟩
      rw [ih.1 h1]
      rcases hg : hdrG (pgsF fl k) with _ | g
      · rfl
      · have := h.h1 (by omega) (by omega) hg
        show (if st.gen < g then _ else _) = _
        rw [if_neg (by omega)]
    · refine ⟨fun _ => ?_, fun k => by omega⟩
      rw [← h1, h.h0]
      rcases ho : Go.Proofs.Ytfglopkglnpokaa.opnK fl st.blk with _ | ⟨b, g⟩
      · rfl
      · have := ih.2 (by omega) b g (by rw [← h1]; exact ho)
        show (if g < st.gen then _ else _) = _
        rw [if_pos this]
    · refine ⟨fun k => by omega, fun _ b g hbg => ?_⟩
      rcases hg : hdrG (pgsF fl k) with _ | g'
      · rw [hg] at hbg
        exact ih.2 (by omega) b g hbg
      · rw [hg] at hbg
        have hl := h.h1 (by omega) (by omega) hg
        rcases ho : Go.Proofs.Ytfglopkglnpokaa.opnK fl k with _ | ⟨b0, g0⟩
        · rw [ho] at hbg
          simp [pickG] at hbg
          omega
        · rw [ho] at hbg
          have := ih.2 (by omega) b0 g0 ho
          unfold pickG at hbg
          simp only at hbg
          split at hbg
          · injection hbg with hbg; injection hbg with e1 e2; omega
          · injection hbg with hbg; injection hbg with e1 e2; omega
theorem Inv.rpl (h : Inv fl st) : rpl fl.P (pgsF fl st.blk) [] 1 = (st.V, st.nxt, st.clo) := by
  have hl := h.p64 h.blk
  rw [h.run.rpl hl (by rw [pgsF_len]; omega)]
  have hget : st.nxt < fl.P → (pgsF fl st.blk).getD st.nxt [] = fl.pg st.blk st.nxt := fun hn => pgsF_get fl st.blk st.nxt hn
  have hP := h.P2
  cases hc : st.clo
  · apply rpl_stop
    rintro ⟨k1, k2⟩
    rw [pgsF_len] at k1
    rw [hget k1, h.stp hc st.nxt (Nat.le_refl _) k1] at k2
    exact k2 (zeros_ff 64)
  · obtain ⟨k1, k2, k3⟩ := h.cls hc
    rw [show fl.P = (fl.P - 1) + 1 by omega]
    exact rpl_none ⟨by rw [pgsF_len]; exact k1, by rw [hget k1]; exact k2⟩ k3
/-- Opening the flash finds the state. -/
theorem Inv.opens (h : Inv fl st) : opnF fl = (0, some st) := by
  have hB := h.B2
  have hP := h.P2
  unfold opnF
  rw [if_neg (by simp; omega), if_neg (by simp [h.off]), (h.opnK fl.B (Nat.le_refl _)).1 h.blk]
  simp only [h.rpl]
/-- What lies elsewhere has changed. -/
theorem Inv.keep (h : Inv fl st) (hS : Same fl g) (ho : g.off = false) (hp : ∀ q, q < fl.P → g.pg st.blk q = fl.pg st.blk q) (hl : ∀ b q, b < fl.B → q < fl.P → b ≠ st.blk → (g.pg b q).length = 64)
    (hoth : ∀ b, b < fl.B → b ≠ st.blk → ∃ g1, g1 < 18446744073709551616 ∧ Sup (g.pg b 0) (pad (hdr g1)) ∧ (g.pg b 0 = pad (hdr g1) → g1 < st.gen)) (her : ∀ b, b < fl.B → g.er b ≤ fl.E) : Inv g st := by
  have hB := h.B2
  have hP := h.P2
  have e : pgsF g st.blk = pgsF fl st.blk := pgsF_ext hS.2.1 hp
  obtain ⟨s1, s2, s3, s4⟩ := hS
  refine ⟨by omega, by omega, fun b q hb hq => ?_, ho, by rw [s1]; exact h.blk, h.g64, by rw [hp 0 (by omega)]; exact h.hd, by rw [e]; exact h.run, by rw [s2]; exact h.nx, fun hc q h1 h2 => ?_, fun hc => ?_, h.cap, fun b hb hne => hoth b (by omega) hne, h.srt, h.ok, fun b hb => by rw [s3]; exact her b (by omega)⟩
  · by_cases eb : b = st.blk
    · subst eb; rw [hp q (by omega)]; exact h.l64 _ q h.blk (by omega)
    · exact hl b q (by omega) (by omega) eb
  · rw [hp q (by omega)]; exact h.stp hc q h1 (by omega)
  · obtain ⟨k1, k2, k3⟩ := h.cls hc
    rw [s2, hp st.nxt k1, e]
    exact ⟨k1, k2, k3⟩
end
end Go.Proofs.Ytfglopkglnpokaa
