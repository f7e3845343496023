/- Plain law 2: decode is the inverse of encode. No condition, no program. -/
import Derived.Test.YtfglopkglnpokaaPA
namespace Go.Proofs.Ytfglopkglnpokaa
open Go.RowKit
abbrev P64 (ps : List Str) : Prop := ∀ p ∈ ps, p.length = 64
theorem flat_take {ps : List Str} (hl : P64 ps) (c : Nat) : (ps.take c).flatten = ps.flatten.take (c * 64) := by
  induction ps generalizing c with
  | nil => simp
  | cons p r ih =>
    cases c with
    | zero => simp
    | succ c =>
      have hp := hl p (by simp)
      rw [List.take_succ_cons, List.flatten_cons, List.flatten_cons, ih (fun q hq => hl q (List.mem_cons_of_mem _ hq)), List.take_append, hp, List.take_of_length_le (l := p) (by omega), show (c + 1) * 64 - 64 = c * 64 by omega]
theorem flat_drop {ps : List Str} (hl : P64 ps) (c : Nat) : (ps.drop c).flatten = ps.flatten.drop (c * 64) := by
  induction ps generalizing c with
  | nil => simp
  | cons p r ih =>
    cases c with
    | zero => simp
    | succ c =>
      have hp := hl p (by simp)
      rw [List.drop_succ_cons, List.flatten_cons, ih (fun q hq => hl q (List.mem_cons_of_mem _ hq)), List.drop_append, hp, show p.drop ((c + 1) * 64) = [] from List.drop_of_length_le (by omega), List.nil_append, show (c + 1) * 64 - 64 = c * 64 by omega]
theorem flat_inj {ps qs : List Str} (hl : P64 ps) (hq : P64 qs) (h : ps.flatten = qs.flatten) : ps = qs := by
  induction ps generalizing qs with
  | nil =>
    cases qs with
    | nil => rfl
    | cons q r =>
      have := congrArg List.length h
      rw [flat_len _ hq] at this
      simp at this
  | cons p r ih =>
    cases qs with
    | nil =>
      have := congrArg List.length h
      rw [flat_len _ hl] at this
      simp at this
    | cons q s =>
      rw [List.flatten_cons, List.flatten_cons] at h
      have hp := hl p (by simp)
      have hq' := hq q (by simp)
      have := List.append_inj h (by omega)
      rw [this.1, ih (fun x hx => hl x (List.mem_cons_of_mem _ hx)) (fun x hx => hq x (List.mem_cons_of_mem _ hx)) this.2]
theorem chunks_flat : ∀ (n : Nat) (d : Str), d.length = n * 64 → (chunks n d).flatten = d
  | 0, d, h => by
    have : d = [] := List.eq_nil_of_length_eq_zero (by omega)
    rw [this]; rfl
  | n + 1, d, h => by
    have h1 : chunks (n + 1) d = d.take 64 :: chunks n (d.drop 64) := by
      unfold chunks
      rw [List.range_succ_eq_map, List.map_cons, List.map_map]
      congr 1
      apply List.map_congr_left
      intro i _
      simp only [Function.comp, List.drop_drop]
      rw [show 64 + 64 * i = 64 * (i + 1) by omega]
    rw [h1, List.flatten_cons, chunks_flat n (d.drop 64) (by rw [List.length_drop]; omega), List.take_append_drop]
theorem chunks_64 (n : Nat) (d : Str) (h : d.length = n * 64) : P64 (chunks n d) := by
  intro p hp
  unfold chunks at hp
  obtain ⟨i, hi, rfl⟩ := List.mem_map.1 hp
  have := List.mem_range.1 hi
  rw [List.length_take, List.length_drop]
  omega
theorem pagesR_flat (d : Str) : (pagesR d).flatten = pad d := chunks_flat _ _ (pad_len d)
theorem pagesR_64 (d : Str) : P64 (pagesR d) := chunks_64 _ _ (pad_len d)
theorem pagesR_len (d : Str) : (pagesR d).length = pgs d.length := by simp [pagesR, chunks]
theorem pad_eq (d : Str) : pad d = d ++ List.replicate (pgs d.length * 64 - d.length) 255 := rfl
theorem byte_ok {k n v : Nat} (h : okLens k n v = true) : (UInt8.ofNat k).toNat = k ∧ (UInt8.ofNat n).toNat = n ∧ (UInt8.ofNat v).toNat = v := by
  have h1 := okLens_le h
  have h2 := okLens_k h
  exact ⟨u8_of (by omega), u8_of (by omega), u8_of (by omega)⟩
/-- Decoding on the bytes of the pages. -/
def decF (F : Str) : Option (Nat × Str × Str × Nat) :=
  if okLens (F.getD 0 0).toNat (F.getD 1 0).toNat (F.getD 2 0).toNat = false then none else
  if F.length < pgs (5 + (F.getD 1 0).toNat + (F.getD 2 0).toNat) * 64 then none else
  if F.take (5 + (F.getD 1 0).toNat + (F.getD 2 0).toNat) = recd (F.getD 0 0).toNat ((F.drop 5).take (F.getD 1 0).toNat) ((F.drop (5 + (F.getD 1 0).toNat)).take (F.getD 2 0).toNat) ∧
    zeros ((F.drop (5 + (F.getD 1 0).toNat + (F.getD 2 0).toNat)).take (pgs (5 + (F.getD 1 0).toNat + (F.getD 2 0).toNat) * 64 - (5 + (F.getD 1 0).toNat + (F.getD 2 0).toNat))) = 0
  then some ((F.getD 0 0).toNat, (F.drop 5).take (F.getD 1 0).toNat, (F.drop (5 + (F.getD 1 0).toNat)).take (F.getD 2 0).toNat, pgs (5 + (F.getD 1 0).toNat + (F.getD 2 0).toNat)) else none
theorem take_drop_in (l : Str) (a b c : Nat) (h : a + b ≤ c) : ((l.take c).drop a).take b = (l.drop a).take b := by
  rw [List.drop_take, List.take_take, Nat.min_eq_left (by omega)]
theorem dec_flat {ps : List Str} (hl : P64 ps) : dec ps = decF ps.flatten := by
  have hg : ∀ i, i < 64 → (ps.getD 0 []).getD i 0 = ps.flatten.getD i 0 := fun i hi => by
    cases ps with
    | nil => simp
    | cons p r =>
      have hp := hl p (by simp)
      rw [List.flatten_cons, List.getD_eq_getElem?_getD (l := p ++ r.flatten), List.getElem?_append_left (by omega)]
      simp
  unfold dec decF
  dsimp only
  rw [hg 0 (by omega), hg 1 (by omega), hg 2 (by omega)]
  generalize (ps.flatten.getD 0 0).toNat = k
  generalize (ps.flatten.getD 1 0).toNat = n
  generalize (ps.flatten.getD 2 0).toNat = v
  have hp : 5 + n + v ≤ pgs (5 + n + v) * 64 := pgs_le _
  have hlen := flat_len ps hl
  have e1 : (ps.length < pgs (5 + n + v)) = (ps.flatten.length < pgs (5 + n + v) * 64) := by
    rw [hlen]; apply propext; omega
  rw [flat_take hl, take_drop_in _ 5 n _ (by omega), take_drop_in _ (5 + n) v _ (by omega), List.take_take, Nat.min_eq_left hp, List.drop_take]
  simp only [e1]
theorem decF_some {F : Str} {k c : Nat} {n v : Str} (h : decF F = some (k, n, v, c)) :
    okLens k n.length v.length = true ∧ c = pgs (5 + n.length + v.length) ∧ F = pad (recd k n v) ++ F.drop (c * 64) ∧ c * 64 ≤ F.length := by
  unfold decF at h
  split at h
  · cases h
  · rename_i h1
    split at h
    · cases h
    · rename_i h2
      split at h
      · rename_i h3
        simp only [Option.some.injEq, Prod.mk.injEq] at h
        obtain ⟨e1, e2, e3, e4⟩ := h
        generalize (F.getD 1 0).toNat = nn at *
        generalize (F.getD 2 0).toNat = vv at *
        have hp : 5 + nn + vv ≤ pgs (5 + nn + vv) * 64 := pgs_le _
        have hn : n.length = nn := by rw [← e2, List.length_take, List.length_drop]; omega
        have hv : v.length = vv := by rw [← e3, List.length_take, List.length_drop]; omega
        rw [e1, e2, e3] at h3
        refine ⟨by rw [hn, hv, ← e1]; simpa using h1, by rw [hn, hv, e4], ?_, by omega⟩
        have hz := zeros_zero h3.2
        rw [List.length_take, List.length_drop, Nat.min_eq_left (by omega)] at hz
        rw [pad_eq, recd_len, hn, hv, ← h3.1, ← hz, ← e4]
        conv => lhs; rw [← List.take_append_drop (pgs (5 + nn + vv) * 64) F]
        congr 1
        conv => lhs; rw [show pgs (5 + nn + vv) * 64 = (5 + nn + vv) + (pgs (5 + nn + vv) * 64 - (5 + nn + vv)) by omega, List.take_add]
      · cases h
theorem decF_pad {k : Nat} {n v : Str} (h : okLens k n.length v.length = true) (R : Str) : decF (pad (recd k n v) ++ R) = some (k, n, v, pgs (5 + n.length + v.length)) := by
  have hb := byte_ok h
  have hp : 5 + n.length + v.length ≤ pgs (5 + n.length + v.length) * 64 := pgs_le _
  have hpad : pad (recd k n v) ++ R = recd k n v ++ (List.replicate (pgs (5 + n.length + v.length) * 64 - (5 + n.length + v.length)) 255 ++ R) := by rw [pad_eq, recd_len, List.append_assoc]
  have hlen := recd_len k n v
  rw [hpad]
  obtain ⟨r, hr⟩ : ∃ r, List.replicate (pgs (5 + n.length + v.length) * 64 - (5 + n.length + v.length)) 255 ++ R = r := ⟨_, rfl⟩
  have g0 : (recd k n v ++ r).getD 0 0 = UInt8.ofNat k := rfl
  have g1 : (recd k n v ++ r).getD 1 0 = UInt8.ofNat n.length := rfl
  have g2 : (recd k n v ++ r).getD 2 0 = UInt8.ofNat v.length := rfl
  have d5 : (recd k n v ++ r).drop 5 = n ++ v ++ r := recd_drop5 k n v r
  rw [hr]
  unfold decF
  rw [g0, g1, g2, hb.1, hb.2.1, hb.2.2, d5]
  have t1 : (n ++ v ++ r).take n.length = n := by rw [List.append_assoc, List.take_left']; rfl
  have t2 : ((recd k n v ++ r).drop (5 + n.length)).take v.length = v := by
    rw [← List.drop_drop, d5, List.append_assoc, List.drop_left' rfl, List.take_left' rfl]
  have t3 : (recd k n v ++ r).take (5 + n.length + v.length) = recd k n v := List.take_left' hlen
  have t4 : ((recd k n v ++ r).drop (5 + n.length + v.length)).take (pgs (5 + n.length + v.length) * 64 - (5 + n.length + v.length)) = List.replicate (pgs (5 + n.length + v.length) * 64 - (5 + n.length + v.length)) 255 := by
    rw [List.drop_left' hlen, ← hr, List.take_left' (by simp)]
  rw [t1, t2, t3, t4, zeros_ff, if_neg (by rw [h]; simp), if_neg (by rw [List.length_append, hlen, ← hr, List.length_append, List.length_replicate]; omega), if_pos ⟨rfl, rfl⟩]
end Go.Proofs.Ytfglopkglnpokaa
