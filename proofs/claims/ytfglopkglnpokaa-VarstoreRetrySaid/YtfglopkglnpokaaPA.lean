/- Plain law 1: bytes that keep the bits of others; a record stands alone among them. No condition, no program. -/
import Derived.Test.YtfglopkglnpokaaOP
namespace Go.Proofs.Ytfglopkglnpokaa
open Go.RowKit
def zl : Nat → Nat → Nat
  | 0, _ => 0
  | k + 1, x => (if x % 2 = 1 then 0 else 1) + zl k (x / 2)
theorem zl_sup : ∀ (k x y : Nat), x ||| y = x → zl k x ≤ zl k y ∧ (x < 2 ^ k → zl k x = zl k y → x = y)
  | 0, x, y, h => ⟨Nat.le_refl _, fun hx _ => by
    have : x = 0 := by simpa using hx
    subst this
    have := Nat.right_le_or (n := 0) (m := y)
    rw [h] at this
    omega⟩
  | k + 1, x, y, h => by
    have h2 : x / 2 ||| y / 2 = x / 2 := by rw [← Nat.or_div_two, h]
    have h1 : y % 2 = 1 → x % 2 = 1 := fun hy => by
      have := (Nat.or_mod_two_eq_one (a := x) (b := y)).2 (.inr hy)
      rwa [h] at this
    have ih := zl_sup k (x / 2) (y / 2) h2
    refine ⟨?_, fun hx he => ?_⟩
    · unfold zl
      by_cases hy : y % 2 = 1
      · rw [if_pos hy, if_pos (h1 hy)]; omega
      · rw [if_neg hy]; split <;> omega
    · unfold zl at he
      have hb : x / 2 < 2 ^ k := by rw [Nat.pow_succ] at hx; omega
      have h3 := ih.1
      by_cases hy : y % 2 = 1
      · rw [if_pos hy, if_pos (h1 hy)] at he
        have := ih.2 hb (by omega)
        have := h1 hy
        omega
      · rw [if_neg hy] at he
        by_cases hx1 : x % 2 = 1
        · rw [if_pos hx1] at he; omega
        · rw [if_neg hx1] at he
          have := ih.2 hb (by omega)
          omega
theorem zbit_zl8 : ∀ x : Fin 256, 8 - Lib.onesCount x.val = zl 8 x.val := by decide +kernel
theorem zbit_zl (b : UInt8) : zbit b = zl 8 b.toNat := zbit_zl8 ⟨b.toNat, b.toNat_lt⟩
/-- Each bit of b is a bit of a. -/
def supB (a b : UInt8) : Prop := a.toNat ||| b.toNat = a.toNat
theorem supB.le {a b : UInt8} (h : supB a b) : b.toNat ≤ a.toNat := by
  have := Nat.right_le_or (n := a.toNat) (m := b.toNat)
  unfold supB at h
  omega
theorem supB.refl (a : UInt8) : supB a a := Nat.or_self _
theorem supB.trans {a b c : UInt8} (h : supB a b) (k : supB b c) : supB a c := by
  unfold supB at *
  rw [← h, Nat.or_assoc, k]
theorem supB.zb {a b : UInt8} (h : supB a b) : zbit a ≤ zbit b ∧ (zbit a = zbit b → a = b) := by
  have := zl_sup 8 a.toNat b.toNat h
  rw [zbit_zl, zbit_zl]
  exact ⟨this.1, fun e => UInt8.toNat_inj.1 (this.2 a.toNat_lt e)⟩
theorem supB.or (a b : UInt8) : supB (a ||| b) a := by
  unfold supB
  rw [UInt8.toNat_or, Nat.or_assoc, Nat.or_comm b.toNat, ← Nat.or_assoc, Nat.or_self]
theorem supB_255 (b : UInt8) : supB 255 b := by
  unfold supB
  have h := b.toNat_lt
  have h1 := Nat.or_lt_two_pow (x := 255) (y := b.toNat) (n := 8) (by omega) (by omega)
  have h2 := Nat.left_le_or (n := 255) (m := b.toNat)
  show 255 ||| b.toNat = 255
  omega
theorem supB_torn (d m : UInt8) : supB (255 &&& ~~~((255 &&& ~~~d) &&& m)) d := by
  have : (255 &&& ~~~((255 &&& ~~~d) &&& m)) ||| d = 255 &&& ~~~((255 &&& ~~~d) &&& m) := by
    apply UInt8.eq_of_toBitVec_eq
    ext i hi
    have h255 : (255#8)[i] = true := by
      rw [show (255#8) = BitVec.allOnes 8 from rfl]
      exact BitVec.getElem_allOnes i hi
    cases hd : d.toBitVec[i] <;> cases hm : m.toBitVec[i] <;> simp [h255, hd, hm]
  unfold supB
  rw [← UInt8.toNat_or, this]
/-- The same length, and byte by byte each bit of the second is a bit of the first. -/
inductive Sup : Str → Str → Prop
  | nil : Sup [] []
  | cons {a b : UInt8} {l m : Str} : supB a b → Sup l m → Sup (a :: l) (b :: m)
theorem Sup.len {a b : Str} (h : Sup a b) : a.length = b.length := by induction h with
  | nil => rfl
  | cons _ _ ih => simp [ih]
theorem Sup.refl : ∀ l : Str, Sup l l
  | [] => .nil
  | a :: l => .cons (supB.refl a) (Sup.refl l)
theorem Sup.trans {a b c : Str} (h : Sup a b) (k : Sup b c) : Sup a c := by
  induction h generalizing c with
  | nil => exact k
  | cons h1 _ ih =>
    cases k with
    | cons k1 k2 => exact .cons (h1.trans k1) (ih k2)
theorem Sup.zeros {a b : Str} (h : Sup a b) : zeros a ≤ zeros b ∧ (zeros a = zeros b → a = b) := by
  induction h with
  | nil => exact ⟨Nat.le_refl _, fun _ => rfl⟩
  | cons h1 _ ih =>
    rename_i a b l m _
    have hb := h1.zb
    have e1 : Go.Proofs.Ytfglopkglnpokaa.zeros (a :: l) = zbit a + Go.Proofs.Ytfglopkglnpokaa.zeros l := by simp [Go.Proofs.Ytfglopkglnpokaa.zeros]
    have e2 : Go.Proofs.Ytfglopkglnpokaa.zeros (b :: m) = zbit b + Go.Proofs.Ytfglopkglnpokaa.zeros m := by simp [Go.Proofs.Ytfglopkglnpokaa.zeros]
    rw [e1, e2]
    refine ⟨by omega, fun e => ?_⟩
    rw [hb.2 (by omega), ih.2 (by omega)]
theorem Sup.take {a b : Str} (h : Sup a b) : ∀ n : Nat, Sup (a.take n) (b.take n) := by
  induction h with
  | nil => intro n; simp; exact .nil
  | cons h1 _ ih =>
    intro n
    cases n with
    | zero => simp; exact .nil
    | succ n => exact .cons h1 (ih n)
theorem Sup.drop {a b : Str} (h : Sup a b) : ∀ n : Nat, Sup (a.drop n) (b.drop n) := by
  induction h with
  | nil => intro n; simp; exact .nil
  | cons h1 h2 ih =>
    intro n
    cases n with
    | zero => exact .cons h1 h2
    | succ n => exact ih n
theorem Sup.append {a b c d : Str} (h : Sup a b) (k : Sup c d) : Sup (a ++ c) (b ++ d) := by
  induction h with
  | nil => exact k
  | cons h1 _ ih => exact .cons h1 ih
theorem Sup.of_get {a b : Str} (hl : a.length = b.length) (h : ∀ i, i < a.length → supB (a.getD i 0) (b.getD i 0)) : Sup a b := by
  induction a generalizing b with
  | nil =>
    cases b with
    | nil => exact .nil
    | cons _ _ => simp at hl
  | cons x l ih =>
    cases b with
    | nil => simp at hl
    | cons y m =>
      refine .cons ?_ (ih (by simpa using hl) (fun i hi => ?_))
      · have := h 0 (by simp); simpa using this
      · have := h (i + 1) (by simpa using hi); simpa using this
theorem Sup.get {a b : Str} (h : Sup a b) (i : Nat) : supB (a.getD i 0) (b.getD i 0) := by
  induction h generalizing i with
  | nil => simp; exact supB.refl _
  | cons h1 _ ih =>
    cases i with
    | zero => simpa using h1
    | succ i => simpa using ih i
theorem Sup.antisymm {a b : Str} (h : Sup a b) (k : Sup b a) : a = b := h.zeros.2 (Nat.le_antisymm h.zeros.1 k.zeros.1)
theorem Sup.blank (l : Str) : Sup (List.replicate l.length 255) l := by
  induction l with
  | nil => exact .nil
  | cons a l ih => exact .cons (supB_255 a) ih
theorem zeros_ff (n : Nat) : zeros (List.replicate n 255) = 0 := by
  induction n with
  | zero => rfl
  | succ n ih =>
    have e : zeros (List.replicate (n + 1) 255) = zbit 255 + zeros (List.replicate n 255) := by simp [zeros, List.replicate_succ]
    rw [e, ih, zbit_zl]
    rfl
theorem zeros_zero {l : Str} (h : zeros l = 0) : l = List.replicate l.length 255 :=
  ((Sup.blank l).zeros.2 (by rw [zeros_ff, h])).symm
/-- The bytes of a record that are no check, and the check. -/
theorem recd_parts (k : Nat) (n v : Str) : recd k n v = [UInt8.ofNat k, UInt8.ofNat n.length, UInt8.ofNat v.length] ++ [UInt8.ofNat ((zeros [UInt8.ofNat k, UInt8.ofNat n.length, UInt8.ofNat v.length] + zeros n + zeros v) / 256), UInt8.ofNat ((zeros [UInt8.ofNat k, UInt8.ofNat n.length, UInt8.ofNat v.length] + zeros n + zeros v) % 256)] ++ n ++ v := rfl
def chk (k : Nat) (n v : Str) : Nat := zeros [UInt8.ofNat k, UInt8.ofNat n.length, UInt8.ofNat v.length] + zeros n + zeros v
theorem recd_take3 (k : Nat) (n v r : Str) : (recd k n v ++ r).take 3 = [UInt8.ofNat k, UInt8.ofNat n.length, UInt8.ofNat v.length] := rfl
theorem recd_drop5 (k : Nat) (n v r : Str) : (recd k n v ++ r).drop 5 = n ++ v ++ r := by
  rw [recd_parts]
  simp
theorem recd_mid (k : Nat) (n v r : Str) : (recd k n v ++ r).getD 3 0 = UInt8.ofNat (chk k n v / 256) ∧ (recd k n v ++ r).getD 4 0 = UInt8.ofNat (chk k n v % 256) := ⟨rfl, rfl⟩
theorem split5 (l : Str) (h : 5 ≤ l.length) : l = l.take 3 ++ [l.getD 3 0, l.getD 4 0] ++ l.drop 5 := by
  match l, h with
  | a :: b :: c :: d :: e :: r, _ => rfl
/-- A record that keeps the bits of another record with blanks behind it is that record. -/
theorem sup_recd {F : Str} {k k' : Nat} {nm vl nm' vl' r r' : Str} (hF : F = recd k' nm' vl' ++ r') (hs : Sup F (recd k nm vl ++ r)) (hr : zeros r = 0) (hn : nm.length ≤ 255) (hv : vl.length ≤ 255) (hn' : nm'.length ≤ 255) (hv' : vl'.length ≤ 255) : F = recd k nm vl ++ r := by
  have h3 := (hs.take 3).zeros
  have h5 := (hs.drop 5).zeros
  have g3 := (hs.get 3).le
  have g4 := (hs.get 4).le
  have hc : chk k' nm' vl' ≤ zeros (F.take 3) + zeros (F.drop 5) := by
    rw [hF, recd_take3, recd_drop5, zeros_append, zeros_append]
    unfold chk
    omega
  rw [recd_take3] at h3
  rw [recd_drop5, zeros_append, zeros_append, hr] at h5
  have hle : chk k' nm' vl' ≤ chk k nm vl := by unfold chk at *; omega
  have hcb : chk k nm vl ≤ 65535 := by
    have h1 := zeros_le [UInt8.ofNat k, UInt8.ofNat nm.length, UInt8.ofNat vl.length]
    have h2 := zeros_le nm
    have h3 := zeros_le vl
    simp only [List.length_cons, List.length_nil] at h1
    unfold chk
    omega
  have m1 := (recd_mid k' nm' vl' r')
  have m2 := (recd_mid k nm vl r)
  rw [← hF] at m1
  rw [m1.1, m2.1, u8_of (by omega), u8_of (by omega)] at g3
  rw [m1.2, m2.2, u8_of (by omega), u8_of (by omega)] at g4
  have hge : chk k nm vl = chk k' nm' vl' := by omega
  have e3 := h3.2 (by unfold chk at *; omega)
  have e5 := h5.2 (by unfold chk at *; omega)
  have hl5 : 5 ≤ F.length := by rw [hF]; simp [recd_len]; omega
  rw [split5 F hl5, e3, e5, m1.1, m1.2, ← hge, List.append_assoc nm vl r]
  rw [recd_parts]
  simp [chk]
end Go.Proofs.Ytfglopkglnpokaa
