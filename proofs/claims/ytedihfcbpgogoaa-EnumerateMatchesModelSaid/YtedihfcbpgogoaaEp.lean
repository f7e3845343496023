/- Topologies, plain: children, bus numbers. No condition. -/
import Derived.Test.YtedihfcbpgogoaaK
namespace Go.Proofs.Ytedihfcbpgogoaa
structure Fn where
  pa : Int
  sl : Int
  ve : Int
  de : Int
  br : Bool
  pf : Bool
  hp : Bool
  sp : Int
  pn : Int
  vc : Int
  bv : Value
  ba : List (Int × Int)
def fn0 : Fn := ⟨0, 0, 0, 0, false, false, false, 0, 0, 0, .slice none 0 0, []⟩
def fAt (T : List Fn) (i : Nat) : Fn := T.getD i fn0
def kids (T : List Fn) (p : Int) : List Nat := (List.range 32).flatMap fun (s : Nat) => (List.range T.length).filter fun i => decide ((fAt T i).pa = p) && decide ((fAt T i).sl = (s : Int))
/-- What the checks leave of a topology. -/
structure VT (T : List Fn) : Prop where
  sl : ∀ i, i < T.length → 0 ≤ (fAt T i).sl ∧ (fAt T i).sl ≤ 31
  sp : ∀ i, i < T.length → 0 ≤ (fAt T i).sp ∧ (fAt T i).sp ≤ 32
  pa : ∀ i, i < T.length → -1 ≤ (fAt T i).pa ∧ (fAt T i).pa < (i : Int)
  br : ∀ i, i < T.length → 0 ≤ (fAt T i).pa → (fAt T (fAt T i).pa.toNat).br = true
  un : ∀ i j, i < T.length → j < T.length → (fAt T i).pa = (fAt T j).pa → (fAt T i).sl = (fAt T j).sl → i = j
section
variable {T : List Fn} {p : Int}
theorem mem_kids (V : VT T) {k : Nat} : k ∈ kids T p ↔ k < T.length ∧ (fAt T k).pa = p := by
  unfold kids
  rw [List.mem_flatMap]
  constructor
  · rintro ⟨s, _, h⟩
    rw [List.mem_filter] at h
    simp at h
    exact ⟨h.1, h.2.1⟩
  · rintro ⟨h1, h2⟩
    have := V.sl k h1
    refine ⟨(fAt T k).sl.toNat, by simp; omega, ?_⟩
    rw [List.mem_filter]
    simp
    exact ⟨h1, h2, by omega⟩
theorem kids_sorted (V : VT T) : (kids T p).Pairwise (fun i j => (fAt T i).sl < (fAt T j).sl) := by
  unfold kids
  rw [List.pairwise_flatMap]
  constructor
  · intro s _
    have h : ((List.range T.length).filter fun i => decide ((fAt T i).pa = p) && decide ((fAt T i).sl = (s : Int))).Pairwise (fun i j => i < j) := (List.pairwise_lt_range).filter _
    refine List.Pairwise.imp_of_mem ?_ h
    intro a b ha hb hab
    rw [List.mem_filter] at ha hb
    simp at ha hb
    have := V.un a b ha.1 hb.1 (by rw [ha.2.1, hb.2.1]) (by rw [ha.2.2, hb.2.2])
    omega
  · have h : (List.range 32).Pairwise (fun i j => i < j) := List.pairwise_lt_range
    refine h.imp ?_
    intro a b hab x hx y hy
    rw [List.mem_filter] at hx hy
    simp at hx hy
    omega
theorem kids_nodup (V : VT T) : (kids T p).Nodup := (kids_sorted V).imp (fun h e => by subst e; omega)
theorem kids_eq (V : VT T) {l : List Nat} (hn : l.Nodup) (hm : ∀ k, k ∈ l ↔ k < T.length ∧ (fAt T k).pa = p) (hs : l.Pairwise (fun i j => (fAt T i).sl ≤ (fAt T j).sl)) : l = kids T p := by
  refine List.Perm.eq_of_pairwise (le := fun i j => (fAt T i).sl ≤ (fAt T j).sl) ?_ hs ((kids_sorted V).imp (fun h => by omega)) ?_
  · intro a b ha hb h1 h2
    have ha' := (hm a).1 ha
    have hb' := (mem_kids V).1 hb
    exact V.un a b ha'.1 hb'.1 (by rw [ha'.2, hb'.2]) (by omega)
  · rw [List.perm_ext_iff_of_nodup hn (kids_nodup V)]
    intro a
    rw [hm a, mem_kids V]
end
/-- j lies strictly below p. -/
inductive Dn (T : List Fn) (p : Int) : Nat → Prop
  | kid {k : Nat} : k < T.length → (fAt T k).pa = p → Dn T p k
  | step {m k : Nat} : Dn T p m → k < T.length → (fAt T k).pa = (m : Int) → Dn T p k
section
variable {T : List Fn} {p : Int}
theorem Dn.lt {j : Nat} (h : Dn T p j) : j < T.length := by cases h <;> assumption
theorem Dn.gt (V : VT T) {j : Nat} (h : Dn T p j) : p < (j : Int) := by
  induction h with
  | kid hk hp => have := V.pa _ hk; omega
  | step _ hk hp ih => have := V.pa _ hk; omega
theorem Dn.trans {m j : Nat} (h : Dn T p m) (h2 : Dn T (m : Int) j) : Dn T p j := by
  induction h2 with
  | kid hk hp => exact .step h hk hp
  | step _ hk hp ih => exact .step ih hk hp
/-- In the tree of k. -/
def Tr (T : List Fn) (k j : Nat) : Prop := j = k ∨ Dn T (k : Int) j
theorem Tr.ge (V : VT T) {k j : Nat} (h : Tr T k j) : k ≤ j := by
  rcases h with rfl | h
  · exact Nat.le_refl _
  · have := h.gt V; omega
theorem Dn.tr {j : Nat} (h : Dn T p j) : ∃ k, k < T.length ∧ (fAt T k).pa = p ∧ Tr T k j := by
  induction h with
  | kid hk hp => exact ⟨_, hk, hp, .inl rfl⟩
  | step hm hk hp ih =>
    obtain ⟨k0, h1, h2, h3⟩ := ih
    refine ⟨k0, h1, h2, .inr ?_⟩
    rcases h3 with rfl | h3
    · exact .kid hk hp
    · exact .step h3 hk hp
theorem Tr.dn {k j : Nat} (h : Tr T k j) (hk : k < T.length) (hp : (fAt T k).pa = p) : Dn T p j := by
  rcases h with rfl | h
  · exact .kid hk hp
  · exact (Dn.kid hk hp).trans h
/-- Two ways up from j meet. -/
theorem Tr.apart (V : VT T) {k k' j : Nat} (h : Tr T k j) (h' : Tr T k' j) (hk : k < T.length) (hk' : k' < T.length) (e : (fAt T k).pa = (fAt T k').pa) : k = k' := by
  induction j using Nat.strongRecOn with
  | _ j ih =>
    have up : ∀ a : Nat, Dn T (a : Int) j → ∃ m, (fAt T j).pa = (m : Nat) ∧ m < j ∧ Tr T a m := by
      intro a ha
      cases ha with
      | kid hj hp => exact ⟨a, hp, by have := V.pa _ hj; omega, .inl rfl⟩
      | step hm hj hp => exact ⟨_, hp, by have := V.pa _ hj; omega, .inr hm⟩
    rcases h with rfl | h
    · rcases h' with h' | h'
      · exact h'
      · obtain ⟨m, h1, h2, h3⟩ := up _ h'
        have := h3.ge V
        have := V.pa _ hk'
        omega
    · rcases h' with rfl | h'
      · obtain ⟨m, h1, h2, h3⟩ := up _ h
        have := h3.ge V
        have := V.pa _ hk
        omega
      · obtain ⟨m, h1, h2, h3⟩ := up _ h
        obtain ⟨m', h1', h2', h3'⟩ := up _ h'
        have : m = m' := by omega
        subst this
        exact ih m h2 h3 h3'
theorem Dn.br (V : VT T) {k j : Nat} (h : Dn T (k : Int) j) : (fAt T k).br = true := by
  obtain ⟨m, h1, h2, _⟩ := h.tr
  have := V.br m h1 (by omega)
  rwa [h2] at this
end
structure BN where
  bu : Int
  se : Int
  su : Int
def up (b : Nat → BN) (k : Nat) (x : BN) : Nat → BN := fun j => if j = k then x else b j
def numK (T : List Fn) (rc : Nat → Int → (Nat → BN) → Int × (Nat → BN)) (bus : Int) (s : Int × (Nat → BN)) (k : Nat) : Int × (Nat → BN) :=
  if (fAt T k).br = true then
    let r := rc k (s.1 + 1) (up s.2 k ⟨bus, s.1 + 1, (s.2 k).su⟩)
    (r.1 + (fAt T k).sp, up r.2 k { r.2 k with su := r.1 + (fAt T k).sp })
  else (s.1, up s.2 k { s.2 k with bu := bus })
def num (T : List Fn) : Nat → Int → Int → Int → (Nat → BN) → Int × (Nat → BN)
  | 0, _, _, last, b => (last, b)
  | f + 1, p, bus, last, b => (kids T p).foldl (numK T (fun k l b => num T f (k : Int) l l b) bus) (last, b)
open Classical in
/-- The numbers that the bridges of the set S take among the first n. -/
noncomputable def ws (T : List Fn) (S : Nat → Prop) : Nat → Int
  | 0 => 0
  | n + 1 => ws T S n + if S n ∧ (fAt T n).br = true then 1 + (fAt T n).sp else 0
theorem ws_or (T : List Fn) {S1 S2 : Nat → Prop} (h : ∀ j, S1 j → S2 j → False) (n : Nat) : ws T (fun j => S1 j ∨ S2 j) n = ws T S1 n + ws T S2 n := by
  induction n with
  | zero => rfl
  | succ n ih =>
    simp only [ws, ih]
    have := h n
    by_cases hb : (fAt T n).br = true <;> by_cases h1 : S1 n <;> by_cases h2 : S2 n <;> simp_all <;> omega
theorem ws_congr (T : List Fn) {S1 S2 : Nat → Prop} (n : Nat) (h : ∀ j, j < n → (S1 j ↔ S2 j)) : ws T S1 n = ws T S2 n := by
  induction n with
  | zero => rfl
  | succ n ih =>
    simp only [ws]
    rw [ih (fun j hj => h j (by omega))]
    have := h n (by omega)
    by_cases hb : (fAt T n).br = true <;> by_cases h1 : S1 n <;> by_cases h2 : S2 n <;> simp_all
theorem ws_none (T : List Fn) (n : Nat) : ws T (fun _ => False) n = 0 := by
  induction n with
  | zero => rfl
  | succ n ih => simp [ws, ih]
theorem ws_one (T : List Fn) {k n : Nat} (h : k < n) : ws T (fun j => j = k) n = if (fAt T k).br = true then 1 + (fAt T k).sp else 0 := by
  induction n with
  | zero => omega
  | succ n ih =>
    simp only [ws]
    by_cases e : k = n
    · subst e
      have : ws T (fun j => j = k) k = 0 := by rw [ws_congr T (S2 := fun _ => False) k (fun j hj => by simp; omega), ws_none]
      simp [this]
    · rw [ih (by omega)]
      have : ¬ (n = k) := fun e' => e e'.symm
      simp [this]
/-- What numbering the functions of the set S leaves. -/
structure Num (T : List Fn) (S : Nat → Prop) (l : Int) (b : Nat → BN) (l' : Int) (b' : Nat → BN) : Prop where
  out : ∀ j, ¬ S j → b' j = b j
  le : l ≤ l'
  tot : l' = l + ws T S T.length
  rg : ∀ j, S j → (fAt T j).br = true → l < (b' j).se ∧ (b' j).se + (fAt T j).sp ≤ (b' j).su ∧ (b' j).su ≤ l' ∧ (b' j).bu < (b' j).se
  nb : ∀ j, S j → (fAt T j).br = false → (b' j).se = (b j).se ∧ (b' j).su = (b j).su
  pb : ∀ j m : Nat, S j → S m → (fAt T j).pa = (m : Int) → (b' j).bu = (b' m).se
  nest : ∀ i j, S i → S j → (fAt T j).br = true → Dn T (i : Int) j → (b' i).se < (b' j).se ∧ (b' j).su ≤ (b' i).su
  dis : ∀ i j, S i → S j → (fAt T i).br = true → (fAt T j).br = true → i ≠ j → ¬ Dn T (i : Int) j → ¬ Dn T (j : Int) i → (b' i).su < (b' j).se ∨ (b' j).su < (b' i).se
section
variable {T : List Fn} {p : Int}
theorem Num.nil {l : Int} {b : Nat → BN} {S : Nat → Prop} (h : ∀ j, j < T.length → ¬ S j) (h2 : ∀ j, S j → j < T.length) : Num T S l b l b :=
  have n : ∀ j, ¬ S j := fun j hj => h j (h2 j hj) hj
  ⟨fun _ _ => rfl, Int.le_refl _, by rw [ws_congr T (S2 := fun _ => False) T.length (fun j hj => ⟨fun hs => n j hs, fun f => f.elim⟩), ws_none]; omega, fun j hj => (n j hj).elim, fun j hj => (n j hj).elim, fun j _ hj => (n j hj).elim, fun j _ hj => (n j hj).elim, fun j _ hj => (n j hj).elim⟩
theorem Num.seq {S1 S2 : Nat → Prop} {l l1 l2 : Int} {b b1 b2 : Nat → BN} (h1 : Num T S1 l b l1 b1) (h2 : Num T S2 l1 b1 l2 b2) (hd : ∀ j, S1 j → S2 j → False) (hp : ∀ j m : Nat, S1 j → S2 m → (fAt T j).pa ≠ (m : Int) ∧ (fAt T m).pa ≠ (j : Int)) (hn : ∀ j m : Nat, S1 j → S2 m → ¬ Dn T (j : Int) m ∧ ¬ Dn T (m : Int) j) : Num T (fun j => S1 j ∨ S2 j) l b l2 b2 := by
  have e1 : ∀ j, S1 j → b2 j = b1 j := fun j hj => h2.out j (fun h => hd j hj h)
  have l1' := h1.le
  have l2' := h2.le
  refine ⟨fun j hj => ?_, by omega, ?_, ?_, ?_, ?_, ?_, ?_⟩
  · rw [h2.out j (fun h => hj (.inr h)), h1.out j (fun h => hj (.inl h))]
  · rw [ws_or T hd, h2.tot, h1.tot]; omega
  · rintro j (hj | hj) hb
    · rw [e1 j hj]; have := h1.rg j hj hb; omega
    · have := h2.rg j hj hb; omega
  · rintro j (hj | hj) hb
    · rw [e1 j hj]; exact h1.nb j hj hb
    · have := h2.nb j hj hb
      rw [this.1, this.2, h1.out j (fun h => hd j h hj)]
      exact ⟨rfl, rfl⟩
  · rintro j m (hj | hj) (hm | hm) e
    · rw [e1 j hj, e1 m hm]; exact h1.pb j m hj hm e
    · exact absurd e (hp j m hj hm).1
    · exact absurd e (hp m j hm hj).2
    · exact h2.pb j m hj hm e
  · rintro i j (hi | hi) (hj | hj) hb hdn
    · rw [e1 i hi, e1 j hj]; exact h1.nest i j hi hj hb hdn
    · exact absurd hdn (hn i j hi hj).1
    · exact absurd hdn (hn j i hj hi).2
    · exact h2.nest i j hi hj hb hdn
  · rintro i j (hi | hi) (hj | hj) hbi hbj hne n1 n2
    · rw [e1 i hi, e1 j hj]; exact h1.dis i j hi hj hbi hbj hne n1 n2
    · rw [e1 i hi]; have a := h1.rg i hi hbi; have c := h2.rg j hj hbj; omega
    · rw [e1 j hj]; have a := h1.rg j hj hbj; have c := h2.rg i hi hbi; omega
    · exact h2.dis i j hi hj hbi hbj hne n1 n2
theorem Num.of {S S' : Nat → Prop} {l l' : Int} {b b' : Nat → BN} (h : Num T S l b l' b') (e : ∀ j, S j ↔ S' j) : Num T S' l b l' b' := by
  have : S = S' := funext fun j => propext (e j)
  rwa [← this]
theorem up_same (b : Nat → BN) (k : Nat) (x : BN) : up b k x k = x := by simp [up]
theorem up_ne {b : Nat → BN} {k j : Nat} (x : BN) (h : j ≠ k) : up b k x j = b j := by simp [up, h]
theorem numK_spec (V : VT T) {rc : Nat → Int → (Nat → BN) → Int × (Nat → BN)} {k : Nat} (hk : k < T.length) {bus l : Int} {b : Nat → BN} (hbus : bus ≤ l)
    (hrc : ∀ l b, Num T (Dn T (k : Int)) l b (rc k l b).1 (rc k l b).2 ∧ ∀ j, j < T.length → (fAt T j).pa = (k : Int) → ((rc k l b).2 j).bu = l) :
    Num T (Tr T k) l b (numK T rc bus (l, b) k).1 (numK T rc bus (l, b) k).2 ∧ ((numK T rc bus (l, b) k).2 k).bu = bus := by
  have hkk : ¬ Dn T (k : Int) k := fun h => by have := h.gt V; omega
  by_cases hb : (fAt T k).br = true
  · unfold numK
    simp only [hb, if_true]
    obtain ⟨h1, h2⟩ := hrc (l + 1) (up b k ⟨bus, l + 1, (b k).su⟩)
    generalize rc k (l + 1) (up b k ⟨bus, l + 1, (b k).su⟩) = r at h1 h2
    obtain ⟨r1, r2⟩ := r
    simp only at h1 h2 ⊢
    have ek : r2 k = ⟨bus, l + 1, (b k).su⟩ := by rw [h1.out k hkk, up_same]
    have hsp := V.sp k hk
    have hle := h1.le
    have eo : ∀ j, Dn T (k : Int) j → j ≠ k := fun j hj e => by subst e; exact hkk hj
    refine ⟨⟨fun j hj => ?_, by omega, ?_, ?_, ?_, ?_, ?_, ?_⟩, by rw [up_same, ek]⟩
    · have hne : j ≠ k := fun e => hj (.inl e)
      rw [up_ne _ hne, h1.out j (fun h => hj (.inr h)), up_ne _ hne]
    · have e1 : ws T (Tr T k) T.length = ws T (fun j => j = k ∨ Dn T (k : Int) j) T.length := rfl
      rw [e1, ws_or T (fun j h1 h2 => eo j h2 h1), ws_one T hk, if_pos hb]
      have := h1.tot
      omega
    · rintro j (rfl | hj) hbj
      · rw [up_same, ek]; simp only; omega
      · rw [up_ne _ (eo j hj)]; have := h1.rg j hj hbj; omega
    · rintro j (rfl | hj) hbj
      · rw [hb] at hbj; cases hbj
      · rw [up_ne _ (eo j hj)]
        have := h1.nb j hj hbj
        rw [up_ne _ (eo j hj)] at this
        exact this
    · rintro j m hj hm e
      rcases hj with rfl | hj
      · have := hm.ge V; have := V.pa j hk; omega
      · rw [up_ne _ (eo j hj)]
        rcases hm with rfl | hm
        · rw [up_same, ek]; exact h2 j hj.lt e
        · rw [up_ne _ (eo m hm)]; exact h1.pb j m hj hm e
    · rintro i j hi hj hbj hdn
      rcases hj with rfl | hj
      · have := hi.ge V; have := hdn.gt V; omega
      · rw [up_ne _ (eo j hj)]
        rcases hi with rfl | hi
        · rw [up_same, ek]
          have := h1.rg j hj hbj
          simp only; omega
        · rw [up_ne _ (eo i hi)]; exact h1.nest i j hi hj hbj hdn
    · rintro i j hi hj hbi hbj hne n1 n2
      rcases hi with rfl | hi
      · rcases hj with rfl | hj
        · exact absurd rfl hne
        · exact absurd hj n1
      · rcases hj with rfl | hj
        · exact absurd hi n2
        · rw [up_ne _ (eo i hi), up_ne _ (eo j hj)]; exact h1.dis i j hi hj hbi hbj hne n1 n2
  · have hb' : (fAt T k).br = false := by simpa using hb
    have et : ∀ j, Tr T k j → j = k := fun j h => by
      rcases h with h | h
      · exact h
      · exact absurd (h.br V) hb
    unfold numK
    rw [if_neg hb]
    simp only
    refine ⟨⟨fun j hj => up_ne _ (fun e => hj (.inl e)), Int.le_refl _, ?_, ?_, ?_, ?_, ?_, ?_⟩, by rw [up_same]⟩
    · rw [ws_congr T (S2 := fun j => j = k) T.length (fun j _ => ⟨et j, .inl⟩), ws_one T hk, if_neg hb]; omega
    · intro j hj hbj; rw [et j hj] at hbj; exact absurd hbj hb
    · intro j hj _; rw [et j hj, up_same]; exact ⟨rfl, rfl⟩
    · intro j m hj hm e; rw [et j hj, et m hm] at e; have := V.pa k hk; omega
    · intro i j hi hj hbj; rw [et j hj] at hbj; exact absurd hbj hb
    · intro i j hi hj hbi; rw [et i hi] at hbi; exact absurd hbi hb
theorem fold_spec (V : VT T) {rc : Nat → Int → (Nat → BN) → Int × (Nat → BN)} {bus : Int}
    (hrc : ∀ k, k < T.length → (fAt T k).pa = p → ∀ l b, Num T (Dn T (k : Int)) l b (rc k l b).1 (rc k l b).2 ∧ ∀ j, j < T.length → (fAt T j).pa = (k : Int) → ((rc k l b).2 j).bu = l) :
    ∀ (ks : List Nat) (l : Int) (b : Nat → BN), bus ≤ l → ks.Nodup → (∀ k ∈ ks, k < T.length ∧ (fAt T k).pa = p) →
      Num T (fun j => ∃ k ∈ ks, Tr T k j) l b (ks.foldl (numK T rc bus) (l, b)).1 (ks.foldl (numK T rc bus) (l, b)).2 ∧ ∀ k ∈ ks, ((ks.foldl (numK T rc bus) (l, b)).2 k).bu = bus := by
  intro ks
  induction ks with
  | nil => intro l b _ _ _; exact ⟨Num.nil (fun j _ h => by obtain ⟨k, hk, _⟩ := h; cases hk) (fun j h => by obtain ⟨k, hk, _⟩ := h; cases hk), fun k hk => by cases hk⟩
  | cons k ks ih =>
    intro l b hbus hnd hks
    obtain ⟨hk1, hk2⟩ := hks k (by simp)
    obtain ⟨h1, h2⟩ := numK_spec V (rc := rc) hk1 (bus := bus) (l := l) (b := b) hbus (hrc k hk1 hk2)
    rw [List.foldl_cons]
    generalize numK T rc bus (l, b) k = s at h1 h2
    obtain ⟨l1, b1⟩ := s
    rw [List.nodup_cons] at hnd
    have hle : l ≤ l1 := h1.le
    obtain ⟨h3, h4⟩ := ih l1 b1 (by omega) hnd.2 (fun k' hk' => hks k' (List.mem_cons_of_mem _ hk'))
    generalize List.foldl (numK T rc bus) (l1, b1) ks = r at h3 h4 ⊢
    obtain ⟨l2, b2⟩ := r
    simp only at h1 h2 h3 h4 ⊢
    have hdis : ∀ j, Tr T k j → (∃ k' ∈ ks, Tr T k' j) → False := by
      rintro j hj ⟨k', hk', hj'⟩
      have hh := hks k' (List.mem_cons_of_mem _ hk')
      have := hj.apart V hj' hk1 hh.1 (by rw [hk2, hh.2])
      subst this
      exact hnd.1 hk'
    have tup : ∀ {a j m : Nat}, Tr T a m → j < T.length → (fAt T j).pa = (m : Int) → Tr T a j := fun {a j m} h hj e => by
      rcases h with rfl | h
      · exact .inr (.kid hj e)
      · exact .inr (.step h hj e)
    have tdn : ∀ {a j m : Nat}, Tr T a m → Dn T (m : Int) j → Tr T a j := fun {a j m} h hd => by
      rcases h with rfl | h
      · exact .inr hd
      · exact .inr (h.trans hd)
    have tlt : ∀ {a j : Nat}, a < T.length → Tr T a j → j < T.length := fun {a j} ha h => by
      rcases h with rfl | h
      · exact ha
      · exact h.lt
    refine ⟨(h1.seq h3 hdis ?_ ?_).of (fun j => by simp), ?_⟩
    · rintro j m hj ⟨k', hk', hm⟩
      refine ⟨fun e => hdis j hj ⟨k', hk', tup hm (tlt hk1 hj) e⟩, fun e => hdis m (tup hj (tlt (hks k' (List.mem_cons_of_mem _ hk')).1 hm) e) ⟨k', hk', hm⟩⟩
    · rintro j m hj ⟨k', hk', hm⟩
      exact ⟨fun e => hdis m (tdn hj e) ⟨k', hk', hm⟩, fun e => hdis j hj ⟨k', hk', tdn hm e⟩⟩
    · intro k' hk'
      rcases List.mem_cons.1 hk' with rfl | hk'
      · rw [h3.out _ (fun h => hdis _ (.inl rfl) h)]; exact h2
      · exact h4 k' hk'
theorem num_spec (V : VT T) : ∀ (f : Nat) (p bus l : Int) (b : Nat → BN), -1 ≤ p → (T.length : Int) - p ≤ f → bus ≤ l →
    Num T (Dn T p) l b (num T f p bus l b).1 (num T f p bus l b).2 ∧ ∀ k, k < T.length → (fAt T k).pa = p → ((num T f p bus l b).2 k).bu = bus := by
  intro f
  induction f with
  | zero =>
    intro p bus l b hp hf _
    refine ⟨Num.nil (fun j hj h => by have := h.gt V; omega) (fun j h => h.lt), fun k hk e => ?_⟩
    have := (Dn.kid hk e).gt V; omega
  | succ f ih =>
    intro p bus l b hp hf hbus
    obtain ⟨h1, h2⟩ := fold_spec V (p := p) (bus := bus) (rc := fun k l b => num T f (k : Int) l l b) (fun k hk e l b => ih k l l b (by omega) (by have := (Dn.kid hk e).gt V; omega) (Int.le_refl _)) (kids T p) l b hbus (kids_nodup V) (fun k hk => (mem_kids V).1 hk)
    refine ⟨h1.of (fun j => ?_), fun k hk e => h2 k ((mem_kids V).2 ⟨hk, e⟩)⟩
    constructor
    · rintro ⟨k, hk, hj⟩
      obtain ⟨a, c⟩ := (mem_kids V).1 hk
      exact hj.dn a c
    · intro h
      obtain ⟨k, a, c, d⟩ := h.tr
      exact ⟨k, (mem_kids V).2 ⟨a, c⟩, d⟩
/-- Each function lies below the root. -/
theorem dn_root (V : VT T) : ∀ j, j < T.length → Dn T (-1) j := by
  intro j
  induction j using Nat.strongRecOn with
  | _ j ih =>
    intro hj
    have := V.pa j hj
    by_cases e : (fAt T j).pa = -1
    · exact .kid hj e
    · obtain ⟨m, hm⟩ : ∃ m : Nat, (fAt T j).pa = (m : Int) := ⟨(fAt T j).pa.toNat, by omega⟩
      exact .step (ih m (by omega) (by omega)) hj hm
end
end Go.Proofs.Ytedihfcbpgogoaa
