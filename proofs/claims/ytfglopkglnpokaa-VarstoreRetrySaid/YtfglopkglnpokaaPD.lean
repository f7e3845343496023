/- Plain law 4: what writing and erasing leave, with and without a loss of power. No condition, no program. -/
import Derived.Test.YtfglopkglnpokaaPC
namespace Go.Proofs.Ytfglopkglnpokaa
open Go.RowKit
def Same (fl g : FL) : Prop := g.B = fl.B ∧ g.P = fl.P ∧ g.E = fl.E ∧ g.torn = fl.torn
theorem Same.refl (fl : FL) : Same fl fl := ⟨rfl, rfl, rfl, rfl⟩
theorem Same.trans {a b c : FL} (h : Same a b) (k : Same b c) : Same a c := ⟨k.1.trans h.1, k.2.1.trans h.2.1, k.2.2.1.trans h.2.2.1, k.2.2.2.trans h.2.2.2⟩
/-- Pages cs written to block b from page p on. -/
def updP (f : Nat → Nat → Str) (b p : Nat) (cs : List Str) : Nat → Nat → Str := fun c q => if c = b ∧ p ≤ q ∧ q < p + cs.length then cs.getD (q - p) [] else f c q
theorem updP_nil (f : Nat → Nat → Str) (b p : Nat) : updP f b p [] = f := by
  funext c q
  unfold updP
  rw [if_neg (fun k => by have h1 := k.2.1; have h2 := k.2.2; simp at h2; omega)]
theorem updP_cons (f : Nat → Nat → Str) (b p : Nat) (x : Str) (cs : List Str) : updP (up2 f b p x) b (p + 1) cs = updP f b p (x :: cs) := by
  funext c q
  unfold updP up2
  by_cases e : c = b
  · subst e
    by_cases e2 : q = p
    · subst e2
      rw [if_neg (fun k => by have := k.2.1; omega), if_pos ⟨rfl, rfl⟩, if_pos ⟨rfl, Nat.le_refl _, by simp⟩]
      simp
    · by_cases h : p + 1 ≤ q ∧ q < p + 1 + cs.length
      · have e3 : q - p = (q - (p + 1)) + 1 := by omega
        rw [if_pos ⟨rfl, h.1, h.2⟩, if_pos ⟨rfl, by omega, by simp; omega⟩, e3]
        simp
      · rw [if_neg (fun k => h ⟨k.2.1, k.2.2⟩), if_neg (fun k => e2 k.2), if_neg (fun k => by have h1 := k.2.1; have h2 := k.2.2; simp at h2; omega)]
  · rw [if_neg (fun k => e k.1), if_neg (fun k => e k.1), if_neg (fun k => e k.1)]
theorem updP_other {f : Nat → Nat → Str} {b p : Nat} {cs : List Str} {c q : Nat} (h : c ≠ b) : updP f b p cs c q = f c q := if_neg (fun k => h k.1)
theorem updP_off {f : Nat → Nat → Str} {b p : Nat} {cs : List Str} {c q : Nat} (h : q < p ∨ p + cs.length ≤ q) : updP f b p cs c q = f c q := if_neg (fun k => by omega)
theorem updP_in {f : Nat → Nat → Str} {b p : Nat} {cs : List Str} {i : Nat} (h : i < cs.length) : updP f b p cs b (p + i) = cs.getD i [] := by
  unfold updP
  rw [if_pos ⟨rfl, by omega, by omega⟩]
  congr 1
  omega
theorem pgsF_ext {fl g : FL} {b c : Nat} (hP : g.P = fl.P) (h : ∀ q, q < fl.P → g.pg c q = fl.pg b q) : pgsF g c = pgsF fl b := by
  unfold pgsF
  rw [hP]
  apply List.map_congr_left
  intro q hq
  exact h q (List.mem_range.1 hq)
theorem pgsF_64 {fl : FL} {b : Nat} (h : ∀ q, q < fl.P → (fl.pg b q).length = 64) : P64 (pgsF fl b) := by
  intro p hp
  unfold pgsF at hp
  obtain ⟨q, hq, rfl⟩ := List.mem_map.1 hp
  exact h q (List.mem_range.1 hq)
theorem pgsF_take {fl g : FL} {b n : Nat} (hP : g.P = fl.P) (h : ∀ q, q < n → g.pg b q = fl.pg b q) : (pgsF g b).take n = (pgsF fl b).take n := by
  unfold pgsF
  rw [hP, ← List.map_take, ← List.map_take]
  apply List.map_congr_left
  intro q hq
  rw [List.take_range] at hq
  exact h q (by have := List.mem_range.1 hq; omega)
theorem pgsF_drop {fl : FL} {b n : Nat} {cs : List Str} (hn : n + cs.length ≤ fl.P) (h : ∀ i, i < cs.length → fl.pg b (n + i) = cs.getD i []) : ((pgsF fl b).drop n).take cs.length = cs := by
  apply List.ext_getElem
  · rw [List.length_take, List.length_drop, pgsF_len]; omega
  · intro i h1 h2
    rw [List.getElem_take, List.getElem_drop]
    have e1 : (pgsF fl b)[n + i]'(by rw [pgsF_len]; omega) = fl.pg b (n + i) := by
      have := pgsF_get fl b (n + i) (by omega)
      rw [List.getD_eq_getElem?_getD, List.getElem?_eq_getElem (by rw [pgsF_len]; omega)] at this
      exact this
    rw [e1, h i h2, List.getD_eq_getElem?_getD, List.getElem?_eq_getElem h2]
    rfl
theorem fitsB_blank (s : Str) : fitsB blank s = true := by
  have h1 : ∀ d : UInt8, fits1 255 d = true := fun d => by
    unfold fits1
    rw [beq_iff_eq]
    have : (~~~(255 : UInt8)) = 0 := rfl
    rw [this]
    simp
  have h2 : ∀ (n : Nat) (s : Str), (List.zipWith fits1 (List.replicate n 255) s).all id = true := by
    intro n
    induction n with
    | zero => intro s; simp
    | succ n ih =>
      intro s
      cases s with
      | nil => simp
      | cons d r => rw [List.replicate_succ, List.zipWith_cons_cons, List.all_cons, h1, ih]; rfl
  exact h2 64 s
theorem tornP_sup {s : Str} (hs : s.length = 64) (t : Nat) : Sup (tornP t blank s) s := by
  refine Sup.of_get (by simp [tornP, blank, hs]) fun i hi => ?_
  have hi64 : i < 64 := by simpa [tornP, blank] using hi
  have h1 : (tornP t blank s).getD i 0 = torn1 t i (blank.getD i 0) (s.getD i 0) := by
    unfold tornP
    rw [List.getD_eq_getElem?_getD, List.getElem?_map, List.getElem?_range (by simpa [blank] using hi64)]
    rfl
  have h2 : blank.getD i 0 = 255 := by
    unfold blank
    rw [List.getD_eq_getElem?_getD, List.getElem?_replicate, if_pos hi64]; rfl
  rw [h1, h2]
  exact supB_torn _ _
theorem intF_c0 {fl : FL} (h : fl.cut = false) : intF fl = (false, fl) := by unfold intF; rw [if_pos h]
theorem intF_c1 {fl : FL} (h : fl.cut = true) (hl : 0 < fl.left) : intF fl = (false, { fl with left := fl.left - 1 }) := by unfold intF; rw [if_neg (by simp [h]), if_pos hl]
theorem intF_c2 {fl : FL} (h : fl.cut = true) (hl : ¬ 0 < fl.left) : intF fl = (true, loseF fl) := by unfold intF; rw [if_neg (by simp [h]), if_neg hl]
/-- What programming a blank page leaves. -/
theorem progF_cases {fl : FL} {b p : Nat} {s : Str} (ho : fl.off = false) (hb : fl.pg b p = blank) (hs : s.length = 64) :
    (∃ g, progF fl b p s = (0, g) ∧ g.off = false ∧ Same fl g ∧ g.er = fl.er ∧ g.pg = up2 fl.pg b p s ∧ (fl.cut = false → g.cut = false)) ∨
    (fl.cut = true ∧ ∃ g t, progF fl b p s = (16, g) ∧ g.off = true ∧ g.cut = false ∧ Same fl g ∧ g.er = fl.er ∧ g.pg = up2 fl.pg b p t ∧ t.length = 64 ∧ Sup t s) := by
  unfold progF
  rw [if_neg (by simp [ho]), hb, fitsB_blank, if_neg (by simp)]
  cases hc : fl.cut
  · left
    rw [intF_c0 hc]
    exact ⟨fl.put b p s, rfl, ho, ⟨rfl, rfl, rfl, rfl⟩, rfl, rfl, fun _ => hc⟩
  · by_cases hl : 0 < fl.left
    · left
      rw [intF_c1 hc hl]
      exact ⟨({ fl with left := fl.left - 1 } : FL).put b p s, rfl, ho, ⟨rfl, rfl, rfl, rfl⟩, rfl, rfl, fun h => absurd h (by simp)⟩
    · right
      rw [intF_c2 hc hl]
      exact ⟨rfl, (loseF fl).put b p (tornP fl.torn blank s), tornP fl.torn blank s, rfl, rfl, rfl, ⟨rfl, rfl, rfl, rfl⟩, rfl, rfl, by simp [tornP, blank], tornP_sup hs _⟩
/-- What writing pages to blank pages leaves. -/
theorem wrL_cases : ∀ (cs : List Str) (fl : FL) (b p : Nat), fl.off = false → (∀ i, i < cs.length → fl.pg b (p + i) = blank) → P64 cs →
    (∃ g, wrL fl b p cs = (0, g) ∧ g.off = false ∧ Same fl g ∧ g.er = fl.er ∧ g.pg = updP fl.pg b p cs ∧ (fl.cut = false → g.cut = false)) ∨
    (fl.cut = true ∧ ∃ g j t, wrL fl b p cs = (16, g) ∧ g.off = true ∧ g.cut = false ∧ Same fl g ∧ g.er = fl.er ∧ j < cs.length ∧ g.pg = updP fl.pg b p (cs.take j ++ [t]) ∧ t.length = 64 ∧ Sup t (cs.getD j []))
  | [], fl, b, p, ho, _, _ => .inl ⟨fl, rfl, ho, Same.refl _, rfl, (updP_nil _ _ _).symm, id⟩
  | c :: r, fl, b, p, ho, hb, h64 => by
    have hb0 := hb 0 (by simp)
    rw [Nat.add_zero] at hb0
    rcases progF_cases ho hb0 (h64 c (by simp)) with ⟨g, h1, h2, h3, h4, h5, h6⟩ | ⟨hc, g, t, h1, h2, h2', h3, h4, h5, h6, h7⟩
    · have hw : wrL fl b p (c :: r) = wrL g b (p + 1) r := by
        conv => lhs; unfold wrL
        rw [h1, if_pos rfl]
      have hb' : ∀ i, i < r.length → g.pg b (p + 1 + i) = blank := fun i hi => by
        have := hb (i + 1) (by simpa using hi)
        rw [h5]
        unfold up2
        rw [if_neg (by omega), ← this]
        congr 1
        omega
      rcases wrL_cases r g b (p + 1) h2 hb' (fun x hx => h64 x (List.mem_cons_of_mem _ hx)) with ⟨g', k1, k2, k3, k4, k5, k6⟩ | ⟨kc, g', j, t, k1, k2, k2', k3, k4, k5, k6, k7, k8⟩
      · left
        exact ⟨g', hw.trans k1, k2, h3.trans k3, k4.trans h4, by rw [k5, h5, updP_cons], fun h => k6 (h6 h)⟩
      · right
        refine ⟨?_, g', j + 1, t, hw.trans k1, k2, k2', h3.trans k3, k4.trans h4, by simp; omega, ?_, k7, by simpa using k8⟩
        · cases hfc : fl.cut
          · rw [h6 hfc] at kc; cases kc
          · rfl
        · rw [k6, h5, updP_cons]; rfl
    · right
      refine ⟨hc, g, 0, t, ?_, h2, h2', h3, h4, by simp, ?_, h6, by simpa using h7⟩
      · conv => lhs; unfold wrL
        rw [h1, if_neg (by simp)]
      · rw [h5, show (c :: r).take 0 ++ [t] = t :: [] from rfl, ← updP_cons]
        have : updP (up2 fl.pg b p t) b (p + 1) [] = up2 fl.pg b p t := updP_nil _ _ _
        rw [this]
theorem wrL_append : ∀ (cs ds : List Str) (fl : FL) (b p : Nat), wrL fl b p (cs ++ ds) = if (wrL fl b p cs).1 = 0 then wrL (wrL fl b p cs).2 b (p + cs.length) ds else wrL fl b p cs
  | [], ds, fl, b, p => by simp [wrL]
  | c :: r, ds, fl, b, p => by
    rw [List.cons_append]
    by_cases h : (progF fl b p c).1 = 0
    · have e : ∀ l, wrL fl b p (c :: l) = wrL (progF fl b p c).2 b (p + 1) l := fun l => by
        conv => lhs; unfold wrL
        rw [if_pos h]
      rw [e, e, wrL_append r ds, List.length_cons, show p + 1 + r.length = p + (r.length + 1) by omega]
    · have e : ∀ l, wrL fl b p (c :: l) = progF fl b p c := fun l => by
        conv => lhs; unfold wrL
        rw [if_neg h]
      rw [e, e, if_neg h]
def allP (rs : List Str) : List Str := (rs.map pagesR).flatten
theorem allP_len : ∀ rs : List Str, (allP rs).length = sumP rs
  | [] => rfl
  | r :: l => by
    have := allP_len l
    unfold allP at *
    rw [List.map_cons, List.flatten_cons, List.length_append, this, pagesR_len]
    rfl
theorem allP_64 (rs : List Str) : P64 (allP rs) := by
  intro p hp
  unfold allP at hp
  obtain ⟨l, hl, hp⟩ := List.mem_flatten.1 hp
  obtain ⟨r, _, rfl⟩ := List.mem_map.1 hl
  exact pagesR_64 r p hp
/-- Records one after another are their pages one after another. -/
theorem wrAll_wrL : ∀ (rs : List Str) (fl : FL) (b p : Nat), (wrAll fl b p rs).1 = (wrL fl b p (allP rs)).1 ∧ (wrAll fl b p rs).2.1 = (wrL fl b p (allP rs)).2 ∧ ((wrAll fl b p rs).1 = 0 → (wrAll fl b p rs).2.2 = p + sumP rs)
  | [], _, _, _ => ⟨rfl, rfl, fun _ => rfl⟩
  | r :: l, fl, b, p => by
    have e : allP (r :: l) = pagesR r ++ allP l := rfl
    rw [e, wrL_append]
    unfold wrAll
    by_cases h : (wrL fl b p (pagesR r)).1 = 0
    · rw [if_pos h, if_pos h, pagesR_len]
      have := wrAll_wrL l (wrL fl b p (pagesR r)).2 b (p + pgs r.length)
      refine ⟨this.1, this.2.1, fun h0 => ?_⟩
      rw [this.2.2 h0]
      simp only [sumP]
      omega
    · rw [if_neg h, if_neg h]
      exact ⟨rfl, rfl, fun h0 => absurd h0 h⟩
theorem selB_full (i : Nat) : selB 18446744073709551615 i = 255 := by
  unfold selB
  have h : i % 8 = 0 ∨ i % 8 = 1 ∨ i % 8 = 2 ∨ i % 8 = 3 ∨ i % 8 = 4 ∨ i % 8 = 5 ∨ i % 8 = 6 ∨ i % 8 = 7 := by omega
  rcases h with h | h | h | h | h | h | h | h <;> rw [h] <;> rfl
theorem tornE_sup (t : Nat) (l : Str) : Sup (tornE t l) l := by
  refine Sup.of_get (tornE_len t l) fun i hi => ?_
  have hi' : i < l.length := by rwa [tornE_len] at hi
  have h1 : (tornE t l).getD i 0 = l.getD i 0 ||| selB t i := by
    unfold tornE
    rw [List.getD_eq_getElem?_getD, List.getElem?_map, List.getElem?_range hi']
    rfl
  rw [h1]
  exact supB.or _ _
theorem tornE_full {l : Str} (h : l.length = 64) : tornE 18446744073709551615 l = blank := by
  have h1 : ∀ a : UInt8, a ||| 255 = 255 := fun a => by
    have h1 := supB_255 a
    unfold supB at h1
    apply UInt8.toNat_inj.1
    rw [UInt8.toNat_or, Nat.or_comm]
    exact h1
  unfold tornE blank
  rw [h]
  apply List.eq_replicate_iff.2
  refine ⟨by simp, fun x hx => ?_⟩
  obtain ⟨i, _, rfl⟩ := List.mem_map.1 hx
  rw [selB_full, h1]
def bump (f : Nat → Nat) (b : Nat) : Nat → Nat := fun c => if c = b then f b + 1 else f c
/-- What erasing a block leaves. -/
theorem eraseF_cases {fl : FL} {b : Nat} (ho : fl.off = false) (he : fl.er b < fl.E) (h64 : ∀ q, q < fl.P → (fl.pg b q).length = 64) :
    (∃ g, eraseF fl b = (0, g) ∧ g.off = false ∧ Same fl g ∧ g.er = bump fl.er b ∧ (∀ q, q < fl.P → g.pg b q = blank) ∧ (∀ c q, c ≠ b → g.pg c q = fl.pg c q) ∧ (fl.cut = false → g.cut = false)) ∨
    (fl.cut = true ∧ ∃ g, eraseF fl b = (16, g) ∧ g.off = true ∧ g.cut = false ∧ Same fl g ∧ g.er = bump fl.er b ∧ (∀ q, q < fl.P → Sup (g.pg b q) (fl.pg b q)) ∧ (∀ c q, c ≠ b → g.pg c q = fl.pg c q)) := by
  unfold eraseF
  rw [if_neg (by simp [ho]), if_neg (by omega)]
  cases hc : fl.cut
  · left
    rw [intF_c0 (show (fl.erd b (fl.er b + 1)).cut = false from hc)]
    refine ⟨_, rfl, ho, ⟨rfl, rfl, rfl, rfl⟩, rfl, fun q hq => ?_, fun c q hcb => ?_, fun _ => hc⟩
    · show (if b = b ∧ q < fl.P then tornE 18446744073709551615 (fl.pg b q) else fl.pg b q) = blank
      rw [if_pos ⟨rfl, hq⟩, tornE_full (h64 q hq)]
    · show (if c = b ∧ q < fl.P then tornE 18446744073709551615 (fl.pg c q) else fl.pg c q) = fl.pg c q
      rw [if_neg (fun k => hcb k.1)]
  · by_cases hl : 0 < fl.left
    · left
      rw [intF_c1 (show (fl.erd b (fl.er b + 1)).cut = true from hc) hl]
      refine ⟨_, rfl, ho, ⟨rfl, rfl, rfl, rfl⟩, rfl, fun q hq => ?_, fun c q hcb => ?_, fun h => absurd h (by simp)⟩
      · show (if b = b ∧ q < fl.P then tornE 18446744073709551615 (fl.pg b q) else fl.pg b q) = blank
        rw [if_pos ⟨rfl, hq⟩, tornE_full (h64 q hq)]
      · show (if c = b ∧ q < fl.P then tornE 18446744073709551615 (fl.pg c q) else fl.pg c q) = fl.pg c q
        rw [if_neg (fun k => hcb k.1)]
    · right
      rw [intF_c2 (show (fl.erd b (fl.er b + 1)).cut = true from hc) hl]
      refine ⟨rfl, _, rfl, rfl, rfl, ⟨rfl, rfl, rfl, rfl⟩, rfl, fun q hq => ?_, fun c q hcb => ?_⟩
      · show Sup (if b = b ∧ q < fl.P then tornE fl.torn (fl.pg b q) else fl.pg b q) (fl.pg b q)
        rw [if_pos ⟨rfl, hq⟩]
        exact tornE_sup _ _
      · show (if c = b ∧ q < fl.P then tornE fl.torn (fl.pg c q) else fl.pg c q) = fl.pg c q
        rw [if_neg (fun k => hcb k.1)]
end Go.Proofs.Ytfglopkglnpokaa
