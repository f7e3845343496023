/- Slices as arguments; help.Equal. Conditions: those that each theorem names. -/
import Derived.Deep.MidRow
import Derived.Test.YtdinbpdpalgohaaGreatDoorY16
import Derived.Test.YtdinbpdpalgohaaGreatDoorY15
namespace Go.Proofs.YtdinbpdpalgohaaGreatDoor
open Go.RowKit Go.ChangeShapes Go.WideShapes Go.ChangeAt Go.Deep
section
variable {H : Type} {enc : TypeId × Value → H} {w : World} {base : Nat} {spare : Nat → Bool} {held : Bool}
theorem open_list {α : Type} {t e n0 : Nat} (hu : Tryz.prog.underlying t = some (.slice e)) (hc : Tryz.prog.cellsOf e = n0) (hn0 : 0 < n0) (cf : α → List Value) (wf : α → Prop) (hcf : ∀ x, (cf x).length = n0)
    (hop : ∀ {fuel : Nat} {cs : List Value} {x : DataW H × List MemPlace}, DataW.trod enc Tryz.prog w base spare held fuel e cs = some x → ∃ c : α, wf c ∧ cs = cf c)
    {fuel : Nat} {cs : List Value} {x : DataW H × List MemPlace} (h : DataW.trod enc Tryz.prog w base spare held fuel t cs = some x) :
    ∃ (A : Option Addr) (len cap : Nat) (l : List α), cs = [.slice A len cap] ∧ l.length = len ∧ len ≤ cap ∧ cap ≤ maxLen ∧ (∀ c ∈ l, wf c) ∧ (l ≠ [] → ∃ b o, A = some ⟨b, o, none⟩ ∧ b < w.heap.size ∧ ∀ i c, l[i]? = some c → w.rangeAt b (o + i * n0) (cf c)) := by
  rcases open_slice hu h with ⟨rfl, _⟩ | ⟨a, len, cap, m, n, D, Pl, hcs, hb, hl, hm, hmm, hx, hi⟩
  · exact ⟨none, 0, 0, [], rfl, rfl, Nat.le_refl _, Nat.zero_le _, (fun c h => by cases h), fun h => absurd rfl h⟩
  · rw [hc] at hi
    have hlm : len ≤ m := by rw [hmm]; split <;> omega
    have hex : ∀ i : Nat, i < len → ∃ c : α, wf c ∧ ∀ j, j < n0 → w.cell? (a.add (i * n0 + j)) = (cf c)[j]? := by
      intro i hlt
      obtain ⟨cs', hc', ht⟩ := hi i (by omega)
      obtain ⟨c, hwf, rfl⟩ := hop ht
      obtain ⟨_, _, hat⟩ := World.cells?_some hc'
      exact ⟨c, hwf, fun j hj => by have := hat j hj; rw [add_add] at this; exact this⟩
    have hl' : ∃ l : List α, l.length = len ∧ ∀ i c, l[i]? = some c → wf c ∧ ∀ j, j < n0 → w.cell? (a.add (i * n0 + j)) = (cf c)[j]? := by
      clear hx hmm hcs h hi
      revert hex
      generalize len = k at hlm hl ⊢
      intro hex
      have : ∀ q, q ≤ k → ∃ l : List α, l.length = q ∧ ∀ i c, l[i]? = some c → wf c ∧ ∀ j, j < n0 → w.cell? (a.add (i * n0 + j)) = (cf c)[j]? := by
        intro q
        induction q with
        | zero => intro _; exact ⟨[], rfl, fun i c h => by simp at h⟩
        | succ q ih =>
          intro hq
          obtain ⟨l, hl, hp⟩ := ih (by omega)
          obtain ⟨c, hc⟩ := hex q (by omega)
          refine ⟨l ++ [c], by simp [hl], fun i x hx => ?_⟩
          by_cases hiq : i < q
          · rw [List.getElem?_append_left (by omega)] at hx
            exact hp i x hx
          · have hlt := (List.getElem?_eq_some_iff.1 hx).1
            have hi : i = q := by simp [hl] at hlt; omega
            subst hi
            rw [List.getElem?_append_right (by omega), hl] at hx
            simp at hx
            subst hx
            exact hc
      exact this k (Nat.le_refl _)
    obtain ⟨l, hll, hlp⟩ := hl'
    refine ⟨some a, len, cap, l, hcs, hll, hl, hm, fun c hc => ?_, fun hne => ?_⟩
    · obtain ⟨i, hi⟩ := List.getElem?_of_mem hc
      exact (hlp i c hi).1
    · obtain ⟨b, off, spot⟩ := a
      have hpos : 0 < l.length := List.length_pos_iff.2 hne
      have h0 := (hlp 0 l[0] (List.getElem?_eq_getElem hpos)).2 0 hn0
      have h1 : (cf l[0])[0]? = some ((cf l[0])[0]'(by rw [hcf]; exact hn0)) := List.getElem?_eq_getElem _
      rw [h1] at h0
      have hspot : spot = none := by simpa [Addr.add] using World.cell?_spot h0
      subst hspot
      refine ⟨b, off, rfl, by simpa [Addr.add] using World.block_lt_of_cell? w _ h0, fun i c hc j u hu => ?_⟩
      have hj : j < n0 := by have := (List.getElem?_eq_some_iff.1 hu).1; rw [hcf] at this; exact this
      have := (hlp i c hc).2 j hj
      rw [hu, Addr.add_mid] at this
      rw [show off + i * n0 + j = off + (i * n0 + j) by omega]
      exact this
end
def StrS (w : World) (a : Option Addr) (len cap : Nat) (l : List ByteArray) : Prop := l.length = len ∧ len ≤ cap ∧ cap ≤ maxLen ∧ (∀ s ∈ l, s.size ≤ maxLen) ∧ (l ≠ [] → ∃ b o, a = some ⟨b, o, none⟩ ∧ b < w.heap.size ∧ ∀ i s, l[i]? = some s → w.rangeAt b (o + i * 1) [.string s])
theorem StrS.at {w : World} {a : Option Addr} {len cap i : Nat} {l : List ByteArray} (h : StrS w a len cap l) (hi : i < len) : ∃ (b o : Nat) (s : ByteArray), a = some ⟨b, o, none⟩ ∧ b < w.heap.size ∧ l[i]? = some s ∧ s.size ≤ maxLen ∧ w.cell? ⟨b, o + i, none⟩ = some (.string s) := by
  obtain ⟨h1, h2, h3, h4, h5⟩ := h
  obtain ⟨b, o, e, hl, hr⟩ := h5 (by intro e; rw [e] at h1; simp at h1; omega)
  have hc : l[i]? = some l[i] := List.getElem?_eq_getElem (by omega)
  have := hr i _ hc
  have h0 := this 0 _ rfl
  rw [Nat.mul_one] at h0
  exact ⟨b, o, l[i], e, hl, hc, h4 _ (List.getElem_mem _), h0⟩
theorem clS : Tryz.prog.cellsOf 9 = 1 := by kernel_rfl
theorem open_strl {H : Type} {enc : TypeId × Value → H} {w : World} {base : Nat} {spare : Nat → Bool} {held : Bool} {fuel : Nat} {cs : List Value} {x : DataW H × List MemPlace} (h : DataW.trod enc Tryz.prog w base spare held fuel 37 cs = some x) :
    ∃ (A : Option Addr) (len cap : Nat) (l : List ByteArray), cs = [.slice A len cap] ∧ StrS w A len cap l := by
  obtain ⟨A, len, cap, l, h1, h2, h3, h4, h5, h6⟩ := open_list Tryz.underlying37 clS (by omega) (fun s => [.string s]) (fun s : ByteArray => s.size ≤ maxLen) (fun _ => rfl) (fun {fuel} {cs} {x} h => by
    obtain ⟨s, h, _, hs⟩ := DataW.trod_string Tryz.underlying9 h
    exact ⟨s, hs, h⟩) h
  exact ⟨A, len, cap, l, h1, h2, h3, h4, h5, h6⟩
theorem StrS.below {w w' : World} {a : Option Addr} {len cap B0 : Nat} {l : List ByteArray} (h : StrS w a len cap l) (hb : Below B0 w w') (hB : w.heap.size ≤ B0) : StrS w' a len cap l := by
  obtain ⟨h1, h2, h3, h4, h5⟩ := h
  refine ⟨h1, h2, h3, h4, fun hne => ?_⟩
  obtain ⟨b, o, e, hl, hr⟩ := h5 hne
  exact ⟨b, o, e, by have := hb.size; omega, fun i s hi j u hu => (hb.cell (p := ⟨b, o + i * 1 + j, none⟩) (by show b < B0; omega)).trans (hr i s hi j u hu)⟩
/-- A slice of integers as an argument. -/
def IntS (w : World) (a : Option Addr) (len cap : Nat) (l : List Int) : Prop := l.length = len ∧ len ≤ cap ∧ cap ≤ maxLen ∧ (∀ s ∈ l, -9223372036854775808 ≤ s ∧ s ≤ 9223372036854775807) ∧ (l ≠ [] → ∃ b o, a = some ⟨b, o, none⟩ ∧ b < w.heap.size ∧ ∀ i s, l[i]? = some s → w.rangeAt b (o + i * 1) [.int .i64 s])
theorem IntS.below {w w' : World} {a : Option Addr} {len cap B0 : Nat} {l : List Int} (h : IntS w a len cap l) (hb : Below B0 w w') (hB : w.heap.size ≤ B0) : IntS w' a len cap l := by
  obtain ⟨h1, h2, h3, h4, h5⟩ := h
  refine ⟨h1, h2, h3, h4, fun hne => ?_⟩
  obtain ⟨b, o, e, hl, hr⟩ := h5 hne
  exact ⟨b, o, e, by have := hb.size; omega, fun i s hi j u hu => (hb.cell (p := ⟨b, o + i * 1 + j, none⟩) (by show b < B0; omega)).trans (hr i s hi j u hu)⟩
theorem IntS.at {w : World} {a : Option Addr} {len cap i : Nat} {l : List Int} (h : IntS w a len cap l) (hi : i < len) : ∃ (b o : Nat) (s : Int), a = some ⟨b, o, none⟩ ∧ b < w.heap.size ∧ l[i]? = some s ∧ w.cell? ⟨b, o + i, none⟩ = some (.int .i64 s) := by
  obtain ⟨h1, h2, h3, h4, h5⟩ := h
  obtain ⟨b, o, e, hl, hr⟩ := h5 (by intro e; rw [e] at h1; simp at h1; omega)
  have hc : l[i]? = some l[i] := List.getElem?_eq_getElem (by omega)
  have h0 := hr i _ hc 0 _ rfl
  rw [Nat.mul_one] at h0
  exact ⟨b, o, l[i], e, hl, hc, h0⟩
theorem clInt : Tryz.prog.cellsOf 3 = 1 := by kernel_rfl
theorem open_ints {H : Type} {enc : TypeId × Value → H} {w : World} {base : Nat} {spare : Nat → Bool} {held : Bool} {fuel : Nat} {cs : List Value} {x : DataW H × List MemPlace} (h : DataW.trod enc Tryz.prog w base spare held fuel 36 cs = some x) :
    ∃ (A : Option Addr) (len cap : Nat) (l : List Int), cs = [.slice A len cap] ∧ IntS w A len cap l := by
  obtain ⟨A, len, cap, l, h1, h2, h3, h4, h5, h6⟩ := open_list Tryz.underlying36 clInt (by omega) (fun s => [.int .i64 s]) (fun s : Int => -9223372036854775808 ≤ s ∧ s ≤ 9223372036854775807) (fun _ => rfl) (fun {fuel} {cs} {x} h => by
    obtain ⟨s, h, _, hs⟩ := DataW.trod_int (k := .i64) Tryz.underlying3 h
    exact ⟨s, bounds_i64 hs, h⟩) h
  exact ⟨A, len, cap, l, h1, h2, h3, h4, h5, h6⟩
end Go.Proofs.YtdinbpdpalgohaaGreatDoor
namespace Go.Proofs.YtdinbpdpalgohaaGreatDoor
open Go.RowKit
attribute [local go_sem ↓] Ms.alloc26 Ms.load26n Ms.store26n
section
variable {w : World} {v1 v2 : Value}
set_option maxRecDepth 100000 in
set_option maxHeartbeats 1000000 in
theorem equalDg_same {l : List Str} (h1 : RdD w v1 l) (h2 : RdD w v2 l) (hl : ∀ d ∈ l, d.length = 32) : Calls Tryz.prog 22 #[v1, v2] w fun e w' => e = .returned (.bool true) ∧ Below w.heap.size w w' := by
  obtain ⟨a1, c1, rfl, x1, y1⟩ := h1.shape
  obtain ⟨a2, c2, rfl, x2, y2⟩ := h2.shape
  have H1 := Lib.hid h1
  have H2 := Lib.hid h2
  have HL := Lib.hid hl
  have HB0 : Hid (Below w.heap.size w w) := Below.refl _ _
  obtain ⟨L, hL⟩ : ∃ L, l.length = L := ⟨_, rfl⟩
  have HLL := Lib.hid hL
  rw [hL] at H1 H2 x1 x2 ⊢
  clear h1 h2 hl hL
  go_enter Tryz.func22, Tryz.ntmps22
  go_wp2_with fail
  go_loopw [5] (fun z wr => ∃ i : Nat, i ≤ L ∧ z = .int .i64 (i : Int) ∧ Hid (RdD wr (.slice a1 L c1) l) ∧ Hid (RdD wr (.slice a2 L c2) l) ∧ Hid (Below w.heap.size w wr)) (fun z _ => L - (intOf z).toNat)
  case atStart => exact ⟨0, by omega, rfl, H1, H2, HB0⟩
  case round =>
    clear H1 H2 HB0
    obtain ⟨i, hi, rfl, H1, H2, HB⟩ := hrel
    by_cases hlt : i < L
    · have y0 : (i : Int) < L := by omega
      have hil : i < l.length := by rw [HLL.out]; exact hlt
      obtain ⟨g1, o1, c', e, _, _, k1⟩ := H1.out.at hil
      rw [HLL.out] at e
      injection e with e1 _ e3
      subst e1 e3
      obtain ⟨g2, o2, c', e, _, _, k2⟩ := H2.out.at hil
      rw [HLL.out] at e
      injection e with e1 _ e3
      subst e1 e3
      have hd := HL.out _ (List.getElem_mem hil)
      generalize l[i] = d at *
      have hne : ∀ Y, (binOp .neq 31 (.agg (Ms.arr 32 (Ms.b8 (dgF d)))) (.agg (Ms.arr 32 (Ms.b8 (dgF d))))).run Tryz.prog Y = .ok (.bool false) Y := fun Y => by rw [neDg hd hd]; simp
      have S1 : Hid (Ms.ldN 32 wr.drew (.pointer (some ⟨g1, o1 + i * 32, none⟩)) = some (Ms.arr 32 (Ms.b8 (dgF d))) ∧ Ms.ldN 32 wr.drew (.pointer (some ⟨g2, o2 + i * 32, none⟩)) = some (Ms.arr 32 (Ms.b8 (dgF d)))) := ⟨by rw [Ms.ldN_drew]; exact k1, by rw [Ms.ldN_drew]; exact k2⟩
      clear k1 k2 hd hil
      go_wp2_with fail
      refine wp_region_pl (fun Y => Ms.ldN 32 Y (.pointer (some ⟨g1, o1 + i * 32, none⟩)) = some (Ms.arr 32 (Ms.b8 (dgF d))) ∧ Ms.ldN 32 Y (.pointer (some ⟨g2, o2 + i * 32, none⟩)) = some (Ms.arr 32 (Ms.b8 (dgF d)))) ((0, 0) :: (1, 0) :: (2, 0) :: (3, 0) :: (4, 0) :: (5, 0) :: (6, 0) :: (7, 0) :: (8, 0) :: []) (by kernel_rfl) (by kernel_rfl) ?_
      iterate 9 (apply wpP_go; (focus rfl); (focus rfl); (focus exact S1.out); (focus (rintro Y ⟨s0, s1⟩; go_simp; exact rfl)); intro K hK; go_simp; refine hK _ ?_; clear hK K)
      refine wpP_done ?_
      clear S1 hne
      have H1n : Hid (RdD wr.drew (.slice (some ⟨g1, o1, none⟩) L c1) l) := H1.out
      have H2n : Hid (RdD wr.drew (.slice (some ⟨g2, o2, none⟩) L c2) l) := H2.out
      have HBn : Hid (Below w.heap.size w wr.drew) := HB.out.drew
      clear H1 H2 HB
      generalize wr.drew = wn at *
      go_wp2_with fail
      go_roundw
      case rel => exact ⟨i + 1, by omega, by go_num, H1n, H2n, HBn⟩
      case measure => simp [intOf]; omega
    · have y0 : ¬ (i : Int) < L := by omega
      go_wp2_with fail
      go_ret
      exact ⟨rfl, HB.out⟩
end
/-- The law's own blocks are changed. -/
theorem BF.own {w w' : World} {N M S L n : Nat} {F C : Nat → Prop} {b : BM} (h : BF w N F M S L n b) (c : Ch C w w') (hC : ∀ k, C k → k < w.heap.size → F k ∧ 0 < k) : BF w' N F M S L n b := by
  obtain ⟨O, q1, q2⟩ := h
  exact ⟨O, q1.ch (c.mono (D := fun k => C k ∧ k < w.heap.size) fun i hi hl => ⟨hi, hl⟩) (fun k hk => ⟨(q2 k (hC k hk.1 hk.2).1).1, (hC k hk.1 hk.2).2⟩), fun k hk => ⟨(q2 k hk).1, Nat.lt_of_lt_of_le (q2 k hk).2 c.size⟩⟩
end Go.Proofs.YtdinbpdpalgohaaGreatDoor
