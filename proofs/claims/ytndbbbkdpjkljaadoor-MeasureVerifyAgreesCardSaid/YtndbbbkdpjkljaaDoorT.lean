/- The calls of a law: read; large; measured. Condition: sizes. -/
import Derived.Test.YtndbbbkdpjkljaaDoorS
namespace Go.Proofs.YtndbbbkdpjkljaaDoor
open Go.RowKit
attribute [local go_sem ↓] alloc26 load26n store26n
attribute [local go_sem] stN_uc stN_b8 set_new fold_drew ldN_drew ldN_drewN stN_drew stN_drewN

/-- A call: its register, text and data; whether it is raw. -/
structure Cl where
  r : Int
  t : ByteArray
  s : ByteArray
  raw : Bool
def clc (c : Cl) : List Value := [.int .i64 c.r, .string c.t, .string c.s, .bool c.raw]
/-- The slice reads as these calls. -/
def CallS (w : World) (a : Option Addr) (len cap : Nat) (l : List Cl) : Prop := l.length = len ∧ len ≤ cap ∧ cap ≤ maxLen ∧ (∀ c ∈ l, c.t.size ≤ maxLen ∧ c.s.size ≤ maxLen ∧ -9223372036854775808 ≤ c.r ∧ c.r ≤ 9223372036854775807) ∧ (l ≠ [] → ∃ b o, a = some ⟨b, o, none⟩ ∧ b < w.heap.size ∧ ∀ i c, l[i]? = some c → w.rangeAt b (o + i * 4) (clc c))
theorem CallS.below {w w' : World} {a : Option Addr} {len cap B0 : Nat} {l : List Cl} (h : CallS w a len cap l) (hb : Below B0 w w') (hB : w.heap.size ≤ B0) : CallS w' a len cap l := by
  obtain ⟨h1, h2, h3, h4, h5⟩ := h
  refine ⟨h1, h2, h3, h4, fun hne => ?_⟩
  obtain ⟨b, o, rfl, hl, hr⟩ := h5 hne
  exact ⟨b, o, rfl, by have := hb.size; omega, fun i e he => rangeAt_below (hr i e he) hb (by omega)⟩
/-- What a walk reads of call i. -/
theorem CallS.at {w : World} {a : Option Addr} {len cap i : Nat} {l : List Cl} (h : CallS w a len cap l) (hi : i < len) : ∃ (b o : Nat) (c : Cl), a = some ⟨b, o, none⟩ ∧ b < w.heap.size ∧ l[i]? = some c ∧ c ∈ l ∧ c.t.size ≤ maxLen ∧ c.s.size ≤ maxLen ∧ w.rangeAt b (o + i * 4) (clc c) := by
  obtain ⟨h1, h2, h3, h4, h5⟩ := h
  obtain ⟨b, o, rfl, hl, hr⟩ := h5 (by intro h; subst h; simp at h1; omega)
  have hx : l[i]? = some (l[i]'(by omega)) := List.getElem?_eq_getElem _
  have hm := List.mem_of_getElem? hx
  exact ⟨b, o, _, rfl, hl, hx, hm, (h4 _ hm).1, (h4 _ hm).2.1, hr i _ hx⟩
theorem clc_cells {X : World} {b o : Nat} {c : Cl} (h : X.rangeAt b o (clc c)) : X.cell? ⟨b, o, none⟩ = some (.int .i64 c.r) ∧ X.cell? ⟨b, o + 1, none⟩ = some (.string c.t) ∧ X.cell? ⟨b, o + 2, none⟩ = some (.string c.s) ∧ X.cell? ⟨b, o + 3, none⟩ = some (.bool c.raw) :=
  ⟨by simpa using h 0 _ rfl, h 1 _ rfl, h 2 _ rfl, h 3 _ rfl⟩

/-- A call is larger than the laws consider. -/
def bigC (c : Cl) : Bool := decide (100 < c.t.size) || decide (100 < c.s.size)
def lg (l : List Cl) : Bool := l.any bigC || decide (12 < l.length)
theorem lg_no {l : List Cl} (h : lg l = false) : l.length ≤ 12 ∧ ∀ c ∈ l, c.t.size ≤ 100 ∧ c.s.size ≤ 100 := by
  unfold lg bigC at h
  simp only [Bool.or_eq_false_iff, List.any_eq_false, decide_eq_false_iff_not] at h
  refine ⟨by omega, fun c hc => ?_⟩
  have := h.1 c hc
  simp at this
  omega
theorem take_any (l : List Cl) (i : Nat) (c : Cl) (h : l[i]? = some c) : (l.take (i + 1)).any bigC = ((l.take i).any bigC || bigC c) := by
  have hi := (List.getElem?_eq_some_iff.1 h).1
  rw [List.take_succ_eq_append_getElem hi, List.any_append]
  have : l[i] = c := (List.getElem?_eq_some_iff.1 h).2
  simp [this]
theorem any_take (l : List Cl) (i : Nat) (h : (l.take i).any bigC = true) : l.any bigC = true := by
  obtain ⟨c, hc, hb⟩ := List.any_eq_true.1 h
  exact List.any_eq_true.2 ⟨c, List.mem_of_mem_take hc, hb⟩
set_option maxHeartbeats 1000000 in
theorem large_any (a : Option Addr) (len cap : Nat) (l : List Cl) (w : World) (h : CallS w a len cap l) :
    Calls Tryd.prog 19 #[.slice a len cap] w fun e w' => e = .returned (.bool (lg l)) ∧ w = w' := by
  have HC := Lib.hid h
  have hlen : len ≤ 9223372036854775807 := by have h1 := h.2.1; have h2 := h.2.2.1; unfold maxLen at h2; omega
  clear h
  go_enter Tryd.func19, Tryd.ntmps19
  go_wp2_with fail
  go_loop [3] (fun x => ∃ i : Nat, i ≤ len ∧ x = .int .i64 i ∧ Hid ((l.take i).any bigC = false)) (fun x => len - (intOf x).toNat)
  case atStart => exact ⟨0, by omega, rfl, (by simp : (l.take 0).any bigC = false)⟩
  case round =>
    obtain ⟨i, hi, rfl, hq⟩ := hrel
    by_cases hlt : i < len
    · obtain ⟨b, o, c, rfl, hbl, hc, hm, ht, hs, hr⟩ := HC.out.at hlt
      obtain ⟨c0, c1, c2, c3⟩ := clc_cells hr
      have hta := take_any l i c hc
      have HTA := Lib.hid hta
      have Hc := Lib.hid hc
      unfold maxLen at ht hs
      clear c0 c3 hr hta hc
      have z0 : (i : Int) < len := by omega
      by_cases h1 : 100 < c.t.size
      · have d1 : decide ((c.t.size : Int) > 100) = true := by simp; omega
        have hfin : Hid (lg l = true) := by
          show lg l = true
          unfold lg
          rw [any_take l (i + 1) (by rw [HTA.out]; simp [bigC, h1])]; rfl
        go_wp2_with fail
        go_ret
        exact ⟨by rw [hfin.out]; rfl, rfl⟩
      · have d1 : decide ((c.t.size : Int) > 100) = false := by simp; omega
        by_cases h2 : 100 < c.s.size
        · have d2 : decide ((c.s.size : Int) > 100) = true := by simp; omega
          have hfin : Hid (lg l = true) := by
            show lg l = true
            unfold lg
            rw [any_take l (i + 1) (by rw [HTA.out]; simp [bigC, h2])]; rfl
          go_wp2_with fail
          go_ret
          exact ⟨by rw [hfin.out]; rfl, rfl⟩
        · have d2 : decide ((c.s.size : Int) > 100) = false := by simp; omega
          have hnx : Hid ((l.take (i + 1)).any bigC = false) := by
            show (l.take (i + 1)).any bigC = false
            rw [HTA.out, hq.out]; simp [bigC]; omega
          go_wp2_with fail
          go_round
          case rel => exact ⟨i + 1, by omega, by go_num, hnx⟩
          case measure => simp [intOf]; omega
    · have z0 : ¬ (i : Int) < len := by omega
      have hfin : Hid (lg l = decide ((12 : Int) < len)) := by
        show lg l = decide ((12 : Int) < len)
        have h1 := HC.out.1
        have h2 := hq.out
        rw [List.take_of_length_le (by omega)] at h2
        unfold lg
        rw [h2, h1, Bool.false_or]
        exact decide_eq_decide.2 (by omega)
      go_wp2_with fail
      go_ret
      exact ⟨by rw [hfin.out]; rfl, rfl⟩

/-- What a measurement adds. -/
def mev (r : Int) (t s : ByteArray) : List Ev := if t.size ≤ 64 then [⟨r, sumD s.data.toList, t⟩] else []
def mcode (t : ByteArray) : Int := if t.size ≤ 64 then 0 else 1
theorem mev_len (r : Int) (t s : ByteArray) : (mev r t s).length ≤ 1 := by unfold mev; split <;> simp
theorem measure_each (base B r : Nat) (es : List Ev) (t s : ByteArray) (w : World) (hr : r < 8) (hes : es.length < 256) (hs : s.size ≤ 1073741824) (hR : Rnd w) (h0 : 0 < base) (h : LOG w base B es) :
    Calls Tryd.prog 24 #[.pointer (some ⟨B, 0, none⟩), .int .i64 (r : Int), .string t, .string s] w fun e w' => e = .returned (.int .i64 (mcode t)) ∧ LOG w' base B (es ++ mev r t s) ∧ Below base w w' := by
  by_cases ht : t.size ≤ 64
  · have := measure_ok base B r es t s w hr ht hes hs hR h0 h
    unfold mcode mev
    rw [if_pos ht, if_pos ht]
    exact this
  · have := measure_long B r t s w (by omega)
    unfold mcode mev
    rw [if_neg ht, if_neg ht, List.append_nil]
    exact this.mono fun e w' ⟨he, hw⟩ => by subst hw; exact ⟨he, h, Below.refl _ _⟩
/-- The events of the measurements of these calls. -/
def mea (l : List Cl) : List Ev := l.flatMap fun c => mev ((mo c.r 8 : Nat) : Int) c.t c.s
theorem mea_len (l : List Cl) : (mea l).length ≤ l.length := by
  induction l with
  | nil => simp [mea]
  | cons c r ih =>
    have := mev_len ((mo c.r 8 : Nat) : Int) c.t c.s
    simp only [mea, List.flatMap_cons, List.length_append, List.length_cons] at ih ⊢
    omega
theorem mea_succ (l : List Cl) (i : Nat) (c : Cl) (h : l[i]? = some c) : mea (l.take i) ++ mev ((mo c.r 8 : Nat) : Int) c.t c.s = mea (l.take (i + 1)) := by
  have hi := (List.getElem?_eq_some_iff.1 h).1
  have e : l[i] = c := (List.getElem?_eq_some_iff.1 h).2
  rw [List.take_succ_eq_append_getElem hi, e]
  simp [mea]
set_option maxRecDepth 100000 in
set_option maxHeartbeats 2000000 in
theorem measured_any (a : Option Addr) (len cap : Nat) (l : List Cl) (w : World) (h : CallS w a len cap l) (hn : len ≤ 200) (hsm : ∀ c ∈ l, c.s.size ≤ 1073741824) (hR : Rnd w) (h0 : 0 < w.heap.size) :
    Calls Tryd.prog 32 #[.slice a len cap] w fun e w' => e = .returned (.pointer (some ⟨w.heap.size, 0, none⟩)) ∧ LOG w' w.heap.size w.heap.size (mea l) ∧ Below w.heap.size w w' := by
  have HC := Lib.hid h
  have HR := Lib.hid hR
  have HS := Lib.hid hsm
  have hlc : len ≤ cap := h.2.1
  clear h hR hsm
  go_enter Tryd.func32, Tryd.ntmps32
  go_wp2_with fail
  refine (new_any _).mono ?_
  rintro e w1 ⟨rfl, hL1, hb1⟩
  have q0 : Hid (LOG w1 w.heap.size w.heap.size (mea (l.take 0))) := log_new (Nat.le_refl _) hL1
  have B1 := Lib.hid hb1
  clear hL1 hb1
  go_wp2_with fail
  go_loopw [4] (fun x wr => ∃ i : Nat, i ≤ len ∧ x = .int .i64 i ∧ Hid (LOG wr w.heap.size w.heap.size (mea (l.take i))) ∧ Hid (Below w.heap.size w wr)) (fun x _ => len - (intOf x).toNat)
  case atStart => exact ⟨0, by omega, rfl, q0, B1⟩
  case round =>
    clear q0 B1
    obtain ⟨i, hi, rfl, hq, hb⟩ := hrel
    have hsz := hb.out.size
    by_cases hlt : i < len
    · obtain ⟨b, o, c, rfl, hbl, hc, hm, ht, hs, hr⟩ := (HC.out.below hb.out (Nat.le_refl _)).at hlt
      have z0 : (i : Int) < len := by omega
      have hcs := HS.out c hm
      have hbw : b < w.heap.size := by
        obtain ⟨_, _, _, _, h5⟩ := HC.out
        obtain ⟨b', o', e, hl', _⟩ := h5 (by intro h; subst h; simp at hc)
        injection e with e
        have : b = b' := congrArg Addr.block e
        omega
      have HMS := Lib.hid (mea_succ l i c hc)
      have hml : (mea (l.take i)).length < 256 := by have := mea_len (l.take i); have := List.length_take_le i l; omega
      have S0 := Lib.hid (clc_cells ((World.rangeAt_drew _ _ _ _).2 hr))
      have hr8 := mo_lt c.r 8 (by omega)
      have HCa : Hid (Calls Tryd.prog 24 #[.pointer (some ⟨w.heap.size, 0, none⟩), .int .i64 ((mo c.r 8 : Nat) : Int), .string c.t, .string c.s] wr.drew fun e w' => e = .returned (.int .i64 (mcode c.t)) ∧ LOG w' w.heap.size w.heap.size (mea (l.take (i + 1))) ∧ Below w.heap.size wr.drew w') := by
        have := measure_each w.heap.size w.heap.size (mo c.r 8) (mea (l.take i)) c.t c.s wr.drew hr8 hml hcs (HR.out.below hb.out.drew h0) h0 (hq.out.below ((Below.refl _ _).drew (B := wr.heap.size)) (Nat.le_refl _))
        rw [HMS.out] at this
        exact this
      have hr0 := Lib.hid hr
      clear hr
      go_wp2_with fail
      refine wp_region_pl (fun X => X.cell? ⟨b, o + i * 4, none⟩ = some (.int .i64 c.r) ∧ X.cell? ⟨b, o + i * 4 + 1, none⟩ = some (.string c.t) ∧ X.cell? ⟨b, o + i * 4 + 2, none⟩ = some (.string c.s) ∧ X.cell? ⟨b, o + i * 4 + 3, none⟩ = some (.bool c.raw))
        ((0, 0) :: (1, 0) :: (2, 0) :: (3, 0) :: (4, 0) :: (5, 0) :: (6, 0) :: (7, 0) :: (8, 0) :: (9, 0) :: (10, 0) :: (11, 0) :: (12, 0) :: (13, 0) :: (14, 0) :: (15, 0) :: (16, 0) :: (17, 1) :: []) (by kernel_rfl) (by kernel_rfl) ?_
      iterate 6 (apply wpP_go; (focus rfl); (focus rfl); (focus exact S0.out); (focus (rintro X ⟨s0, s1, s2, s3⟩; go_simp; exact rfl)); intro K hK; go_simp; refine hK _ ?_; clear hK K)
      apply wpP_call
      focus rfl
      focus rfl
      focus exact S0.out
      focus
        rintro X ⟨s0, s1, s2, s3⟩
        go_simp
        exact ⟨rfl, rfl⟩
      focus
        intro X _
        exact mod_any c.r 8 X (by omega) (by omega)
      intro K hK
      go_simp
      refine hK _ ?_
      clear hK K
      iterate 10 (apply wpP_go; (focus rfl); (focus rfl); (focus exact S0.out); (focus (rintro X ⟨s0, s1, s2, s3⟩; go_simp; exact rfl)); intro K hK; go_simp; refine hK _ ?_; clear hK K)
      apply wpP_one
      focus rfl
      intro K hK
      go_simp
      refine HCa.out.mono ?_
      rintro e w2 ⟨rfl, hL2, hb2⟩
      have q2 := Lib.hid hL2
      have B2 : Hid (Below w.heap.size w w2) := hb.out.drew.trans hb2
      have S2 := Lib.hid (clc_cells (rangeAt_below ((World.rangeAt_drew _ _ _ _).2 hr0.out) hb2 hbw))
      clear hL2 hb2 HCa
      refine hK _ _ S2.out ?_
      clear hK K
      refine wpP_done ?_
      go_wp2_with fail
      exact ⟨⟨i + 1, by omega, by go_num, q2, B2⟩, by simp [intOf]; omega⟩
    · have z0 : ¬ (i : Int) < len := by omega
      have hfin : Hid (LOG wr w.heap.size w.heap.size (mea l)) := by
        have h1 := hq.out
        rw [List.take_of_length_le (by have := HC.out.1; omega)] at h1
        exact h1
      go_wp2_with fail
      go_ret
      exact ⟨rfl, hfin.out, hb.out⟩
end Go.Proofs.YtndbbbkdpjkljaaDoor
