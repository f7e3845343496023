/- Expire: the walk. Condition: sizes; each thread that waits waits for an object that is there. -/
import Derived.Test.YtefgfmnnaglfmaaX2
import Derived.Test.YtefgfmnnaglfmaaQ3
namespace Go.Proofs.Ytefgfmnnaglfmaa
open Go.RowKit
section
variable {w : World} {F : Nat → Prop} {L n : Nat} {s : LK} {y : Lay}
theorem OK.less {F' : Nat → Prop} (h : OK w F' L n s y) (hF : ∀ k, F k → F' k) : OK w F L n s y :=
  ⟨h.top, h.mo, h.mt, h.ne, fun hf => h.lL (hF _ hf), fun hf => h.lo (hF _ hf), fun hf => h.lt (hF _ hf), h.rL, h.rmo, h.rmt, fun k hk => h.low k (hF k hk), fun k hk => h.fin k (hF k hk),
    (fun i x hx => by obtain ⟨a, b, d, e, f⟩ := h.obj i x hx; exact ⟨fun hf => a (hF _ hf), b, ⟨d.1, fun g hg hf => d.2 g hg (hF _ hf)⟩, e, f⟩), (fun i x hx => by obtain ⟨a, b, d, e, f⟩ := h.thr i x hx; exact ⟨fun hf => a (hF _ hf), b, ⟨d.1, fun g hg hf => d.2 g hg (hF _ hf)⟩, e, f⟩)⟩
section
variable {wr w1 : World} {now : Int} {r : Nat} {D : DataW Value} {E : List Int} {v : Value} {left : Lit → Bool} {cnt cnt1 : Nat}
theorem RX.at1 (h : RX w wr y s now r n D E v left cnt) (hr : w.heap.size ≤ r) (hg : wr.grownBy w1 (some r)) : Below w.heap.size w w1 ∧ QR w1 noG v E := by
  refine ⟨Below.grown h.bel hg h.bel.size (fun k hk => by injection hk with hk; omega), h.row.ch (C := fun k => k = r) (Ch.of_grown hg (fun k hk _ => by injection hk with hk; exact hk.symm)) (fun g hg e => h.it (by rw [hg, e]))⟩
theorem same_i (i x : Int) : (Lit.int .i64 i).sameKey (.int .i64 x) = decide (i = x) := by simp [Lit.sameKey]
theorem RX.skip {x : Int} (h : RX w wr y s now r n D E v left cnt) (hr : w.heap.size ≤ r) (hg : wr.grownBy w1 (some r)) (hrg : w1.ranges Try.prog 3 RV y.mt r n D (fun z => left z && !z.sameKey (.int .i64 x)) cnt1) (hlt : cnt1 < cnt) (hx : exB s now x = false) :
    RX w w1 y s now r n D E v (fun z => left z && !z.sameKey (.int .i64 x)) cnt1 := by
  obtain ⟨a, b⟩ := h.at1 hr hg
  refine ⟨hrg, b, h.new, a, h.nd, fun i => ?_, by have := h.len; omega⟩
  rw [h.mem i, same_i]
  by_cases e : i = x
  · subst e; simp [hx]
  · simp [e]
theorem RX.take {x : Int} {w3 : World} {g cap : Nat} (h : RX w wr y s now r n D E v left cnt) (hr : w.heap.size ≤ r) (hm : y.mt < w.heap.size) (hg : wr.grownBy w1 (some r)) (hrg : w1.ranges Try.prog 3 RV y.mt r n D (fun z => left z && !z.sameKey (.int .i64 x)) cnt1) (hlt : cnt1 < cnt) (hx : exB s now x = true) (hlx : left (.int .i64 x) = true)
    (ho : w3.ownsRow 0 3 1 (.slice (some ⟨g, 0, none⟩) (E.length + 1) cap) (E.length + 1) (E.map (Value.int .i64) ++ [.int .i64 x])) (hg3 : (w1.alloc (.cells #[.int .i64 x] 3)).grownBy w3 v.ownBlock) (hat : v.ownBlock = some g ∨ g = w1.heap.size + 1) :
    RX w w3 y s now r n D (E ++ [x]) (.slice (some ⟨g, 0, none⟩) (E.length + 1) cap) (fun z => left z && !z.sameKey (.int .i64 x)) cnt1 := by
  obtain ⟨a, b⟩ := h.at1 hr hg
  have hxE : x ∉ E := fun hc => by have := (h.mem x).1 hc; rw [hlx] at this; cases this.2
  refine ⟨(hrg.alloc _).kept hg3 (fun e => ?_) (fun e => h.it e.symm), ⟨by rw [List.length_append, List.map_append]; exact ho, fun _ _ h => h⟩, fun k hk => ?_, Below.grown (a.alloc a.size _) hg3 (by have := a.size; simp; omega) (fun k hk => h.new k hk), ?_, fun i => ?_, ?_⟩
  · have := h.new _ e.symm; omega
  · have e : g = k := by simpa [Value.ownBlock] using hk
    subst e
    rcases hat with h1 | h1
    · exact h.new g h1
    · have := a.size; omega
  · rw [List.nodup_append]
    refine ⟨h.nd, by simp, fun a ha b hb => ?_⟩
    rw [List.mem_singleton.1 hb]
    intro e; exact hxE (e ▸ ha)
  · rw [List.mem_append, h.mem i, same_i, List.mem_singleton]
    by_cases e : i = x
    · subst e; simp [hx]
    · simp [e]
  · have := h.len; simp; omega
end
theorem OK.adoptO {w' : World} {v : Value} (h : OK w F L n s y) (hb : Below w.heap.size w w') (h1 : ∀ g, v.ownBlock = some g → w.heap.size ≤ g) (h2 : ∀ g, v.ownBlock = some g → g < w'.heap.size) : ∃ y', OK w' (fun k => F k ∨ v.ownBlock = some k) L n s y' := by
  rcases hv : v.ownBlock with _ | g
  · exact ⟨y, (h.below hb).less (fun k hk => hk.elim id (fun e => by cases e))⟩
  · obtain ⟨y', h'⟩ := h.adopt (Ch.of_below hb _) (h1 g hv) (h2 g hv)
    exact ⟨y', h'.less (fun k hk => hk.imp id (fun e => by injection e with e; exact e.symm))⟩
theorem expire_end {v : Value} {w2 w3 : World} {s' : LK} (hb : Below w.heap.size w w2) (h : PO w2 (fun k => F k ∨ v.ownBlock = some k) L n s' w3) : PO w F L n s' w3 := by
  obtain ⟨⟨y', h1⟩, h2⟩ := h
  exact ⟨⟨y', h1.less (fun k hk => .inl hk)⟩, (Keep.of hb).trans (Ch.mono h2 (fun i hi _ hf => hi (.inl hf)))⟩
theorem exB_some {now i : Int} (h : exB s now i = true) : ∃ t, s.t i = some t ∧ t.st = 2 := by
  unfold exB at h
  rcases ht : s.t i with _ | t
  · rw [ht] at h; cases h
  · rw [ht] at h; simp at h; exact ⟨t, rfl, h.1⟩
theorem expS_snoc (l : List Int) (i : Int) : expS s (l ++ [i]) = stopS (expS s l) i 3 := by simp [expS]
theorem expS_t (l : List Int) {i : Int} (h : i ∉ l) : (expS s l).t i = s.t i := by
  induction l generalizing s with
  | nil => rfl
  | cons a r ih =>
    have h1 : i ≠ a := fun e => h (by simp [e])
    show (expS (stopS s a 3) r).t i = _
    rw [ih (fun hc => h (List.mem_cons_of_mem _ hc))]
    simp [stopS, LK.upT, LK.upO, LK.setT, LK.setO, h1]
theorem expS_o (l : List Int) {b : Int} {x : Ob} (h : s.o b = some x) : ∃ x', (expS s l).o b = some x' ∧ x'.q.length ≤ x.q.length := by
  induction l generalizing s x with
  | nil => exact ⟨x, h, Nat.le_refl _⟩
  | cons a r ih =>
    show ∃ x', (expS (stopS s a 3) r).o b = some x' ∧ _
    by_cases e : b = (stT s a).ob
    · obtain ⟨x', h1, h2⟩ := ih (s := stopS s a 3) (x := { x with q := x.q.erase a }) (by subst e; simp [stopS, LK.upT, LK.upO, LK.setT, LK.setO, h])
      exact ⟨x', h1, Nat.le_trans h2 (List.length_erase_le ..)⟩
    · exact ih (s := stopS s a 3) (x := x) (by simp [stopS, LK.upT, LK.upO, LK.setT, LK.setO, e, h])
set_option maxRecDepth 100000 in
set_option maxHeartbeats 2000000 in
theorem expire_any {now : Int} (h : OK w F L n s y) (hn : n ≤ 1000) (hob : ∀ i t, s.t i = some t → t.st = 2 → InI t.ob ∧ ∃ x, s.o t.ob = some x ∧ x.q.length ≤ 1000) (hti : ∀ i t, s.t i = some t → InI i) :
    Calls Try.prog 22 #[ptr L, .int .u64 now] w fun e w' => ∃ v E, e = .returned v ∧ E.Pairwise (· ≤ ·) ∧ E.Nodup ∧ (∀ i, i ∈ E ↔ exB s now i = true) ∧ QR w' noG v E ∧ (∀ g, v.ownBlock = some g → w.heap.size ≤ g) ∧ PO w F L n (expS s E) w' := by
  obtain ⟨D, hown, hat, hhas⟩ := h.mt
  have HD := Lib.hid hown
  have HAT := Lib.hid hat
  have HHAS := Lib.hid hhas
  have H0 := Lib.hid h
  have c1 := h.c1
  have hmtl : y.mt < w.heap.size := h.mt.lt
  have hsz := hown.size_le
  have HOB := Lib.hid hob
  have HTI := Lib.hid hti
  clear hown hat hhas h hob hti
  obtain ⟨i0, hi0, hz0, hz1, hz2⟩ := info_parts Try.info3
  go_enter Try.func22, Try.ntmps22
  go_wp2_with (at_range; refine wpList_range_own _ rfl _ 54 rfl 3 65 law3 Try.underlying54 RV y.mt n D rfl (by exact HD.out) ?_)
  intro w0 hrg0 hg0 hs0
  have R0 : Hid (RX w w0 y s now w.heap.size n D [] (.slice none 0 0) (Maps.has D) (Maps.size D)) := by
    refine ⟨hrg0, QR.nil _ _, (fun g hg => by cases hg), ⟨hg0.os, hg0.tape, hg0.output, hg0.size, fun k hk => hg0.block k hk (by simp)⟩, List.nodup_nil, fun i => ?_, by simpa using hsz⟩
    refine ⟨(fun hm => by cases hm), ?_⟩
    rintro ⟨h1, h2⟩
    exfalso
    have h3 := HAT.out i
    rw [Maps.atKey_of_not_has h2] at h3
    injection h3 with h3
    unfold exB at h1
    rcases ht : s.t i with _ | t
    · rw [ht] at h1; cases h1
    · rw [ft_some ht] at h3; injection h3 with h3; cases h3
  clear hrg0 hg0
  generalize hr : w.heap.size = r at R0 ⊢
  go_wp2_with fail
  go_loopw [5] (fun v wr => ∃ (left : Lit → Bool) (cnt : Nat) (E : List Int), Hid (RX w wr y s now r n D E v left cnt)) (fun _ wr => wr.rangeLeft y.mt r)
  case atStart => exact ⟨_, _, _, R0⟩
  case round =>
    clear R0
    obtain ⟨left, cnt, E, RR⟩ := hrel
    go_wp2_with (at_next; refine wpList_next_ranges _ rfl _ rfl 3 law3 RV (Value.int .i64) (fun v => v) invK (fun v _ _ => ⟨v, rfl⟩) y.mt r n D left cnt rfl (by exact RR.out.rg) ?_ ?_)
    · intro hc0 hl0
      have hmem : ∀ i, i ∈ E ↔ exB s now i = true := fun i => by rw [RR.out.mem i]; simp [hl0]
      have hEl : E.length ≤ 1000 := by have := RR.out.len; omega
      have HS := Lib.hid (sort_call RR.out.row hEl)
      go_wp2_with fail
      refine HS.out.mono ?_
      rintro e w2 ⟨rfl, E', hp, hpw, hq2, hch⟩
      have hnd : E'.Nodup := hp.nodup_iff.2 RR.out.nd
      have hm' : ∀ i, i ∈ E' ↔ exB s now i = true := fun i => by rw [hp.mem_iff]; exact hmem i
      have hl' : E'.length ≤ 1000 := by rw [hp.length_eq]; exact hEl
      have hb2 : Below w.heap.size w w2 := RR.out.bel.trans (hch.below RR.out.bel.size RR.out.new)
      have hnew := RR.out.new
      obtain ⟨y2, hOK2⟩ := H0.out.adoptO hb2 hnew (fun g hg => (hq2.lt g hg).2)
      have HP2 : Hid (PO w2 (fun k => F k ∨ u5.ownBlock = some k) L n (expS s ([] : List Int)) w2) := ⟨⟨y2, hOK2⟩, Keep.refl _ _⟩
      have HM := Lib.hid hm'
      have HND := Lib.hid hnd
      have HPW := Lib.hid hpw
      have HB2 := Lib.hid hb2
      have HNEW := Lib.hid hnew
      have HQ := Lib.hid hq2
      clear HS RR hmem hEl hp hnd hm' hpw hb2 hnew hOK2 HD HAT HHAS hch
      rcases hq2.cases with ⟨rfl, rfl⟩ | ⟨g, cap, rfl⟩
      · clear hq2
        go_wp2_with fail
        go_loopw [48] (fun v wr => v = .int .i64 0 ∧ w2 = wr) (fun _ _ => 0)
        case atStart => exact ⟨rfl, rfl⟩
        case round =>
          obtain ⟨rfl, rfl⟩ := hrel
          go_wp2_with fail
          go_ret
          exact ⟨_, [], rfl, HPW.out, HND.out, HM.out, HQ.out, HNEW.out, expire_end HB2.out HP2.out⟩
      · clear hq2
        generalize hm : E'.length = m at *
        go_wp2_with fail
        go_loopw [48] (fun v wr => ∃ j : Nat, v = .int .i64 (j : Int) ∧ j ≤ m ∧ Hid (PO w2 (fun k => F k ∨ (Value.slice (some ⟨g, 0, none⟩) m cap).ownBlock = some k) L n (expS s (E'.take j)) wr)) (fun v _ => match v with | .int _ j => (m : Int) - j |>.toNat | _ => 0)
        case atStart => exact ⟨0, rfl, Nat.zero_le _, HP2⟩
        case round =>
          obtain ⟨j, rfl, hj, HPj⟩ := hrel
          have hQj := HQ.out.ch HPj.out.2 (fun g hg hn => hn (.inr hg))
          obtain ⟨hxx, hcap, hcm, hcell, _⟩ := hQj.cell
          rw [hm] at hcap
          clear hxx
          have HQj := Lib.hid hQj
          clear hQj
          by_cases hjm : j < m
          · have hc := hcell j (by omega)
            have hj' : j < E'.length := by omega
            obtain ⟨i, hi⟩ : ∃ i, E'.getD j 0 = i := ⟨_, rfl⟩
            rw [hi, Nat.zero_add] at hc
            have hiE : E'[j] = i := by rw [← hi]; simp [hj']
            have hin : i ∈ E' := by rw [← hiE]; exact List.getElem_mem hj'
            obtain ⟨t, ht, ht2⟩ := exB_some ((HM.out i).1 hin)
            have hni : i ∉ E'.take j := by
              intro hc
              obtain ⟨k, hk, hk2⟩ := List.mem_iff_getElem.1 hc
              rw [List.getElem_take] at hk2
              have hkj : k < j := by simp at hk; omega
              exact List.pairwise_iff_getElem.1 HND.out k j (by omega) hj' hkj (by rw [hk2, hiE])
            obtain ⟨hIo, x, hx, hxl⟩ := HOB.out i t ht ht2
            obtain ⟨⟨yj, hOj⟩, hKj⟩ := HPj.out
            obtain ⟨x', hx', hxl'⟩ := expS_o (E'.take j) hx
            have HC := Lib.hid (stop_any (st := 3) hOj (HTI.out i t ht) (by rw [expS_t _ hni]; exact ht) hIo hx' (by omega))
            have htk : E'.take (j + 1) = E'.take j ++ [i] := by rw [List.take_add_one, List.getElem?_eq_getElem hj', hiE]; rfl
            have hjI : (j : Int) < (m : Int) := by omega
            have hmI : (m : Int) ≤ 1000 := by omega
            clear hcell hOj
            go_wp2_with fail
            refine HC.out.mono ?_
            rintro e w3 ⟨rfl, hP3⟩
            have HP3 : Hid (PO w2 (fun k => F k ∨ (Value.slice (some ⟨g, 0, none⟩) m cap).ownBlock = some k) L n (expS s (E'.take (j + 1))) w3) := by
              rw [htk, expS_snoc]
              exact ⟨hP3.1, hKj.trans hP3.2⟩
            clear hP3 hKj
            go_wp2_with fail
            go_roundw
            case rel => exact ⟨j + 1, by simp, by omega, HP3⟩
            case measure => simp; omega
          · have hjI : ¬ (j : Int) < (m : Int) := by omega
            go_wp2_with fail
            go_ret
            have htk : E'.take j = E' := List.take_of_length_le (by omega)
            rw [htk] at HPj
            exact ⟨_, rfl, E', HPW.out, HND.out, HM.out, HQj.out, (by intro k hk; rw [← hr]; exact HNEW.out k hk), expire_end HB2.out HPj.out⟩
    · intro x c kl yd yp w1 cnt1 hkey hlk hv hatk hrg1 hlt hg1 hs1 hen
      obtain ⟨x', ex, rfl, _⟩ := Maps.keyOf_int_inv Try.underlying3 hkey
      cases ex
      obtain ⟨rfl, rfl⟩ : DataW.held c = yd ∧ [] = yp := by simpa [RV] using hv
      have hft : c = ft s y x := by have h1 := hatk (.held nilp); rw [HAT.out x] at h1; injection h1 with h1; exact h1.symm
      have hne := HHAS.out x (Maps.has_true_of_atKey hatk)
      obtain ⟨t, ht⟩ : ∃ t, s.t x = some t := by
        rcases ht : s.t x with _ | t
        · exact absurd (ft_none ht) hne
        · exact ⟨t, rfl⟩
      rw [ft_some ht] at hft
      subst hft
      have A1 := RR.out.at1 (Nat.le_of_eq hr) hg1
      obtain ⟨_, rT, _⟩ := (H0.out.below A1.1).thr _ _ ht
      have t0 : w1.cell? ⟨y.th x, 0, none⟩ = some (.int .i64 t.st) := Row.cell rT (i := 0) (by omega)
      have t2 : w1.cell? ⟨y.th x, 2, none⟩ = some (.bool t.en) := Row.cell rT (i := 2) (by omega)
      have t3 : w1.cell? ⟨y.th x, 3, none⟩ = some (.int .u64 t.dl) := Row.cell rT (i := 3) (by omega)
      have HRG := Lib.hid hrg1
      have HG1 := Lib.hid hg1
      have hex : exB s now x = (decide (t.st = 2) && (!t.en && decide (t.dl ≤ now))) := by unfold exB; rw [ht]
      have hrx := Nat.le_of_eq hr
      clear hrg1 hg1 rT hatk hv hkey hne hs1
      by_cases e1 : t.st = 2
      · cases e2 : t.en
        · rw [e2] at t2 hex
          by_cases e3 : t.dl ≤ now
          · have hx : exB s now x = true := by rw [hex]; simp [e1, e3]
            have hEl : E.length ≤ 1000 := by have := RR.out.len; omega
            have HP := Lib.hid (QR.push A1.2 x)
            have hcell := A1.1.size
            go_wp2_with (at_builtin; refine wpList_append_lies _ rfl _ _ 22 rfl 0 3 i0 _ 1 8 Try.underlying22 hi0 hz0 hz1 hz2 rfl (by omega) u5 E.length (E.map (Value.int .i64)) rfl (by exact HP.out.2) ⟨w1.heap.size, 0, none⟩ 1 1 [.int .i64 x] rfl rfl (by exact HP.out.1) (by simp [Value.oneCell']) (by omega) (by simp only [maxLen]; omega) (by omega) (Nat.zero_le _) (w1.heap.size + 1) (by simp) ?_)
            intro g cap w4 ho hg hat hbel
            have RN := Lib.hid (RR.out.take hrx hmtl HG1.out HRG.out hlt hx hlk ho hg hat)
            clear ho hg hat
            go_wp2_with fail
            go_roundw
            case rel => exact ⟨_, _, _, RN⟩
            case measure => rw [RN.out.rg.left_eq, RR.out.rg.left_eq]; omega
          · have RN := Lib.hid (RR.out.skip hrx HG1.out HRG.out hlt (by rw [hex]; simp [e3]))
            go_wp2_with fail
            go_roundw
            case rel => exact ⟨_, _, _, RN⟩
            case measure => rw [RN.out.rg.left_eq, RR.out.rg.left_eq]; omega
        · rw [e2] at t2 hex
          have RN := Lib.hid (RR.out.skip hrx HG1.out HRG.out hlt (by rw [hex]; simp))
          go_wp2_with fail
          go_roundw
          case rel => exact ⟨_, _, _, RN⟩
          case measure => rw [RN.out.rg.left_eq, RR.out.rg.left_eq]; omega
      · have RN := Lib.hid (RR.out.skip hrx HG1.out HRG.out hlt (by rw [hex]; simp [e1]))
        go_wp2_with fail
        go_roundw
        case rel => exact ⟨_, _, _, RN⟩
        case measure => rw [RN.out.rg.left_eq, RR.out.rg.left_eq]; omega
end
end Go.Proofs.Ytefgfmnnaglfmaa
