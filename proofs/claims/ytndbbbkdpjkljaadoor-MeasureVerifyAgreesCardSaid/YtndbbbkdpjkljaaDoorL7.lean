/- The walk of MeasureRegistersAreSeparate. Condition: the round constants lie in block 0. -/
import Derived.Test.YtndbbbkdpjkljaaDoorT
namespace Go.Proofs.YtndbbbkdpjkljaaDoor
open Go.RowKit
attribute [local go_sem ↓] alloc26 load26n store26n
attribute [local go_sem] stN_uc stN_b8 set_new fold_drew ldN_drew ldN_drewN stN_drew stN_drewN

/-- A log all of whose blocks lie below N. -/
def LOGU (w : World) (N B : Nat) (es : List Ev) : Prop := B < N ∧ ∃ v, LG w B (regs es) v ∧ w.ownsRow 0 45 34 v es.length (evs es) ∧ ∀ g, v.ownBlock = some g → g < N
theorem own_zero {w : World} {base e n size : Nat} {v : Value} {xs : List Value} (h : w.ownsRow base e size v n xs) : w.ownsRow 0 e size v n xs := by
  obtain ⟨h1, h2 | ⟨g, cap, cur, a, b, c⟩⟩ := h
  · exact ⟨h1, .inl h2⟩
  · exact ⟨h1, .inr ⟨g, cap, cur, a, Nat.zero_le _, c⟩⟩
theorem LOG.up {w : World} {base B : Nat} {es : List Ev} (h : LOG w base B es) : LOGU w w.heap.size B es := by
  obtain ⟨_, v, h1, h2⟩ := h
  exact ⟨h1.lt, v, h1, own_zero h2, fun g hg => (h2.lt g hg).2⟩
theorem LOGU.keep {w w' : World} {N N' B : Nat} {es : List Ev} (h : LOGU w N B es) (hb : Below N' w w') (hN : N ≤ N') : LOGU w' N B es := by
  obtain ⟨h0, v, h1, h2, h3⟩ := h
  refine ⟨h0, v, h1.below hb (by omega), ?_, h3⟩
  obtain ⟨a, b | ⟨g, cap, cur, rfl, c, d, r⟩⟩ := h2
  · exact ⟨a, .inl b⟩
  · exact ⟨a, .inr ⟨g, cap, cur, rfl, c, (hb.block g (by have := h3 g rfl; omega)).trans d, r⟩⟩
theorem LOGU.log {w : World} {N B : Nat} {es : List Ev} (h : LOGU w N B es) : LOG w 0 B es := by
  obtain ⟨h0, v, h1, h2, h3⟩ := h
  exact ⟨Nat.zero_le _, v, h1, h2⟩
/-- The events of register r. -/
def ofR (r : Nat) (es : List Ev) : List Ev := es.filter fun e => decide (e.r = (r : Int))
theorem regs_of (r : Nat) (es : List Ev) : ∀ G, es.foldl reg1 G r = (ofR r es).foldl reg1 G r := by
  induction es with
  | nil => intro G; rfl
  | cons e t ih =>
    intro G
    unfold ofR
    rw [List.foldl_cons, List.filter_cons]
    by_cases h : e.r = (r : Int)
    · rw [if_pos (by simpa using h), List.foldl_cons]; exact ih _
    · rw [if_neg (by simpa using h), ih]
      have : ∀ (l : List Ev) (G G' : Nat → Nat → Int), (∀ e ∈ l, e.r = (r : Int)) → G r = G' r → l.foldl reg1 G r = l.foldl reg1 G' r := by
        intro l
        induction l with
        | nil => intro G G' _ h; exact h
        | cons x t ih2 =>
          intro G G' hl hG
          rw [List.foldl_cons, List.foldl_cons]
          refine ih2 _ _ (fun e he => hl e (List.mem_cons_of_mem _ he)) ?_
          unfold reg1
          rw [hG]
      refine this _ _ _ (fun e he => by simpa using (List.mem_filter.1 he).2) ?_
      unfold reg1
      rw [if_neg (fun h' => h h'.symm)]
theorem regs_eq {es fs : List Ev} (r : Nat) (h : ofR r es = ofR r fs) : regs es r = regs fs r := by
  unfold regs
  rw [regs_of r es, regs_of r fs, h]
/-- The events of the calls of register r, as b measures them. -/
def grp (r : Nat) (l : List Cl) : List Ev := l.flatMap fun c => if mo c.r 8 = r then mev (r : Int) c.t c.s else []
def sep (l : List Cl) (n : Nat) : List Ev := (List.range n).flatMap fun r => grp r l
theorem grp_of (r q : Nat) (l : List Cl) : ofR q (grp r l) = if r = q then grp r l else [] := by
  unfold grp ofR
  induction l with
  | nil => simp
  | cons c t ih =>
    rw [List.flatMap_cons, List.filter_append, ih]
    by_cases h : r = q
    · subst h
      rw [if_pos rfl, if_pos rfl]
      congr 1
      by_cases h2 : mo c.r 8 = r
      · rw [if_pos h2]; unfold mev; split <;> simp
      · rw [if_neg h2]; rfl
    · rw [if_neg h, if_neg h, List.append_nil]
      by_cases h2 : mo c.r 8 = r
      · rw [if_pos h2]; unfold mev; split
        · simp; omega
        · rfl
      · rw [if_neg h2]; rfl
theorem mea_of (q : Nat) (l : List Cl) : ofR q (mea l) = grp q l := by
  unfold mea grp ofR
  induction l with
  | nil => rfl
  | cons c t ih =>
    rw [List.flatMap_cons, List.filter_append, ih, List.flatMap_cons]
    congr 1
    by_cases h2 : mo c.r 8 = q
    · rw [if_pos h2]; subst h2; unfold mev; split <;> simp
    · rw [if_neg h2]; unfold mev; split
      · simp; omega
      · rfl
theorem sep_succ (l : List Cl) (n : Nat) : sep l (n + 1) = sep l n ++ grp n l := by simp [sep, List.range_succ]
theorem sep_of (q n : Nat) (l : List Cl) : ofR q (sep l n) = if q < n then grp q l else [] := by
  induction n with
  | zero => rfl
  | succ n ih =>
    rw [sep_succ]
    have e : ofR q (sep l n ++ grp n l) = ofR q (sep l n) ++ ofR q (grp n l) := by unfold ofR; rw [List.filter_append]
    rw [e, ih, grp_of]
    by_cases h : n = q
    · subst h
      rw [if_neg (by omega), if_pos rfl, if_pos (by omega), List.nil_append]
    · rw [if_neg h, List.append_nil]
      by_cases h2 : q < n
      · rw [if_pos h2, if_pos (by omega)]
      · rw [if_neg h2, if_neg (by omega)]
theorem regs_sep (l : List Cl) (q : Nat) (hq : q < 8) : regs (mea l) q = regs (sep l 8) q := regs_eq q (by rw [mea_of, sep_of, if_pos hq])
theorem grp_cons (r : Nat) (c : Cl) (t : List Cl) : (grp r (c :: t)).length = (if mo c.r 8 = r then (mev 0 c.t c.s).length else 0) + (grp r t).length := by
  unfold grp
  rw [List.flatMap_cons, List.length_append]
  congr 1
  split
  · unfold mev; split <;> rfl
  · rfl
theorem sep_cons (c : Cl) (t : List Cl) (n : Nat) : (sep (c :: t) n).length = (if mo c.r 8 < n then (mev 0 c.t c.s).length else 0) + (sep t n).length := by
  induction n with
  | zero => simp [sep]
  | succ n ih =>
    rw [sep_succ, sep_succ, List.length_append, List.length_append, ih, grp_cons]
    rcases Nat.lt_trichotomy (mo c.r 8) n with h | h | h
    · rw [if_pos h, if_neg (show ¬ mo c.r 8 = n by omega), if_pos (show mo c.r 8 < n + 1 by omega)]; omega
    · rw [if_neg (show ¬ mo c.r 8 < n by omega), if_pos h, if_pos (show mo c.r 8 < n + 1 by omega)]; omega
    · rw [if_neg (show ¬ mo c.r 8 < n by omega), if_neg (show ¬ mo c.r 8 = n by omega), if_neg (show ¬ mo c.r 8 < n + 1 by omega)]; omega
theorem len_sep (l : List Cl) : (mea l).length = (sep l 8).length := by
  induction l with
  | nil => rfl
  | cons c t ih =>
    rw [sep_cons, if_pos (mo_lt c.r 8 (by omega)), ← ih]
    show ((mev _ c.t c.s) ++ mea t).length = _
    rw [List.length_append]
    congr 1
    unfold mev; split <;> rfl
theorem grp_len (r : Nat) (l : List Cl) : (grp r l).length ≤ l.length := by
  induction l with
  | nil => simp [grp]
  | cons c t ih =>
    rw [grp_cons]
    have := mev_len 0 c.t c.s
    simp only [List.length_cons]
    split <;> omega
theorem sep_le (l : List Cl) (n : Nat) : (sep l n).length ≤ n * l.length := by
  induction n with
  | zero => simp [sep]
  | succ n ih =>
    rw [sep_succ, List.length_append, Nat.add_mul, Nat.one_mul]
    have := grp_len n l
    omega
theorem grp_succ (r : Nat) (l : List Cl) (i : Nat) (c : Cl) (h : l[i]? = some c) : grp r (l.take (i + 1)) = grp r (l.take i) ++ if mo c.r 8 = r then mev (r : Int) c.t c.s else [] := by
  have hi := (List.getElem?_eq_some_iff.1 h).1
  have e : l[i] = c := (List.getElem?_eq_some_iff.1 h).2
  rw [List.take_succ_eq_append_getElem hi, e]
  simp [grp]

set_option maxRecDepth 100000 in
set_option maxHeartbeats 4000000 in
theorem separate_walk (a : Option Addr) (len cap : Nat) (l : List Cl) (w : World) (h : CallS w a len cap l) (hr : Rnd w) (h0 : 0 < w.heap.size) :
    Calls Tryd.prog 7 #[.slice a len cap] w fun e w' => e = .returned (.bool true) ∧ Below w.heap.size w w' := by
  have HR := Lib.hid hr
  have HC := Lib.hid h
  have hlen : len ≤ 9223372036854775807 := by have h1 := h.2.1; have h2 := h.2.2.1; unfold maxLen at h2; omega
  have hlc : len ≤ cap := h.2.1
  have HLen := Lib.hid h.1
  clear hr h
  have HLg := Lib.hid (large_any a len cap l w HC.out)
  by_cases hlg : lg l = true
  · rw [hlg] at HLg
    go_enter Tryd.func7, Tryd.ntmps7
    go_wp2_with fail
    refine HLg.out.mono ?_
    rintro e w1 ⟨rfl, rfl⟩
    go_wp2_with fail
    refine (awake_any _ HR.out h0).mono ?_
    rintro e w1 ⟨rfl, hb⟩
    go_wp2_with fail
    go_ret
    exact ⟨rfl, hb⟩
  · have hlg' : lg l = false := by simpa using hlg
    rw [hlg'] at HLg
    obtain ⟨h12, hsm⟩ := lg_no hlg'
    have HSM := Lib.hid hsm
    have h12' : len ≤ 12 := by have := HLen.out; omega
    clear hlg hlg' hsm
    go_enter Tryd.func7, Tryd.ntmps7
    go_wp2_with fail
    refine HLg.out.mono ?_
    rintro e w1 ⟨rfl, rfl⟩
    go_wp2_with fail
    refine (measured_any a len cap l w HC.out (by omega) (fun c hc => by have := (HSM.out c hc).2; omega) HR.out h0).mono ?_
    rintro e w1 ⟨rfl, hL1, hb1⟩
    have LA1 := Lib.hid hL1.up
    have B1 := Lib.hid hb1
    have hlt1 : w.heap.size < w1.heap.size := by obtain ⟨_, _, h, _⟩ := hL1; exact h.lt
    clear hL1 hb1
    go_wp2_with fail
    refine (new_any _).mono ?_
    rintro e w2 ⟨rfl, hL2, hb2⟩
    have LA2 := Lib.hid (LA1.out.keep hb2 (Nat.le_refl _))
    have LB2 : Hid (LOG w2 w1.heap.size w1.heap.size (sep l 0)) := log_new (Nat.le_refl _) hL2
    have B2 : Hid (Below w.heap.size w w2) := bss B1.out hb2
    clear hL2 hb2 LA1 B1 HLg
    generalize w1.heap.size = Nb at LA2 LB2 hlt1 ⊢
    clear w1
    go_wp2_with fail
    go_loopw [5, 6] (fun x y wr => ∃ r : Nat, r ≤ 8 ∧ x = .int .i64 r ∧ Hid (LOGU wr Nb w.heap.size (mea l)) ∧ Hid (LOG wr Nb Nb (sep l r)) ∧ Hid (Below w.heap.size w wr)) (fun x _ _ => 8 - (intOf x).toNat)
    case atStart => exact ⟨0, by omega, rfl, LA2, LB2, B2⟩
    case round =>
      clear LA2 LB2 B2
      obtain ⟨r, hr8, rfl, LA, LB, hb⟩ := hrel
      by_cases hlt : r < 8
      · have z0 : (r : Int) < 8 := by omega
        go_wp2_with fail
        obtain ⟨wo, rfl⟩ : ∃ wo : World, wo = wr := ⟨_, rfl⟩
        have q0 : Hid (LOG wo Nb Nb (sep l r ++ grp r (l.take 0))) := by
          show LOG wo Nb Nb (sep l r ++ grp r (l.take 0))
          rw [show grp r (l.take 0) = [] from rfl, List.append_nil]; exact LB.out
        go_loopw [6] (fun y wr => ∃ i : Nat, i ≤ len ∧ y = .int .i64 i ∧ Hid (LOGU wr Nb w.heap.size (mea l)) ∧ Hid (LOG wr Nb Nb (sep l r ++ grp r (l.take i))) ∧ Hid (Below w.heap.size w wr)) (fun y _ => len - (intOf y).toNat)
        case atStart => exact ⟨0, by omega, rfl, LA, q0, hb⟩
        case round =>
          clear q0 LA LB hb
          obtain ⟨i, hi, rfl, LA, LB, hb⟩ := hrel
          have hsz := hb.out.size
          by_cases hil : i < len
          · obtain ⟨b, o, c, rfl, hbl, hc, hm, ht, hs, hrg⟩ := (HC.out.below hb.out (Nat.le_refl _)).at hil
            have y0 : (i : Int) < len := by omega
            have hbw : b < w.heap.size := by
              obtain ⟨_, _, _, _, h5⟩ := HC.out
              obtain ⟨b', o', e, hl', _⟩ := h5 (by intro h; subst h; simp at hc)
              injection e with e
              have : b = b' := congrArg Addr.block e
              omega
            obtain ⟨c0, c1, c2, c3⟩ := clc_cells hrg
            have HGS := Lib.hid (grp_succ r l i c hc)
            have hcs := (HSM.out c hm).2
            have hr0 := Lib.hid hrg
            clear hrg hc ht hs
            by_cases hmr : mo c.r 8 = r
            · have dm : (((mo c.r 8 : Nat) : Int) == (r : Int)) = true := by simp [hmr]
              have S0 := Lib.hid (clc_cells ((World.rangeAt_drew _ _ _ _).2 hr0.out))
              have hml : (sep l r ++ grp r (l.take i)).length < 256 := by
                have h1 := sep_le l r
                have h2 := grp_len r (l.take i)
                have h3 := List.length_take_le i l
                have h4 : r * l.length ≤ 8 * 12 := Nat.mul_le_mul (by omega) h12
                rw [List.length_append]; omega
              have HCa : Hid (Calls Tryd.prog 24 #[.pointer (some ⟨Nb, 0, none⟩), .int .i64 (r : Int), .string c.t, .string c.s] wr.drew fun e w' => e = .returned (.int .i64 (mcode c.t)) ∧ LOG w' Nb Nb (sep l r ++ grp r (l.take (i + 1))) ∧ Below Nb wr.drew w') := by
                have := measure_each Nb Nb r (sep l r ++ grp r (l.take i)) c.t c.s wr.drew hlt hml (by omega) (HR.out.below hb.out.drew h0) (by omega) (LB.out.below ((Below.refl _ _).drew (B := wr.heap.size)) (Nat.le_refl _))
                rw [List.append_assoc] at this
                rw [HGS.out, if_pos hmr]
                exact this
              go_wp2_with fail
              refine (mod_any c.r 8 _ (by omega) (by omega)).mono ?_
              rintro e w3 ⟨rfl, rfl⟩
              go_wp2_with fail
              refine wp_region_pl (fun X => X.cell? ⟨b, o + i * 4, none⟩ = some (.int .i64 c.r) ∧ X.cell? ⟨b, o + i * 4 + 1, none⟩ = some (.string c.t) ∧ X.cell? ⟨b, o + i * 4 + 2, none⟩ = some (.string c.s) ∧ X.cell? ⟨b, o + i * 4 + 3, none⟩ = some (.bool c.raw))
                ((0, 0) :: (1, 0) :: (2, 0) :: (3, 0) :: (4, 0) :: (5, 0) :: (6, 0) :: (7, 0) :: (8, 0) :: (9, 0) :: (10, 0) :: (11, 0) :: (12, 1) :: []) (by kernel_rfl) (by kernel_rfl) ?_
              iterate 12 (apply wpP_go; (focus rfl); (focus rfl); (focus exact S0.out); (focus (rintro X ⟨s0, s1, s2, s3⟩; go_simp; exact rfl)); intro K hK; go_simp; refine hK _ ?_; clear hK K)
              apply wpP_one
              focus rfl
              intro K hK
              go_simp
              refine HCa.out.mono ?_
              rintro e w3 ⟨rfl, hL3, hb3⟩
              have S3 := Lib.hid (clc_cells (rangeAt_below ((World.rangeAt_drew _ _ _ _).2 hr0.out) hb3 (by omega)))
              have LA3 : Hid (LOGU w3 Nb w.heap.size (mea l)) := (LA.out.keep ((Below.refl _ _).drew (B := Nb)) (Nat.le_refl _)).keep hb3 (Nat.le_refl _)
              have q3 := Lib.hid hL3
              have B3 : Hid (Below w.heap.size w w3) := hb.out.drew.trans (hb3.mono (by omega))
              clear hL3 hb3 HCa
              refine hK _ _ S3.out ?_
              clear hK K
              refine wpP_done ?_
              go_wp2_with fail
              exact ⟨⟨i + 1, by omega, by go_num, LA3, q3, B3⟩, by simp [intOf]; omega⟩
            · have dm : (((mo c.r 8 : Nat) : Int) == (r : Int)) = false := by simp; omega
              have q3 : Hid (LOG wr Nb Nb (sep l r ++ grp r (l.take (i + 1)))) := by
                show LOG wr Nb Nb (sep l r ++ grp r (l.take (i + 1)))
                rw [HGS.out, if_neg hmr, List.append_nil]; exact LB.out
              go_wp2_with fail
              refine (mod_any c.r 8 _ (by omega) (by omega)).mono ?_
              rintro e w3 ⟨rfl, rfl⟩
              go_wp2_with fail
              exact ⟨⟨i + 1, by omega, by go_num, LA, q3, hb⟩, by simp [intOf]; omega⟩
          · have y0 : ¬ (i : Int) < len := by omega
            have q3 : Hid (LOG wr Nb Nb (sep l (r + 1))) := by
              show LOG wr Nb Nb (sep l (r + 1))
              have h1 := LB.out
              rw [List.take_of_length_le (by have := HLen.out; omega)] at h1
              rw [sep_succ]; exact h1
            go_wp2_with fail
            exact ⟨⟨r + 1, by omega, by go_num, LA, q3, hb⟩, by simp [intOf]; omega⟩
      · have z0 : ¬ (r : Int) < 8 := by omega
        have LB8 : Hid (LOGU wr wr.heap.size Nb (sep l 8)) := by have h1 := LB.out; rw [show r = 8 by omega] at h1; exact h1.up
        have hNw : Nb < wr.heap.size := by obtain ⟨_, _, h, _⟩ := LB.out; exact h.lt
        have HQ : Hid (∀ q, q < 8 → regs (mea l) q = regs (sep l 8) q) := regs_sep l
        have HLS := Lib.hid (len_sep l)
        have hle : (mea l).length ≤ 12 := by have := mea_len l; omega
        have bA : Hid (∀ q, Byt (regs (mea l) q)) := regs_byt (mea l)
        clear LB
        generalize hma : mea l = ea at LA HQ HLS hle bA
        generalize hmb : sep l 8 = eb at LB8 HQ HLS
        clear hma hmb
        obtain ⟨NW, hNW⟩ : ∃ NW : Nat, NW = wr.heap.size := ⟨_, rfl⟩
        rw [← hNW] at LB8 hNw
        have hNW2 : NW ≤ wr.heap.size := by omega
        clear hNW
        go_wp2_with fail
        obtain ⟨wo, rfl⟩ : ∃ wo : World, wo = wr := ⟨_, rfl⟩
        go_loopw [7] (fun y wr => ∃ q : Nat, q ≤ 8 ∧ y = .int .i64 q ∧ Hid (LOGU wr Nb w.heap.size ea) ∧ Hid (LOGU wr NW Nb eb) ∧ Hid (Below w.heap.size w wr) ∧ NW ≤ wr.heap.size) (fun y _ => 8 - (intOf y).toNat)
        case atStart => exact ⟨0, by omega, rfl, LA, LB8, hb, hNW2⟩
        case round =>
          clear LA LB8 hb hNW2
          obtain ⟨q, hq8, rfl, LA, LB, hb, hNW2⟩ := hrel
          have hsz := hb.out.size
          by_cases hq : q < 8
          · have y0 : (q : Int) < 8 := by omega
            obtain ⟨D, hD⟩ : ∃ D : Nat → Int, regs ea q = D := ⟨_, rfl⟩
            have bD : Hid (Byt D) := by rw [← hD]; exact bA.out q
            have hD2 : regs eb q = D := by rw [← HQ.out q hq]; exact hD
            have HCA : Hid (∀ V, LOGU V Nb w.heap.size ea → Calls Tryd.prog 22 #[.pointer (some ⟨w.heap.size, 0, none⟩), .int .i64 (q : Int)] V fun e w' => e = .returned (.tuple #[.agg (arr 32 (b8 D)), .int .i64 0]) ∧ Below V.heap.size V w') := fun V h => by
              obtain ⟨_, v, h1, _⟩ := h
              rw [← hD]; exact register_yes w.heap.size q (regs ea) v V hq h1
            have HCB : Hid (∀ V, LOGU V NW Nb eb → Calls Tryd.prog 22 #[.pointer (some ⟨Nb, 0, none⟩), .int .i64 (q : Int)] V fun e w' => e = .returned (.tuple #[.agg (arr 32 (b8 D)), .int .i64 0]) ∧ Below V.heap.size V w') := fun V h => by
              obtain ⟨_, v, h1, _⟩ := h
              rw [← hD2]; exact register_yes Nb q (regs eb) v V hq h1
            clear hD hD2
            go_wp2_with fail
            refine (HCA.out wr LA.out).mono ?_
            rintro e w3 ⟨rfl, hb3⟩
            have A3 := Lib.hid (LA.out.keep hb3 (by omega))
            have B3 := Lib.hid (LB.out.keep hb3 (by omega))
            have bb3 := Lib.hid (bss hb.out hb3)
            have hs3 := hb3.size
            clear hb3
            have r3 : Hid (Row (w3.alloc (.cells (arr 32 (b8 D)) 26)) w3.heap.size 26 32 (b8 D)) := Row.ofList w3 26 _ _ 32 rfl
            have A4 := Lib.hid (A3.out.keep ((Below.refl w3.heap.size w3).alloc (Nat.le_refl _) (.cells (arr 32 (b8 D)) 26)) (by omega))
            have B4 := Lib.hid (B3.out.keep ((Below.refl w3.heap.size w3).alloc (Nat.le_refl _) (.cells (arr 32 (b8 D)) 26)) (by omega))
            have bb4 : Hid (Below w.heap.size w (w3.alloc (.cells (arr 32 (b8 D)) 26))) := bb3.out.alloc bb3.out.size _
            have hs4 : NW ≤ (w3.alloc (.cells (arr 32 (b8 D)) 26)).heap.size := by simp; omega
            go_wp2_with fail
            generalize w3.alloc (.cells (arr 32 (b8 D)) 26) = V at r3 A4 B4 bb4 hs4 ⊢
            generalize w3.heap.size = Ra at r3 ⊢
            refine (HCB.out V B4.out).mono ?_
            rintro e w5 ⟨rfl, hb5⟩
            have hs5 := hb5.size
            have r5 := Lib.hid ((r3.out.below hb5 r3.out.lt).alloc (.cells (arr 32 (b8 D)) 26))
            have r6 : Hid (Row (w5.alloc (.cells (arr 32 (b8 D)) 26)) w5.heap.size 26 32 (b8 D)) := Row.ofList w5 26 _ _ 32 rfl
            have A6 := Lib.hid ((A4.out.keep hb5 (by omega)).keep ((Below.refl w5.heap.size w5).alloc (Nat.le_refl _) (.cells (arr 32 (b8 D)) 26)) (by omega))
            have B6 := Lib.hid ((B4.out.keep hb5 (by omega)).keep ((Below.refl w5.heap.size w5).alloc (Nat.le_refl _) (.cells (arr 32 (b8 D)) 26)) (by omega))
            have bb6 : Hid (Below w.heap.size w (w5.alloc (.cells (arr 32 (b8 D)) 26))) := (bss bb4.out hb5).alloc (bss bb4.out hb5).size _
            have hs6 : NW ≤ (w5.alloc (.cells (arr 32 (b8 D)) 26)).heap.size := by simp; omega
            clear hb5
            have lA : ldN 32 (w5.alloc (.cells (arr 32 (b8 D)) 26)) (.pointer (some ⟨Ra, 0, none⟩)) = some (arr 32 (b8 D)) := ldN_of (Row.range0 r5.out) (by simp [arr])
            have lB : ldN 32 (w5.alloc (.cells (arr 32 (b8 D)) 26)) (.pointer (some ⟨w5.heap.size, 0, none⟩)) = some (arr 32 (b8 D)) := ldN_of (Row.range0 r6.out) (by simp [arr])
            have hne : ∀ W, (binOp .neq 26 (.agg (arr 32 (b8 D))) (.agg (arr 32 (b8 D)))).run Tryd.prog W = .ok (.bool false) W := fun W => by
              rw [neD bD.out bD.out]; simp
            go_wp2_with fail
            exact ⟨⟨q + 1, by omega, by go_num, A6, B6, bb6, hs6⟩, by simp [intOf]; omega⟩
          · have y0 : ¬ (q : Int) < 8 := by omega
            go_wp2_with fail
            refine (events_any 0 w.heap.size ea wr LA.out.log (by omega)).mono ?_
            rintro e w3 ⟨v3, rfl, hO3, hb3⟩
            obtain ⟨a3, c3, rfl⟩ := own_len hO3
            have B3 := Lib.hid (LB.out.keep hb3 (by omega))
            have bb3 := Lib.hid (bss hb.out hb3)
            clear hO3 hb3
            go_wp2_with fail
            refine (events_any 0 Nb eb w3 B3.out.log (by have := HLS.out; omega)).mono ?_
            rintro e w4 ⟨v4, rfl, hO4, hb4⟩
            obtain ⟨a4, c4, rfl⟩ := own_len hO4
            have bb4 := Lib.hid (bss bb3.out hb4)
            have dE : ((ea.length : Int) == (eb.length : Int)) = true := by rw [HLS.out]; simp
            have hle2 : eb.length ≤ 12 := by have := HLS.out; omega
            clear hO4 hb4
            go_wp2_with fail
            refine (awake_any _ (HR.out.below bb4.out h0) (by have := bb4.out.size; omega)).mono ?_
            rintro e w5 ⟨rfl, hb5⟩
            have bb5 := bss bb4.out hb5
            go_wp2_with fail
            go_ret
            exact ⟨rfl, bb5⟩
end Go.Proofs.YtndbbbkdpjkljaaDoor
