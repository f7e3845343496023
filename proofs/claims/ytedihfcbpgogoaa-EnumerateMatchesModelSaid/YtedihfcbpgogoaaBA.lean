/- help.Mod; rows of structs under way; gen.bars. No condition but that the row lies in memory. -/
import Derived.Test.YtedihfcbpgogoaaAW
namespace Go.Proofs.Ytedihfcbpgogoaa
open Go.RowKit
def moI (n m : Int) : Int := (n % 18446744073709551616) % m
theorem moI_lt (n m : Int) (h : 1 ≤ m) : 0 ≤ moI n m ∧ moI n m < m := ⟨Int.emod_nonneg _ (by omega), Int.emod_lt_of_pos _ (by omega)⟩
theorem mo_walk (v m : Int) (h2 : 1 ≤ m) (h3 : m ≤ 1000000) : wrap64 ((IntKind.u64.wrap v).tmod m) = moI v m := by
  have e : IntKind.u64.wrap v = v % 18446744073709551616 := by simp [IntKind.wrap_u64]
  have h' := moI_lt v m h2
  rw [e, IntWalk.rem_in _ _ (by omega)]
  exact IntWalk.wrap64_in _ (by unfold moI at h'; omega)
theorem mod_any (n m : Int) (w : World) (hm : 1 ≤ m) (hm2 : m ≤ 1000000) : Calls Try.prog 12 #[.int .i64 n, .int .i64 m] w fun e w' => e = .returned (.int .i64 (moI n m)) ∧ w' = w := by
  go_enter Try.func12, Try.ntmps12
  go_wp2
  go_ret
  exact ⟨ret_int (mo_walk n m hm hm2), rfl⟩
/-- The call w .. wr builds the row v of structs. -/
structure OG {α : Type} (cf : α → List Value) (e sz : Nat) (w wr : World) (v : Value) (L : List α) : Prop where
  row : wr.ownsRow 0 e sz v L.length (L.flatMap cf)
  new : ∀ g, v.ownBlock = some g → w.heap.size ≤ g
  bel : Below w.heap.size w wr
section
variable {α : Type} {cf : α → List Value} {e sz : Nat} {w wr w3 : World} {v : Value} {L N : List α}
theorem OG.nil (w : World) : OG cf e sz w w (.slice none 0 0) [] := ⟨World.ownsRow_nil _ _ _ _, (fun g hg => by cases hg), Below.refl _ _⟩
theorem OG.take {o : Obj} {g cap m : Nat} {news : List Value} (h : OG cf e sz w wr v L) (ho : w3.ownsRow 0 e sz (.slice (some ⟨g, 0, none⟩) (L.length + m) cap) (L.length + m) (L.flatMap cf ++ news)) (hg3 : (wr.alloc o).grownBy w3 v.ownBlock) (hat : v.ownBlock = some g ∨ g = wr.heap.size + 1) (hN : N.flatMap cf = news) (hm : N.length = m) :
    OG cf e sz w w3 (.slice (some ⟨g, 0, none⟩) (L.length + m) cap) (L ++ N) := by
  have a := h.bel
  refine ⟨?_, fun k hk => ?_, Below.grown (a.alloc a.size _) hg3 (by have := a.size; simp; omega) (fun k hk => h.new k hk)⟩
  · rw [List.length_append, List.flatMap_append, hN, hm]; exact ho
  · have e : g = k := by simpa [Value.ownBlock] using hk
    subst e
    rcases hat with h1 | h1
    · exact h.new g h1
    · have := a.size; omega
theorem OG.step (h : OG cf e sz w wr v L) (hb : Below wr.heap.size wr w3) : OG cf e sz w w3 v L := by
  refine ⟨?_, h.new, bthen h.bel hb⟩
  obtain ⟨a, b | ⟨g, cap, cur, rfl, c, d, r⟩⟩ := h.row
  · exact ⟨a, .inl b⟩
  · exact ⟨a, .inr ⟨g, cap, cur, rfl, c, (hb.block g (heap_lt d)).trans d, r⟩⟩
theorem flat_at (hc : ∀ x ∈ L, (cf x).length = sz) {i j : Nat} {x : α} {u : Value} (hx : L[i]? = some x) (hu : (cf x)[j]? = some u) : (L.flatMap cf)[i * sz + j]? = some u := by
  induction L generalizing i with
  | nil => simp at hx
  | cons y L ih =>
    rw [List.flatMap_cons]
    have hy := hc y (by simp)
    rcases i with _ | i
    · obtain rfl : y = x := by simpa using hx
      have hj := (List.getElem?_eq_some_iff.1 hu).1
      rw [Nat.zero_mul, Nat.zero_add, List.getElem?_append_left hj]
      exact hu
    · have hx' : L[i]? = some x := by simpa using hx
      rw [List.getElem?_append_right (by rw [hy, Nat.succ_mul]; omega), hy]
      have e : (i + 1) * sz + j - sz = i * sz + j := by rw [Nat.succ_mul]; omega
      rw [e]
      exact ih (fun x hx => hc x (by simp [hx])) hx'
theorem OG.val (h : OG cf e sz w wr v L) : ∃ a cap, v = .slice a L.length cap ∧ L.length ≤ cap := by
  obtain ⟨_, ⟨rfl, h0⟩ | ⟨g, cap, cur, rfl, _, _, hn, _⟩⟩ := h.row
  · exact ⟨none, 0, by rw [h0], by rw [h0]; exact Nat.le_refl _⟩
  · exact ⟨_, _, rfl, hn⟩
theorem own_SLs {wf : α → Prop} {a : Option Addr} {n cap : Nat} (h : wr.ownsRow 0 e sz (.slice a n cap) L.length (L.flatMap cf)) (hn : L.length = n) (hc : ∀ x ∈ L, (cf x).length = sz) (hw : ∀ x ∈ L, wf x) : SLs cf sz wf wr a n cap L := by
  subst hn
  obtain ⟨h1, ⟨h2, h3⟩ | ⟨g, cap', cur, h2, _, hg, hn, hm, hs, ht⟩⟩ := h
  · injection h2 with h2 h4 h5
    refine ⟨rfl, by omega, by rw [h5]; unfold maxLen; omega, hw, fun hne => absurd (List.eq_nil_of_length_eq_zero h3) hne⟩
  · injection h2 with h2 h4 h5
    subst h2 h5
    refine ⟨rfl, hn, hm, hw, fun hne => ⟨g, 0, rfl, heap_lt hg, fun i c hcc j u hu => ?_⟩⟩
    have := flat_at hc hcc hu
    rw [← ht] at this
    rw [cell_of_row _ _ _ _ _ _ hg]
    rw [List.getElem?_take] at this
    rw [Nat.zero_add, ← Array.getElem?_toList]
    split at this
    · exact this
    · cases this
end
theorem cb_len (x : Int × Int) : (cb x).length = 2 := rfl
theorem cF_len (x : Fn) : (cF x).length = 11 := rfl
theorem Try.info67 : (Try.prog.info? 67).map (fun i => (i.zero, i.size, i.bytes)) = some (some (.agg #[.int .i64 0, .int .i64 0]), 2, 16) := by kernel_rfl
theorem bAt_app {l N : List (Int × Int)} {i : Nat} (h : i < l.length) : bAt (l ++ N) i = bAt l i := by
  unfold bAt; rw [List.getD_eq_getElem?_getD, List.getD_eq_getElem?_getD, List.getElem?_append_left h]
theorem bAt_new {l N : List (Int × Int)} (i : Nat) : bAt (l ++ N) (l.length + i) = bAt N i := by
  unfold bAt; rw [List.getD_eq_getElem?_getD, List.getD_eq_getElem?_getD, List.getElem?_append_right (by omega)]; congr 2; omega
def AB (l : List (Int × Int)) : Prop := ∀ i, i < l.length → vBar l i
theorem AB.old {l N : List (Int × Int)} (h : AB l) {i : Nat} (hi : i < l.length) : vBar (l ++ N) i := by
  have := h i hi
  unfold vBar at *
  rw [bAt_app hi]
  rcases this with a | a | a | ⟨a, b, c, d, f⟩
  · exact .inl a
  · exact .inr (.inl a)
  · exact .inr (.inr (.inl a))
  · exact .inr (.inr (.inr ⟨a, b, c, by rw [List.length_append]; omega, by rw [bAt_app d]; exact f⟩))
theorem AB.one {l : List (Int × Int)} (h : AB l) {k n : Int} (hk : (k = 0 ∧ n = 0) ∨ (k = 1 ∧ 2 ≤ n ∧ n ≤ 8) ∨ (k = 2 ∧ 4 ≤ n ∧ n ≤ 31)) : AB (l ++ [(k, n)]) := by
  intro i hi
  rw [List.length_append] at hi
  by_cases hil : i < l.length
  · exact h.old hil
  · have e : i = l.length + 0 := by simp at hi; omega
    subst e
    unfold vBar
    rw [bAt_new]
    show ((k = 0 ∧ n = 0) ∨ (k = 1 ∧ 2 ≤ n ∧ n ≤ 8) ∨ (k = 2 ∧ 4 ≤ n ∧ n ≤ 31) ∨ _)
    rcases hk with a | a | a
    · exact .inl a
    · exact .inr (.inl a)
    · exact .inr (.inr (.inl a))
theorem AB.two {l : List (Int × Int)} (h : AB l) {k n : Int} (hk : (k = 3 ∨ k = 4) ∧ 4 ≤ n ∧ n ≤ 40) : AB (l ++ [(k, n), (0, 0)]) := by
  intro i hi
  rw [List.length_append] at hi
  by_cases hil : i < l.length
  · exact h.old hil
  · have e : i = l.length + 0 ∨ i = l.length + 1 := by simp at hi; omega
    rcases e with rfl | rfl
    · unfold vBar
      rw [bAt_new, Nat.add_zero, bAt_new]
      exact .inr (.inr (.inr ⟨hk.1, hk.2.1, hk.2.2, by simp, rfl⟩))
    · unfold vBar
      rw [bAt_new]
      exact .inl ⟨rfl, rfl⟩
def BarsP (mx : Int) (w : World) (e : Ending) (w' : World) : Prop := ∃ v L, e = .returned v ∧ OG cb 67 2 w w' v L ∧ AB L ∧ (L.length : Int) ≤ mx
set_option maxRecDepth 100000 in
set_option maxHeartbeats 4000000 in
theorem bars_any {w : World} {a : Option Addr} {len cap : Nat} {l : List (Int × Int)} {mx : Int} (h : BarS w a len cap l) (hmx : mx = 2 ∨ mx = 6) :
    Calls Try.prog 20 #[.slice a len cap, .int .i64 mx] w (BarsP mx w) := by
  have H := Lib.hid h
  have hcc : len ≤ cap := h.2.1
  have hml : len ≤ 9223372036854775807 := by have := h.2.2.1; unfold maxLen at this; omega
  have hmx1 : 0 ≤ mx ∧ mx ≤ 6 := by omega
  clear h hmx
  obtain ⟨i0, hi0, hz0, hz1, hz2⟩ := info_parts Try.info67
  go_enter Try.func20, Try.ntmps20
  go_wp2_with fail
  go_loopw [5, 6, 7, 8] (fun v z _ _ wr => ∃ (i : Nat) (L : List (Int × Int)), i ≤ len ∧ z = .int .i64 (i : Int) ∧ Hid (OG cb 67 2 w wr v L) ∧ Hid (AB L) ∧ (L.length : Int) ≤ mx) (fun _ z _ _ _ => len - (intOf z).toNat)
  case atStart => exact ⟨0, [], by omega, rfl, OG.nil w, (fun i hi => by cases hi), by simp; omega⟩
  case round =>
    obtain ⟨i, L, hi, rfl, O, A, hL⟩ := hrel
    obtain ⟨av, cv, hv, hcv⟩ := O.out.val
    subst hv
    have hLn : L.length ≤ 6 := by omega
    by_cases hil : i < len
    · have y1 : (i : Int) < len := by omega
      by_cases hLm : (L.length : Int) < mx
      · obtain ⟨b, o, rfl, hb, c0', c1'⟩ := H.out.at hil
        have c0 := (O.out.bel.cell (p := ⟨b, o + i * 2, none⟩) hb).trans c0'
        have c1 := (O.out.bel.cell (p := ⟨b, o + i * 2 + 1, none⟩) hb).trans c1'
        clear c0' c1'
        generalize (bAt l i).1 = kd at *
        generalize (bAt l i).2 = sz at *
        have hk := moI_lt kd 5 (by omega)
        have hn := moI_lt sz 30 (by omega)
        have HM : Hid (∀ (n m : Int) (W : World), 1 ≤ m → m ≤ 1000000 → Calls Try.prog 12 #[.int .i64 n, .int .i64 m] W fun e w' => e = .returned (.int .i64 (moI n m)) ∧ w' = W) := fun n m W => mod_any n m W
        go_wp2_with fail
        go_quiet ((go_at_call 12; exact Calls.quiet_of_same (HM.out _ _ _ (by omega) (by omega))))
        generalize moI kd 5 = K at *
        generalize moI sz 30 = N at *
        generalize hW : wr.drewN _ = W at *
        have O1 : Hid (OG cb 67 2 w W (.slice av L.length cv) L) := by rw [← hW]; exact O.out.step (bdN (Below.refl _ _) _)
        clear hW O c0 c1 HM
        have HP : Hid (∀ k n : Int, (∀ j u, [Value.int .i64 k, Value.int .i64 n][j]? = some u → (W.alloc (.cells #[.int .i64 k, .int .i64 n] 67)).cell? ((⟨W.heap.size, 0, none⟩ : Addr).add j) = some u) ∧ (W.alloc (.cells #[.int .i64 k, .int .i64 n] 67)).ownsRow 0 67 2 (.slice av L.length cv) L.length (L.flatMap cb)) := fun k n => ⟨World.news_of_block (heap_alloc_new W _), World.ownsRow.alloc O1.out.row _⟩
        have hk5 : K = 0 ∨ K = 1 ∨ K = 2 ∨ K = 3 ∨ K = 4 := by omega
        have HP2 : Hid (∀ k n : Int, (∀ j u, [Value.int .i64 k, Value.int .i64 n, Value.int .i64 0, Value.int .i64 0][j]? = some u → (W.alloc (.cells #[.int .i64 k, .int .i64 n, .int .i64 0, .int .i64 0] 67)).cell? ((⟨W.heap.size, 0, none⟩ : Addr).add j) = some u) ∧ (W.alloc (.cells #[.int .i64 k, .int .i64 n, .int .i64 0, .int .i64 0] 67)).ownsRow 0 67 2 (.slice av L.length cv) L.length (L.flatMap cb)) := fun k n => ⟨World.news_of_block (heap_alloc_new W _), World.ownsRow.alloc O1.out.row _⟩
        rcases hk5 with rfl | rfl | rfl | rfl | rfl
        · go_wp2_with (at_builtin; refine wpList_append_lies _ rfl _ _ 23 rfl 0 67 i0 _ 2 16 Try.underlying23 hi0 hz0 hz1 hz2 rfl (by omega) (.slice av L.length cv) L.length (L.flatMap cb) rfl (by exact (HP.out _ _).2) ⟨W.heap.size, 0, none⟩ 1 1 _ rfl rfl (by exact (HP.out _ _).1) (by simp [Value.oneCell']) (by omega) (by simp only [maxLen]; omega) (by omega) (Nat.zero_le _) (W.heap.size + 1) (by simp) ?_)
          intro g cap2 w4 ho hg hat hbel
          have O2 := Lib.hid (O1.out.take (N := [(0, 0)]) ho hg hat rfl rfl)
          have A2 : Hid (AB (L ++ [(0, 0)])) := A.out.one (by omega)
          clear ho hg hat HP HP2 O1
          go_wp2_with fail
          go_roundw
          case rel => exact ⟨i + 1, L ++ [(0, 0)], by omega, by go_num, O2, A2, by simp; omega⟩
          case measure => simp [intOf]; omega
        · go_wp2_with (at_builtin; refine wpList_append_lies _ rfl _ _ 23 rfl 0 67 i0 _ 2 16 Try.underlying23 hi0 hz0 hz1 hz2 rfl (by omega) (.slice av L.length cv) L.length (L.flatMap cb) rfl (by exact (HP.out _ _).2) ⟨W.heap.size, 0, none⟩ 1 1 _ rfl rfl (by exact (HP.out _ _).1) (by simp [Value.oneCell']) (by omega) (by simp only [maxLen]; omega) (by omega) (Nat.zero_le _) (W.heap.size + 1) (by simp) ?_)
          intro g cap2 w4 ho hg hat hbel
          have O2 := Lib.hid (O1.out.take (N := [(1, 2 + N % 7)]) ho hg hat rfl rfl)
          have A2 : Hid (AB (L ++ [(1, 2 + N % 7)])) := A.out.one (by omega)
          clear ho hg hat HP HP2 O1
          go_wp2_with fail
          go_roundw
          case rel => exact ⟨i + 1, L ++ [(1, 2 + N % 7)], by omega, by go_num, O2, A2, by simp; omega⟩
          case measure => simp [intOf]; omega
        · go_wp2_with (at_builtin; refine wpList_append_lies _ rfl _ _ 23 rfl 0 67 i0 _ 2 16 Try.underlying23 hi0 hz0 hz1 hz2 rfl (by omega) (.slice av L.length cv) L.length (L.flatMap cb) rfl (by exact (HP.out _ _).2) ⟨W.heap.size, 0, none⟩ 1 1 _ rfl rfl (by exact (HP.out _ _).1) (by simp [Value.oneCell']) (by omega) (by simp only [maxLen]; omega) (by omega) (Nat.zero_le _) (W.heap.size + 1) (by simp) ?_)
          intro g cap2 w4 ho hg hat hbel
          have O2 := Lib.hid (O1.out.take (N := [(2, 8 + N % 16)]) ho hg hat rfl rfl)
          have A2 : Hid (AB (L ++ [(2, 8 + N % 16)])) := A.out.one (by omega)
          clear ho hg hat HP HP2 O1
          go_wp2_with fail
          go_roundw
          case rel => exact ⟨i + 1, L ++ [(2, 8 + N % 16)], by omega, by go_num, O2, A2, by simp; omega⟩
          case measure => simp [intOf]; omega
        · by_cases h2 : (L.length : Int) + 2 ≤ mx
          · by_cases h8 : N % 8 = 7
            · have h8' : (N % 8 != 7) = false := by simp [h8]
              go_wp2_with (at_builtin; refine wpList_append_lies _ rfl _ _ 23 rfl 0 67 i0 _ 2 16 Try.underlying23 hi0 hz0 hz1 hz2 rfl (by omega) (.slice av L.length cv) L.length (L.flatMap cb) rfl (by exact (HP2.out _ _).2) ⟨W.heap.size, 0, none⟩ 2 2 _ rfl rfl (by exact (HP2.out _ _).1) (by simp [Value.oneCell']) (by omega) (by simp only [maxLen]; omega) (by omega) (Nat.zero_le _) (W.heap.size + 1) (by simp) ?_)
              intro g cap2 w4 ho hg hat hbel
              have O2 := Lib.hid (O1.out.take (N := [(3, 30 + N % 4), (0, 0)]) ho hg hat rfl rfl)
              have A2 : Hid (AB (L ++ [(3, 30 + N % 4), (0, 0)])) := A.out.two (by omega)
              clear ho hg hat HP HP2 O1
              go_wp2_with fail
              go_roundw
              case rel => exact ⟨i + 1, L ++ [(3, 30 + N % 4), (0, 0)], by omega, by go_num, O2, A2, by simp; omega⟩
              case measure => simp [intOf]; omega
            · have h8' : (N % 8 != 7) = true := by simp [h8]
              go_wp2_with (at_builtin; refine wpList_append_lies _ rfl _ _ 23 rfl 0 67 i0 _ 2 16 Try.underlying23 hi0 hz0 hz1 hz2 rfl (by omega) (.slice av L.length cv) L.length (L.flatMap cb) rfl (by exact (HP2.out _ _).2) ⟨W.heap.size, 0, none⟩ 2 2 _ rfl rfl (by exact (HP2.out _ _).1) (by simp [Value.oneCell']) (by omega) (by simp only [maxLen]; omega) (by omega) (Nat.zero_le _) (W.heap.size + 1) (by simp) ?_)
              intro g cap2 w4 ho hg hat hbel
              have O2 := Lib.hid (O1.out.take (N := [(3, 8 + N % 16), (0, 0)]) ho hg hat rfl rfl)
              have A2 : Hid (AB (L ++ [(3, 8 + N % 16), (0, 0)])) := A.out.two (by omega)
              clear ho hg hat HP HP2 O1
              go_wp2_with fail
              go_roundw
              case rel => exact ⟨i + 1, L ++ [(3, 8 + N % 16), (0, 0)], by omega, by go_num, O2, A2, by simp; omega⟩
              case measure => simp [intOf]; omega
          · by_cases h8 : N % 8 = 7
            · have h8' : (N % 8 != 7) = false := by simp [h8]
              go_wp2_with fail
              go_roundw
              case rel => exact ⟨i + 1, L, by omega, by go_num, O1, A, hL⟩
              case measure => simp [intOf]; omega
            · have h8' : (N % 8 != 7) = true := by simp [h8]
              go_wp2_with fail
              go_roundw
              case rel => exact ⟨i + 1, L, by omega, by go_num, O1, A, hL⟩
              case measure => simp [intOf]; omega
        · by_cases h2 : (L.length : Int) + 2 ≤ mx
          · by_cases h8 : N % 8 = 7
            · have h8' : (N % 8 != 7) = false := by simp [h8]
              go_wp2_with (at_builtin; refine wpList_append_lies _ rfl _ _ 23 rfl 0 67 i0 _ 2 16 Try.underlying23 hi0 hz0 hz1 hz2 rfl (by omega) (.slice av L.length cv) L.length (L.flatMap cb) rfl (by exact (HP2.out _ _).2) ⟨W.heap.size, 0, none⟩ 2 2 _ rfl rfl (by exact (HP2.out _ _).1) (by simp [Value.oneCell']) (by omega) (by simp only [maxLen]; omega) (by omega) (Nat.zero_le _) (W.heap.size + 1) (by simp) ?_)
              intro g cap2 w4 ho hg hat hbel
              have O2 := Lib.hid (O1.out.take (N := [(4, 30 + N % 4), (0, 0)]) ho hg hat rfl rfl)
              have A2 : Hid (AB (L ++ [(4, 30 + N % 4), (0, 0)])) := A.out.two (by omega)
              clear ho hg hat HP HP2 O1
              go_wp2_with fail
              go_roundw
              case rel => exact ⟨i + 1, L ++ [(4, 30 + N % 4), (0, 0)], by omega, by go_num, O2, A2, by simp; omega⟩
              case measure => simp [intOf]; omega
            · have h8' : (N % 8 != 7) = true := by simp [h8]
              go_wp2_with (at_builtin; refine wpList_append_lies _ rfl _ _ 23 rfl 0 67 i0 _ 2 16 Try.underlying23 hi0 hz0 hz1 hz2 rfl (by omega) (.slice av L.length cv) L.length (L.flatMap cb) rfl (by exact (HP2.out _ _).2) ⟨W.heap.size, 0, none⟩ 2 2 _ rfl rfl (by exact (HP2.out _ _).1) (by simp [Value.oneCell']) (by omega) (by simp only [maxLen]; omega) (by omega) (Nat.zero_le _) (W.heap.size + 1) (by simp) ?_)
              intro g cap2 w4 ho hg hat hbel
              have O2 := Lib.hid (O1.out.take (N := [(4, 8 + N % 16), (0, 0)]) ho hg hat rfl rfl)
              have A2 : Hid (AB (L ++ [(4, 8 + N % 16), (0, 0)])) := A.out.two (by omega)
              clear ho hg hat HP HP2 O1
              go_wp2_with fail
              go_roundw
              case rel => exact ⟨i + 1, L ++ [(4, 8 + N % 16), (0, 0)], by omega, by go_num, O2, A2, by simp; omega⟩
              case measure => simp [intOf]; omega
          · by_cases h8 : N % 8 = 7
            · have h8' : (N % 8 != 7) = false := by simp [h8]
              go_wp2_with fail
              go_roundw
              case rel => exact ⟨i + 1, L, by omega, by go_num, O1, A, hL⟩
              case measure => simp [intOf]; omega
            · have h8' : (N % 8 != 7) = true := by simp [h8]
              go_wp2_with fail
              go_roundw
              case rel => exact ⟨i + 1, L, by omega, by go_num, O1, A, hL⟩
              case measure => simp [intOf]; omega
      · have y2 : ¬ (L.length : Int) < mx := hLm
        go_wp2_with fail
        go_ret
        exact ⟨_, L, rfl, O.out, A.out, hL⟩
    · have y1 : ¬ (i : Int) < len := by omega
      go_wp2_with fail
      go_ret
      exact ⟨_, L, rfl, O.out, A.out, hL⟩
end Go.Proofs.Ytedihfcbpgogoaa
