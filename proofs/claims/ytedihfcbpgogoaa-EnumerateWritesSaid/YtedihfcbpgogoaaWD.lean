/- Writes: program and reference; equality of accesses. No condition but that the rows lie in memory. -/
import Derived.Test.YtedihfcbpgogoaaWC
namespace Go.Proofs.Ytedihfcbpgogoaa
open Go.RowKit
theorem fields44 : (Try.prog.fieldsOf 44).toList.map (fun f => (f.type, f.offset)) = [(3, 0), (3, 1), (3, 2), (4, 3), (42, 4)] := by kernel_rfl
theorem names44 : ((Try.prog.fieldsOf 44).toList.all fun f => f.name != "_") = true := by kernel_rfl
theorem under44 : Try.prog.underlying 44 = some (.struct (Try.prog.fieldsOf 44)) := by kernel_rfl
theorem part44 (a b c : Int) (d : Bool) (e : Int) (w : World) : Sem.run Try.prog (part 3 #[.int .i64 a, .int .i64 b, .int .i64 c, .bool d, .int .u64 e] 0) w = .ok (.int .i64 a) w ∧ Sem.run Try.prog (part 3 #[.int .i64 a, .int .i64 b, .int .i64 c, .bool d, .int .u64 e] 1) w = .ok (.int .i64 b) w ∧ Sem.run Try.prog (part 3 #[.int .i64 a, .int .i64 b, .int .i64 c, .bool d, .int .u64 e] 2) w = .ok (.int .i64 c) w ∧ Sem.run Try.prog (part 4 #[.int .i64 a, .int .i64 b, .int .i64 c, .bool d, .int .u64 e] 3) w = .ok (.bool d) w ∧ Sem.run Try.prog (part 42 #[.int .i64 a, .int .i64 b, .int .i64 c, .bool d, .int .u64 e] 4) w = .ok (.int .u64 e) w := ⟨by kernel_rfl, by kernel_rfl, by kernel_rfl, by kernel_rfl, by kernel_rfl⟩
theorem neC (a b c : Int) (d : Bool) (e : Int) (w : World) : (binOp .neq 44 (.agg #[.int .i64 a, .int .i64 b, .int .i64 c, .bool d, .int .u64 e]) (.agg #[.int .i64 a, .int .i64 b, .int .i64 c, .bool d, .int .u64 e])).run Try.prog w = .ok (.bool false) w := by
  have h : Sem.run Try.prog (Op.equalIn 10000 44 (.agg #[.int .i64 a, .int .i64 b, .int .i64 c, .bool d, .int .u64 e]) (.agg #[.int .i64 a, .int .i64 b, .int .i64 c, .bool d, .int .u64 e])) w = .ok true w := by
    rw [run_equalIn_struct w 9999 44 _ _ under44 (by kernel_rfl)]
    have h3 : ∀ a : Int, Sem.run Try.prog (Op.equalIn 9999 3 (.int .i64 a) (.int .i64 a)) w = .ok true w := fun a => by rw [run_equalIn_int w 9998 3 .i64 .i64 a a Try.underlying3]; simp
    have h42 : ∀ a : Int, Sem.run Try.prog (Op.equalIn 9999 42 (.int .u64 a) (.int .u64 a)) w = .ok true w := fun a => by rw [run_equalIn_int w 9998 42 .u64 .u64 a a Try.underlying42]; simp
    have h4 : Sem.run Try.prog (Op.equalIn 9999 4 (.bool d) (.bool d)) w = .ok true w := by rw [run_equalIn_bool' w 9998 4 d d Try.underlying4]; simp
    have hf := fields44
    have hn := names44
    obtain ⟨p0, p1, p2, p3, p4⟩ := part44 a b c d e w
    generalize (Try.prog.fieldsOf 44).toList = fs at hf hn ⊢
    rcases fs with _ | ⟨f0, _ | ⟨f1, _ | ⟨f2, _ | ⟨f3, _ | ⟨f4, _ | ⟨f5, r⟩⟩⟩⟩⟩⟩
    · simp at hf
    · simp at hf
    · simp at hf
    · simp at hf
    · simp at hf
    · simp only [List.map_cons, List.map_nil, List.cons.injEq, Prod.mk.injEq, and_true] at hf
      simp only [List.all_cons, List.all_nil, Bool.and_true, Bool.and_eq_true, bne_iff_ne, ne_eq] at hn
      obtain ⟨⟨t0, o0⟩, ⟨t1, o1⟩, ⟨t2, o2⟩, ⟨t3, o3⟩, t4, o4⟩ := hf
      obtain ⟨n0, n1, n2, n3, n4⟩ := hn
      simp [Op.eqFields, n0, n1, n2, n3, n4, t0, t1, t2, t3, t4, o0, o1, o2, o3, o4, p0, p1, p2, p3, p4, h3, h4, h42]
    · simp at hf
  rw [run_neq_struct, h]; rfl
/-- Two rows with the same accesses. -/
theorem OG.cells {w0 w : World} {v : Value} {L : List CO} (h : OG cO 44 5 w0 w v L) : ∃ a cap, v = .slice a L.length cap ∧ L.length ≤ cap ∧ ∀ i, i < L.length → ∃ g, a = some ⟨g, 0, none⟩ ∧ g < w.heap.size ∧ ∀ W, Below w.heap.size w W → W.cell? ⟨g, i * 5, none⟩ = some (.int .i64 (L.getD i ⟨0, 0, 0⟩).fn) ∧ W.cell? ⟨g, i * 5 + 1, none⟩ = some (.int .i64 (L.getD i ⟨0, 0, 0⟩).off) ∧ W.cell? ⟨g, i * 5 + 2, none⟩ = some (.int .i64 1) ∧ W.cell? ⟨g, i * 5 + 3, none⟩ = some (.bool true) ∧ W.cell? ⟨g, i * 5 + 4, none⟩ = some (.int .u64 (L.getD i ⟨0, 0, 0⟩).va) := by
  obtain ⟨a, cap, e, hc⟩ := h.val
  subst e
  refine ⟨a, cap, rfl, hc, fun i hi => ?_⟩
  have hs : SLs cO 5 (fun _ => True) w a L.length cap L := own_SLs h.row rfl (fun x _ => cO_len x) (fun _ _ => trivial)
  obtain ⟨_, _, _, _, h5⟩ := hs
  obtain ⟨b, o, e, hl, hr⟩ := h5 (by intro e; rw [e] at hi; simp at hi)
  have ho : o = 0 := by
    obtain ⟨_, ⟨h2, _⟩ | ⟨g, cap', cur, h2, _⟩⟩ := h.row
    · injection h2 with h2; rw [h2] at e; cases e
    · injection h2 with h2
      rw [h2] at e
      injection e with e
      injection e with _ e _
      exact e.symm
  subst ho
  have hg : L.getD i ⟨0, 0, 0⟩ = L[i] := by rw [List.getD_eq_getElem?_getD, List.getElem?_eq_getElem hi]; rfl
  rw [hg]
  have h6 := hr i _ (List.getElem?_eq_getElem hi)
  rw [Nat.zero_add] at h6
  refine ⟨b, e, hl, fun W hW => ?_⟩
  have h7 : ∀ j u, (cO L[i])[j]? = some u → W.cell? ⟨b, i * 5 + j, none⟩ = some u := fun j u hu => (hW.cell (p := ⟨b, i * 5 + j, none⟩) hl).trans (h6 j u hu)
  exact ⟨h7 0 _ rfl, h7 1 _ rfl, h7 2 _ rfl, h7 3 _ rfl, h7 4 _ rfl⟩
set_option maxHeartbeats 1000000 in
theorem equalC_same {w0 w1 w : World} {v v' : Value} {L : List CO} (h : OG cO 44 5 w0 w v L) (h' : OG cO 44 5 w1 w v' L) (hL : L.length ≤ 1000000) :
    Calls Try.prog 17 #[v, v'] w fun e w' => e = .returned (.bool true) ∧ Below w.heap.size w w' := by
  obtain ⟨a, cap, rfl, hcp, f1⟩ := h.cells
  obtain ⟨a', cap', rfl, hcp', f2⟩ := h'.cells
  have H := Lib.hid f1
  have H' := Lib.hid f2
  clear f1 f2 h h'
  obtain ⟨n, hn⟩ : ∃ n, L.length = n := ⟨_, rfl⟩
  rw [hn] at hcp hcp' H H' hL ⊢
  clear hn
  have hnn : ((n : Int) != (n : Int)) = false := by simp
  go_enter Try.func17, Try.ntmps17
  go_wp2_with fail
  go_loopw [5] (fun z wr => ∃ i : Nat, i ≤ n ∧ z = .int .i64 (i : Int) ∧ Hid (Below w.heap.size w wr)) (fun z _ => n - (intOf z).toNat)
  case atStart => exact ⟨0, by omega, rfl, Below.refl _ _⟩
  case round =>
    obtain ⟨i, hi, rfl, B⟩ := hrel
    by_cases hin : i < n
    · have y1 : (i : Int) < n := by omega
      obtain ⟨g, rfl, hg, c'⟩ := H.out i hin
      obtain ⟨g', rfl, hg', d'⟩ := H'.out i hin
      obtain ⟨c0, c1, c2, c3, c4⟩ := c' wr B.out
      obtain ⟨d0, d1, d2, d3, d4⟩ := d' wr B.out
      generalize L.getD i ⟨0, 0, 0⟩ = x at *
      have hne : ∀ W, (binOp .neq 44 (.agg #[.int .i64 x.fn, .int .i64 x.off, .int .i64 1, .bool true, .int .u64 x.va]) (.agg #[.int .i64 x.fn, .int .i64 x.off, .int .i64 1, .bool true, .int .u64 x.va])).run Try.prog W = .ok (.bool false) W := fun W => neC _ _ _ _ _ W
      clear c' d'
      go_wp2_with fail
      go_quiet (fail)
      go_wp2_with fail
      go_roundw
      case rel => exact ⟨i + 1, by omega, by go_num, bdN B.out _⟩
      case measure => simp [intOf]; omega
    · have y1 : ¬ (i : Int) < n := by omega
      go_wp2_with fail
      go_ret
      exact ⟨rfl, B.out⟩
def WritesP (T : List Fn) (n : Nat) (b : Nat → BN) (w : World) (e : Ending) (w' : World) : Prop := ∃ v E, e = .returned v ∧ OG cO 44 5 w w' v E ∧ (Asg T n b → E = wrt T b (T.length + 1) (-1)) ∧ (¬ Asg T n b → E = [])
theorem WritesP.no {T : List Fn} {n : Nat} {b : Nat → BN} {w w' : World} (h : ¬ Asg T n b) (hb : Below w.heap.size w w') : WritesP T n b w (.returned (.slice none 0 0)) w' := ⟨_, [], rfl, ⟨World.ownsRow_nil _ _ _ _, (fun g hg => by cases hg), hb⟩, (fun q => absurd q h), fun _ => rfl⟩
theorem WritesP.yes {T : List Fn} {n : Nat} {b : Nat → BN} {w w' : World} {v : Value} (h : Asg T n b) (hb : OG cO 44 5 w w' v (wrt T b (T.length + 1) (-1))) : WritesP T n b w (.returned v) w' := ⟨_, _, rfl, hb, (fun _ => rfl), (fun q => absurd h q)⟩
theorem Writes_any {w : World} {a a' : Option Addr} {len cap n cap' : Nat} {T : List Fn} {b : Nat → BN} (h : FnS w a len cap T) (h' : BS w a' n cap' b) :
    Calls Try.prog 18 #[.slice a len cap, .slice a' n cap'] w (WritesP T n b w) := by
  have H := Lib.hid h
  have H' := Lib.hid h'
  have HL := Lib.hid h.len
  have HV := Lib.hid (assigned_any h h')
  clear h h'
  go_enter Try.func18, Try.ntmps18
  go_wp2_with fail
  refine HV.out.mono ?_
  rintro e w1 ⟨t, rfl, ht, b1⟩
  have B1 := Lib.hid b1
  clear b1
  cases t
  · have hv : Hid (¬ Asg T n b) := Lib.hid (by simpa using ht)
    clear ht
    go_wp2_with fail
    go_ret
    exact WritesP.no hv.out B1.out
  · have hv : Hid (Asg T n b) := Lib.hid (by simpa using ht)
    clear ht
    have hnl : n = len := by have := hv.out.2.2.1; have := HL.out; omega
    subst hnl
    have hl64 : n ≤ 64 := by have := hv.out.1.len; have := HL.out; omega
    have HC := Lib.hid (writes_any hv.out.1.vt H.out (by omega) H'.out (T.length + 1) (-1) [] (.slice none 0 0) w1 (by omega) (by omega) ⟨World.ownsRow_nil _ _ _ _, (fun g hg => by cases hg), B1.out⟩ (by have := wrt_len hv.out.1.vt b (T.length + 1) (-1); have := hv.out.1.len; simp; omega))
    go_wp2_with fail
    refine HC.out.mono ?_
    rintro e w2 ⟨v, rfl, o2, _, _⟩
    have O2 := Lib.hid o2
    clear o2
    go_wp2_with fail
    go_ret
    exact WritesP.yes hv.out (by have := O2.out; simpa using this)
theorem rWrites_any {w : World} {a a' : Option Addr} {len cap n cap' : Nat} {T : List Fn} {b : Nat → BN} (h : FnS w a len cap T) (h' : BS w a' n cap' b) :
    Calls Try.prog 19 #[.slice a len cap, .slice a' n cap'] w (WritesP T n b w) := by
  have H := Lib.hid h
  have H' := Lib.hid h'
  have HL := Lib.hid h.len
  have HV := Lib.hid (numbered_any h h')
  clear h h'
  go_enter Try.func19, Try.ntmps19
  go_wp2_with fail
  refine HV.out.mono ?_
  rintro e w1 ⟨t, rfl, ht, b1⟩
  have B1 := Lib.hid b1
  clear b1
  cases t
  · have hv : Hid (¬ Asg T n b) := Lib.hid (by simpa using ht)
    clear ht
    go_wp2_with fail
    go_ret
    exact WritesP.no hv.out B1.out
  · have hv : Hid (Asg T n b) := Lib.hid (by simpa using ht)
    clear ht
    have hnl : n = len := by have := hv.out.2.2.1; have := HL.out; omega
    subst hnl
    have hl64 : n ≤ 64 := by have := hv.out.1.len; have := HL.out; omega
    have HC := Lib.hid (rwrites_any hv.out.1.vt H.out (by omega) H'.out (T.length + 1) (-1) w1 (by omega) (by omega) B1.out)
    go_wp2_with fail
    refine HC.out.mono ?_
    rintro e w2 ⟨v, rfl, o2⟩
    have O2 := Lib.hid o2
    clear o2
    go_wp2_with fail
    go_ret
    exact WritesP.yes hv.out ⟨O2.out.row, (fun g hg => by have := O2.out.new g hg; have := B1.out.size; omega), bthen B1.out O2.out.bel⟩
theorem WritesP.both {T : List Fn} {n : Nat} {b : Nat → BN} {w w1 w2 w3 : World} {e e' : Ending} (h : WritesP T n b w e w1) (h' : WritesP T n b w2 e' w3) : ∃ v v' E, e = .returned v ∧ e' = .returned v' ∧ OG cO 44 5 w w1 v E ∧ OG cO 44 5 w2 w3 v' E ∧ E.length ≤ 1000 := by
  obtain ⟨v, E, rfl, o, h1, h2⟩ := h
  obtain ⟨v', E', rfl, o', h3, h4⟩ := h'
  by_cases ha : Asg T n b
  · have e1 := h1 ha
    have e2 := h3 ha
    subst e1 e2
    have := wrt_len ha.1.vt b (T.length + 1) (-1)
    have := ha.1.len
    exact ⟨v, v', _, rfl, rfl, o, o', by omega⟩
  · have e1 := h2 ha
    have e2 := h4 ha
    subst e1 e2
    exact ⟨v, v', [], rfl, rfl, o, o', by simp⟩
end Go.Proofs.Ytedihfcbpgogoaa
