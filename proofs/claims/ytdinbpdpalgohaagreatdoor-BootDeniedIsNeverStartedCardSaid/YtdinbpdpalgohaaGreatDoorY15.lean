/- board, awake; what calls do to the variables. Conditions: those that each theorem names. -/
import Derived.Laws.StructEq
import Derived.Test.YtdinbpdpalgohaaGreatDoorY14
import Derived.Test.YtdinbpdpalgohaaGreatDoorY13
namespace Go.Proofs.YtdinbpdpalgohaaGreatDoor
open Go.RowKit
attribute [local go_sem ↓] alloc34 load34 store34 build34 build34o
def bl4V (x y z u : Value) : Option (Array Value) := match x, y, z, u with
  | .int .i64 i, .agg cs, .bool a, .int .i64 n => if cs.size = 32 then some (Value.int .i64 i :: (cs.toList ++ [.bool a, .int .i64 n])).toArray else none
  | _, _, _, _ => none
set_option maxRecDepth 100000 in
theorem build34b (i n : Int) (a : Bool) (f : Nat → Value) (w : World) : Sem.run Tryz.prog (Instr.build 34 #[(0, .int .i64 i), (1, .agg (Ms.arr 32 f)), (2, .bool a), (3, .int .i64 n)]) w = .ok (.agg (Value.int .i64 i :: ((Ms.arr 32 f).toList ++ [.bool a, .int .i64 n])).toArray) w := by kernel_rfl
set_option maxRecDepth 100000 in
theorem build34d (ρ : Operand → Value) (d : Option Tmp) (x y z u : Operand) (ty : TypeId) (p : String) (af : Array Edge) (g : Option (Nat × Bool)) (w : World) :
    Sem.run Tryz.prog (execOp ρ { dst := d, op := .build 34 #[(0, x), (1, y), (2, z), (3, u)], type := ty, pos := p, after := af, guard := g }) w =
      match bl4V (ρ x) (ρ y) (ρ z) (ρ u) with
      | some cs => .ok (.value (.agg cs)) w
      | none => Sem.run Tryz.prog (Instr.build 34 #[(0, ρ x), (1, ρ y), (2, ρ z), (3, ρ u)] >>= fun v => pure (Next.value v)) w := by
  have e : execOp ρ { dst := d, op := .build 34 #[(0, x), (1, y), (2, z), (3, u)], type := ty, pos := p, after := af, guard := g } = Instr.build 34 #[(0, ρ x), (1, ρ y), (2, ρ z), (3, ρ u)] >>= fun v => pure (Next.value v) := by simp [execOp]
  rw [e]
  clear e
  generalize ρ x = X, ρ y = Y, ρ z = Z, ρ u = U
  unfold bl4V
  split
  · next cs h =>
    split at h
    · split at h
      · next hs =>
        injection h with h
        subst h
        rw [Ms.arr_of hs, Sem.run_bind, build34b]
        rfl
      · cases h
    · cases h
  · rfl
theorem ecl_list (i : Int) (d : Str) (a : Bool) (n : Int) : (Value.int .i64 i :: ((Ms.arr 32 (Ms.b8 (dgF d))).toList ++ [.bool a, .int .i64 n])).toArray = Ms.arr 35 (ecl i d a n) := by
  unfold Ms.arr
  congr 1
theorem cs32 (f : Nat → Value) : (Ms.arr 32 f).size = 32 := Ms.arr_size _ _
theorem fieldsSt : (Tryz.prog.fieldsOf 40).toList.map (fun f => (f.type, f.offset)) = [(3, 0), (28, 1)] := by kernel_rfl
theorem namesSt : ((Tryz.prog.fieldsOf 40).toList.all fun f => f.name != "_") = true := by kernel_rfl
theorem underSt : Tryz.prog.underlying 40 = some (.struct (Tryz.prog.fieldsOf 40)) := by kernel_rfl
theorem partSt (a b : Value) (w : World) : Sem.run Tryz.prog (part 3 #[a, b] 0) w = .ok a w ∧ Sem.run Tryz.prog (part 28 #[a, b] 1) w = .ok b w := by
  constructor <;> kernel_rfl
theorem equalSt (a b c d : Int) (w : World) : Sem.run Tryz.prog (Op.equalIn 10000 40 (.agg #[.int .i64 a, .int .i64 b]) (.agg #[.int .i64 c, .int .i64 d])) w = .ok (a == c && b == d) w := by
  rw [run_equalIn_struct w 9999 40 _ _ underSt (by kernel_rfl)]
  have h9 : ∀ x y : Int, Sem.run Tryz.prog (Op.equalIn 9999 3 (.int .i64 x) (.int .i64 y)) w = .ok (x == y) w := fun x y => run_equalIn_int w 9998 3 .i64 .i64 x y Tryz.underlying3
  have h8 : ∀ x y : Int, Sem.run Tryz.prog (Op.equalIn 9999 28 (.int .i64 x) (.int .i64 y)) w = .ok (x == y) w := fun x y => run_equalIn_int w 9998 28 .i64 .i64 x y Tryz.underlying28
  have hf := fieldsSt
  have hn := namesSt
  obtain ⟨p0, p1⟩ := partSt (.int .i64 a) (.int .i64 b) w
  obtain ⟨r0, r1⟩ := partSt (.int .i64 c) (.int .i64 d) w
  generalize (Tryz.prog.fieldsOf 40).toList = fs at hf hn ⊢
  rcases fs with _ | ⟨f0, _ | ⟨f1, _ | ⟨f2, r⟩⟩⟩
  · simp at hf
  · simp at hf
  · simp only [List.map_cons, List.map_nil, List.cons.injEq, Prod.mk.injEq, and_true] at hf
    simp only [List.all_cons, List.all_nil, Bool.and_true, Bool.and_eq_true, bne_iff_ne, ne_eq] at hn
    obtain ⟨⟨t0, o0⟩, t1, o1⟩ := hf
    obtain ⟨n0, n1⟩ := hn
    cases e1 : (a == c) <;> cases e2 : (b == d) <;> simp [Op.eqFields, n0, n1, t0, t1, o0, o1, p0, p1, r0, r1, h9, h8, e1, e2]
  · simp at hf
theorem neSt (a b c d : Int) (w : World) : (binOp .neq 40 (.agg #[.int .i64 a, .int .i64 b]) (.agg #[.int .i64 c, .int .i64 d])).run Tryz.prog w = .ok (.bool (!(a == c && b == d))) w := by
  rw [run_neq_struct, equalSt]; rfl
theorem eqSt (a b c d : Int) (w : World) : (binOp .eql 40 (.agg #[.int .i64 a, .int .i64 b]) (.agg #[.int .i64 c, .int .i64 d])).run Tryz.prog w = .ok (.bool (a == c && b == d)) w := by
  rw [run_eql_struct, equalSt]; rfl
theorem res4 {fn : Func} {t u v x : Tmp} (h : fn.results = #[.tmp t, .tmp u, .tmp v, .tmp x]) (tmps : Array Value) (P : Program) (w : World) :
    (results fn tmps).run P w = .ok (.tuple #[tmps.getD t undef, tmps.getD u undef, tmps.getD v undef, tmps.getD x undef]) w := by
  simp [results, h]
set_option maxRecDepth 100000 in
set_option maxHeartbeats 2000000 in
/-- A manager on a new flash. -/
theorem board_any (E : Nat) (hE : E ≤ 1000) (w : World) (hr : Ms.Rnd w) (h0 : 0 < w.heap.size) : Calls Tryz.prog 12 #[.int .i64 (E : Int)] w fun e w' => ∃ X L M S O fl, e = .returned (.tuple #[fptr X, fptr L, fptr M, .bool true]) ∧ BW w' w.heap.size O M S L 32 ⟨fl, st0, [], [], -1, []⟩ ∧ Cal E 0 fl st0 ∧ Below w.heap.size w w' := by
  obtain ⟨f1, q1, q2⟩ := cal_new (B := 3) (P := 24) (m := E) (by omega) (by omega) (by omega)
  have HQ1 := Lib.hid q1
  have HQ2 := Lib.hid q2
  have HR := Lib.hid hr
  clear q1 q2 hr
  have HNW : Hid (Calls Tryz.prog 33 #[.agg #[.int .i64 3, .int .i64 24, .int .i64 (E : Int)]] w fun e w' => ∃ X y, e = .returned (.tuple #[fptr X, .int .i64 0]) ∧ FW w' (fun k => w.heap.size ≤ k ∧ k < w'.heap.size) X y (newF 3 24 E) ∧ Below w.heap.size w w') := new_any w 3 24 E ⟨by omega, by omega⟩ ⟨by omega, by omega⟩ (by omega)
  go_enter Tryz.func12, Tryz.ntmps12
  go_wp2_with fail
  refine HNW.out.mono ?_
  rintro e w1 ⟨X, y, rfl, hf, b1⟩
  have HB1 := Lib.hid b1
  have HFM : Hid (Calls Tryz.prog 35 #[fptr X] w1 fun e w' => e = .returned (.int .i64 0) ∧ FW w' (fun k => w.heap.size ≤ k ∧ k < w1.heap.size) X y f1 ∧ Ch (fun k => w.heap.size ≤ k ∧ k < w1.heap.size) w1 w') := by
    have := format_any hf
    rw [HQ1.out] at this
    exact this
  clear hf b1 HNW
  go_wp2_with fail
  refine HFM.out.mono ?_
  rintro e w2 ⟨rfl, hf, c2⟩
  have HOP := Lib.hid (open_any hf)
  have HF2 := Lib.hid hf
  have hs12 : w1.heap.size ≤ w2.heap.size := c2.size
  have hs01 : w.heap.size ≤ w1.heap.size := HB1.out.size
  have HB2 : Hid (Below w.heap.size w w2) := HB1.out.trans (c2.below HB1.out.size (fun i hi => hi.1))
  clear hf c2 HFM HB1
  go_wp2_with fail
  refine HOP.out.mono ?_
  rintro e w3 ⟨b3, ⟨c, h1, _⟩ | ⟨st', S, m, DS, h1, rfl, h3, h4, _⟩⟩
  · exfalso
    rw [HQ2.out.inv.opens] at h1
    cases h1
  rw [HQ2.out.inv.opens] at h1
  injection h1 with _ h1
  injection h1 with h1
  subst h1
  have HF3 := Lib.hid (HF2.out.below b3)
  have HS3 := Lib.hid h4
  have HD3 := Lib.hid h3
  have HB3 : Hid (Below w.heap.size w w3) := HB2.out.trans (b3.mono HB2.out.size)
  have hs23 : w2.heap.size ≤ w3.heap.size := b3.size
  have HMN := Lib.hid (Ms.new_any w3)
  clear b3 h3 h4 HOP HF2 HB2
  go_wp2_with fail
  refine HMN.out.mono ?_
  rintro e w4 ⟨rfl, hlg, b4⟩
  have HB4 : Hid (Below w.heap.size w w4) := HB3.out.trans (b4.mono HB3.out.size)
  have hs34 : w3.heap.size < w4.heap.size := Row.lt hlg
  have hws : w.heap.size ≤ w3.heap.size := HB3.out.size
  have HBN := Lib.hid (bnew_any (N := w.heap.size) (HF3.out.below b4) (HS3.out.below b4) hlg (rnd_ch HR.out (Ch.of_below HB4.out (fun _ => False)) id (by omega)) (by omega)
    (fun k hk q => by have := HD3.out k q; omega) ⟨fun q => by omega, fun q => by have := HS3.out.fin _ q; omega⟩ (fun k hk => hk.1) (fun k hk => by have := HD3.out k hk; have := HB3.out.size; have := HF3.out; omega) (by omega) (by omega))
  clear hlg b4 HMN HB3 HF3
  go_wp2_with fail
  refine HBN.out.mono ?_
  rintro e w5 ⟨rfl, hbw, b5⟩
  have HW5 := Lib.hid hbw
  have HB5 : Hid (Below w.heap.size w w5) := HB4.out.trans (b5.mono HB4.out.size)
  clear hbw b5 HBN HB4
  go_wp2_with fail
  exact bodyPost_ret (res4 rfl _ _ _) rfl ⟨X, w3.heap.size, w4.heap.size, S, _, f1, rfl, HW5.out, HQ2.out, HB5.out⟩
end Go.Proofs.YtdinbpdpalgohaaGreatDoor
namespace Go.Proofs.YtdinbpdpalgohaaGreatDoor
open Go.RowKit
theorem ne_EO (i : Nat) : nmO ≠ nmE i := fun h => by have := congrArg List.length h; simp [nmE, nmO] at this
theorem ne_EN (i : Nat) : nmN ≠ nmE i := fun h => by have := congrArg List.length h; simp [nmE, nmN] at this
theorem ne_ED (i : Nat) : nmD ≠ nmE i := fun h => by simp [nmE, nmD] at h
theorem ne_EX (i : Nat) : nmX ≠ nmE i := fun h => by have := congrArg List.length h; simp [nmE, nmX] at this
theorem ne_OD : nmO ≠ nmD := by decide
theorem ne_ON : nmO ≠ nmN := by decide
theorem ne_DN : nmD ≠ nmN := by decide
theorem ne_OX : nmO ≠ nmX := by decide
theorem ne_DX : nmD ≠ nmX := by decide
theorem ne_NX : nmN ≠ nmX := by decide
theorem get_set_ne {V : Vars} {a b v : Str} (h : a ≠ b) : getV (setV V b v) a = getV V a := by rw [getV_set, if_neg h]
theorem get_del_ne {V : Vars} {a b : Str} (h : a ≠ b) : getV (delV V b) a = getV V a := by rw [getV_del, if_neg h]
theorem ordV_congr {V V' : Vars} (h : getV V' nmO = getV V nmO) : ordV V' = ordV V := by unfold ordV; rw [h]
theorem denV_congr {V V' : Vars} (h : getV V' nmD = getV V nmD) : denV V' = denV V := by unfold denV; rw [h]
theorem nxtV_congr {V V' : Vars} (h : getV V' nmN = getV V nmN) : nxtV V' = nxtV V := by unfold nxtV; rw [h]
theorem entV_congr {V V' : Vars} {i : Int} (h : getV V' (nmE i.toNat) = getV V (nmE i.toNat)) : entV V' i = entV V i := by unfold entV; rw [h]
theorem entO_congr {V V' : Vars} {i : Int} (h : getV V' (nmE i.toNat) = getV V (nmE i.toNat)) : entO V' i = entO V i := by unfold entO; rw [entV_congr h]
theorem entO_put {V : Vars} {j : Nat} (hj : j < 16) {d : Str} (hd : d.length = 32) (a : Bool) {n u : Nat} (hn : n ≤ 255) (hu : u ≤ 255) : entO (setV V (nmE j) (entS d a n u)) (j : Int) = some ⟨j, d, a, n, u⟩ := by
  have hid : isId (j : Int) = true := isId_iff.2 ⟨by omega, by omega⟩
  unfold entO
  rw [entV_eq hid, show ((j : Int)).toNat = j from rfl, getV_set, if_pos rfl]
  simp only [Option.filter, okE_entS hd, if_true, Option.map_some, entS_take hd, entS_32 hd, entS_33 hd, entS_34 hd, u8_of hn, u8_of hu]
  cases a <;> rfl
theorem entO_other {V : Vars} {i j : Nat} (hi : i < 256) (hj : j < 256) (h : i ≠ j) (v : Str) : entO (setV V (nmE j) v) (i : Int) = entO V (i : Int) :=
  entO_congr (get_set_ne (fun e => h (nmE_inj hi hj e)))
theorem ordV_put {V : Vars} {l : List Int} (h : okO l = true) : ordV (setV V nmO (ordS l)) = l := by
  unfold ordV
  rw [getV_set, if_pos rfl]
  show (if _ then _ else _) = _
  rw [byI_ordS h, if_pos h]
theorem nxtV_put {V : Vars} {k : Nat} (hk : k < 16) : nxtV (setV V nmN [UInt8.ofNat k]) = [(k : Int)] := by
  unfold nxtV
  rw [getV_set, if_pos rfl]
  show (if _ then _ else _) = _
  rw [u8_of (by omega), if_pos (isId_iff.2 ⟨by omega, by omega⟩)]
/-- All but the variables is kept. -/
def Kp (b b' : BM) : Prop := b'.cand = b.cand ∧ b'.log = b.log ∧ b'.last = b.last ∧ b'.es = b.es
theorem setB_kp (b : BM) (n v : Str) : Kp b (setB b n v).2 := ⟨rfl, rfl, rfl, rfl⟩
theorem delB_kp (b : BM) (n : Str) : Kp b (delB b n).2 := ⟨rfl, rfl, rfl, rfl⟩
theorem Kp.refl (b : BM) : Kp b b := ⟨rfl, rfl, rfl, rfl⟩
section
variable {m k : Nat} {b : BM}
theorem setB_ok (h : Cal m k b.fl b.st) (hk : k < m) {n v : Str} (ho : okVar (n, v)) : ∃ b', setB b n v = (0, b') ∧ Cal m (k + 1) b'.fl b'.st ∧ b'.st.V = setV b.st.V n v ∧ Kp b b' := by
  obtain ⟨g, s, e, h1, h2⟩ := h.set hk ho
  exact ⟨(setB b n v).2, by unfold setB; rw [e], by unfold setB; rw [e]; exact h1, by unfold setB; rw [e]; exact h2, setB_kp _ _ _⟩
theorem delB_ok (h : Cal m k b.fl b.st) (hk : k < m) {v : Str} (hg : getV b.st.V nmN = some v) : ∃ b', delB b nmN = (0, b') ∧ Cal m (k + 1) b'.fl b'.st ∧ b'.st.V = delV b.st.V nmN ∧ Kp b b' := by
  obtain ⟨g, s, e, h1, h2⟩ := h.del hk (n := nmN) (by decide) hg
  exact ⟨(delB b nmN).2, by unfold delB; rw [e], by unfold delB; rw [e]; exact h1, by unfold delB; rw [e]; exact h2, delB_kp _ _⟩
theorem okVar_E {j : Nat} (hj : j < 16) {d : Str} (hd : d.length = 32) (a : Bool) (n u : Nat) : okVar (nmE j, entS d a n u) := .inl ⟨j, hj, rfl, entS_len hd a n u⟩
theorem okVar_O {l : List Int} (h : okO l = true) : okVar (nmO, ordS l) := .inr (.inl ⟨rfl, by show (ordS l).length ≤ 16; rw [ordS_len]; exact okO_len h⟩)
theorem okVar_N (x : UInt8) : okVar (nmN, [x]) := .inr (.inr (.inl ⟨rfl, rfl⟩))
theorem okVar_D {l : List Str} (h : ∀ d ∈ l, d.length = 32) (hl : l.length ≤ 4) : okVar (nmD, l.flatten) := .inr (.inr (.inr (.inl ⟨rfl, by show l.flatten.length ≤ 128; rw [flat32 l h]; omega⟩)))
theorem okVar_X {v : Str} (h : v.length ≤ 50) : okVar (nmX, v) := .inr (.inr (.inr (.inr ⟨rfl, h⟩)))
theorem setEntryB_ok (h : Cal m k b.fl b.st) (hk : k < m) {j : Nat} (hj : j < 16) {d : Str} (hd : d.length = 32) (a : Bool) {n : Nat} (h1 : 1 ≤ n) (h2 : n ≤ 255) :
    ∃ b', setEntryB b (j : Int) d a (n : Int) = (0, b') ∧ Cal m (k + 1) b'.fl b'.st ∧ b'.st.V = setV b.st.V (nmE j) (entS d a n 0) ∧ Kp b b' := by
  unfold setEntryB
  rw [if_pos ⟨isId_iff.2 ⟨by omega, by omega⟩, by omega, by omega⟩]
  exact setB_ok h hk (okVar_E hj hd a n 0)
theorem setOrderB_ok (h : Cal m k b.fl b.st) (hk : k < m) {l : List Int} (ho : okO l = true) : ∃ b', setOrderB b l = (0, b') ∧ Cal m (k + 1) b'.fl b'.st ∧ b'.st.V = setV b.st.V nmO (ordS l) ∧ Kp b b' := by
  unfold setOrderB
  rw [if_pos ho]
  exact setB_ok h hk (okVar_O ho)
/-- Begin, whatever the variables. -/
theorem beginB_cal (h : Cal m k b.fl b.st) (hk : k < m) : ∃ b', beginB b = (0, b') ∧ Cal m (k + 1) b'.fl b'.st ∧ b'.st.V = (if getV b.st.V nmN = none then b.st.V else delV b.st.V nmN) ∧ b'.cand = cndV b.st.V ∧ b'.log = [] ∧ b'.last = -1 ∧ b'.es = b.es := by
  rcases hg : getV b.st.V nmN with _ | v
  · rw [beginB_none hg]
    exact ⟨_, rfl, h.mono (Nat.le_succ _), by rw [if_pos rfl], rfl, rfl, rfl, rfl⟩
  · obtain ⟨b', e, h1, h2, h3⟩ := delB_ok h hk hg
    rw [beginB_ok hg (by rw [e]), e]
    exact ⟨_, rfl, h1, by rw [if_neg (by simp)]; exact h2, rfl, rfl, rfl, h3.2.2.2⟩
theorem tryB_none {l : List ByteArray} (hc : b.cand = []) : tryB b l = ((0, 0), 6, b) := by unfold tryB; rw [hc]
theorem tryB_skip {l : List ByteArray} {x c : Int} {r : List Int} (hc : b.cand = x :: r) (h : exC b.st.V x.toNat l = c) (h0 : c ≠ 0) : tryB b l = ((x, c), 0, { b with cand := r, log := b.log ++ [(x, c)] }) := by
  unfold tryB
  rw [hc]
  simp only [h]
  rw [if_neg h0]
theorem tryB_start {l : List ByteArray} (h : Cal m k b.fl b.st) (hk : k < m) {x : Nat} {r : List Int} (hx : x < 16) (hc : b.cand = (x : Int) :: r) {e : En} (hO : entO b.st.V (x : Int) = some e) (h0 : exC b.st.V x l = 0) :
    ∃ b', tryB b l = (((x : Int), 0), 0, b') ∧ Cal m (k + 1) b'.fl b'.st ∧ b'.st.V = setV b.st.V (nmE x) (entS e.d e.a e.n (e.u + 1)) ∧ b'.cand = [] ∧ b'.log = b.log ++ [((x : Int), 0)] ∧ b'.last = x ∧ b'.es = b.es ++ [⟨4, Ms.sumD (l.getD x ⟨#[]⟩).data.toList, bootT⟩] := by
  have hE : exE b.st.V (x : Int) = e := by unfold exE; rw [hO]; rfl
  obtain ⟨b', e1, e2, e3, e4⟩ := setB_ok h hk (okVar_E hx (entO_some hO).2.2.1 e.a e.n (e.u + 1))
  refine ⟨{ b' with cand := [], log := b.log ++ [((x : Int), 0)], last := x, es := b.es ++ [⟨4, Ms.sumD (l.getD x ⟨#[]⟩).data.toList, bootT⟩] }, ?_, e2, e3, rfl, rfl, rfl, rfl⟩
  unfold tryB
  rw [hc]
  simp only [show ((x : Int)).toNat = x from rfl, h0, hE, e1, if_true, ne_eq, not_true, if_false]
theorem entO_congrN {V V' : Vars} {i : Nat} (h : getV V' (nmE i) = getV V (nmE i)) : entO V' (i : Int) = entO V (i : Int) := entO_congr h
theorem exC_some {V : Vars} {i : Nat} {l : List ByteArray} {e : En} (h : entO V (i : Int) = some e) : exC V i l = if l.length ≤ i ∨ (l.getD i ⟨#[]⟩).size = 0 then 6 else if e.a = false then 9 else if sumS (l.getD i ⟨#[]⟩) ≠ e.d then 21 else if e.d ∈ denV V then 13 else if e.n ≤ e.u then 14 else 0 := by
  unfold exC; rw [h]
end
end Go.Proofs.YtdinbpdpalgohaaGreatDoor
namespace Go.Proofs.YtdinbpdpalgohaaGreatDoor
open Go.RowKit
/-- A manager; the blocks of F belong to others. -/
def BF (w : World) (N : Nat) (F : Nat → Prop) (M S L n : Nat) (b : BM) : Prop := ∃ O, BW w N O M S L n b ∧ ∀ k, F k → ¬ O k ∧ k < w.heap.size
section
variable {w w' : World} {N M S L n : Nat} {F : Nat → Prop} {b b' : BM}
theorem BF.of (O : Nat → Prop) (h : BW w N O M S L n b) : BF w N (fun _ => False) M S L n b := ⟨O, h, fun _ h => h.elim⟩
theorem BF.below (h : BF w N F M S L n b) (c : Below w.heap.size w w') : BF w' N F M S L n b := by
  obtain ⟨O, h1, h2⟩ := h
  exact ⟨O, h1.below c, fun k hk => ⟨(h2 k hk).1, Nat.lt_of_lt_of_le (h2 k hk).2 c.size⟩⟩
theorem BF.add (h : BF w N F M S L n b) (c : Below w.heap.size w w') {E : Nat} (h1 : w.heap.size ≤ E) (h2 : E < w'.heap.size) : BF w' N (fun k => F k ∨ k = E) M S L n b := by
  obtain ⟨O, q1, q2⟩ := h
  refine ⟨O, q1.below c, fun k hk => ?_⟩
  rcases hk with hk | rfl
  · exact ⟨(q2 k hk).1, Nat.lt_of_lt_of_le (q2 k hk).2 c.size⟩
  · exact ⟨fun hO => by have := (q1.oN k hO).2; omega, h2⟩
theorem BF.less {F' : Nat → Prop} (h : BF w N F M S L n b) (hF : ∀ k, F' k → F k) : BF w N F' M S L n b := by
  obtain ⟨O, q1, q2⟩ := h
  exact ⟨O, q1, fun k hk => q2 k (hF k hk)⟩
theorem BF.mono (h : BF w N F M S L n b) {n' : Nat} (hn : n ≤ n') : BF w N F M S L n' b := by
  obtain ⟨O, q1, q2⟩ := h
  exact ⟨O, q1.mono hn, q2⟩
theorem BF.lt (h : BF w N F M S L n b) : ∀ k, F k → k < w.heap.size := by obtain ⟨O, q1, q2⟩ := h; exact fun k hk => (q2 k hk).2
theorem BF.rnd (h : BF w N F M S L n b) : Ms.Rnd w := by obtain ⟨O, q1, q2⟩ := h; exact q1.rnd
theorem BF.pos (h : BF w N F M S L n b) : 0 < w.heap.size := by obtain ⟨O, q1, q2⟩ := h; exact q1.pos
theorem BF.N_le (h : BF w N F M S L n b) : N ≤ w.heap.size := by obtain ⟨O, q1, q2⟩ := h; exact q1.N_le
theorem BF.hv (h : BF w N F M S L n b) : ∀ p ∈ b.st.V, p.1.length ≤ 24 ∧ p.2.length ≤ 128 := by obtain ⟨O, q1, q2⟩ := h; exact q1.hv
/-- What a call leaves. -/
structure BL (w w' : World) (N : Nat) (F : Nat → Prop) (M S L n : Nat) (b : BM) : Prop where
  bf : BF w' N F M S L n b
  ch : Ch (fun k => ¬ F k) w w'
  bel : Below N w w'
theorem MLeft.bl {O : Nat → Prop} {n' : Nat} (h : MLeft w w' N O M S L n b') (h1 : BW w N O M S L n' b) (h2 : ∀ k, F k → ¬ O k ∧ k < w.heap.size) : BL w w' N F M S L n b' := by
  have hb := h1.below_of (by obtain ⟨_, _, _, c⟩ := h; exact c)
  obtain ⟨O', q1, q2, q3⟩ := h
  exact ⟨⟨O', q2, fun k hk => ⟨fun hO => (q1 k hO).elim (h2 k hk).1 (fun q => by have := (h2 k hk).2; omega), Nat.lt_of_lt_of_le (h2 k hk).2 q3.size⟩⟩, q3.mono (fun i hi _ hF => (h2 i hF).1 hi), hb⟩
def LR (w : World) (N : Nat) (F : Nat → Prop) (M S L n : Nat) (r : Int × BM) (e : Ending) (w' : World) : Prop := e = .returned (.int .i64 r.1) ∧ BL w w' N F M S L n r.2
theorem BF.lift (h : BF w N F M S L n b) {f : FuncId} {args : Array Value} {n' : Nat} {r : Int × BM} (c : ∀ O, BW w N O M S L n b → Calls Tryz.prog f args w (MR w N O M S L n' r)) : Calls Tryz.prog f args w (LR w N F M S L n' r) := by
  obtain ⟨O, q1, q2⟩ := h
  exact (c O q1).mono fun e w' h => ⟨h.1, h.2.bl q1 q2⟩
theorem BF.setEntry (h : BF w N F M S L n b) (hb : b.st.blk < b.fl.B) (hn : n < 1000) (i : Int) {d : Str} (hd : d.length = 32) (a : Bool) (k : Int) :
    Calls Tryz.prog 13 #[fptr M, .agg (Ms.arr 35 (ecl i d a k))] w (LR w N F M S L (n + 1) (setEntryB b i d a k)) := h.lift fun _ q => setEntry_any q hb hn i hd a k
theorem BF.setOrder (h : BF w N F M S L n b) (hb : b.st.blk < b.fl.B) (hn : n < 1000) {v : Value} {l : List Int} (hv : RdJ w v l) :
    Calls Tryz.prog 15 #[fptr M, v] w (LR w N F M S L (n + 1) (setOrderB b l)) := h.lift fun _ q => setOrder_any q hb hn hv
theorem BF.setNext (h : BF w N F M S L n b) (hb : b.st.blk < b.fl.B) (hn : n < 1000) (i : Int) :
    Calls Tryz.prog 29 #[fptr M, .int .i64 i] w (LR w N F M S L (n + 1) (setNextB b i)) := h.lift fun _ q => setNext_any q hb hn i
theorem BF.deny (h : BF w N F M S L n b) (hb : b.st.blk < b.fl.B) (hn : n < 1000) {d : Str} (hd : d.length = 32) :
    Calls Tryz.prog 21 #[fptr M, .agg (Ms.arr 32 (Ms.b8 (dgF d)))] w (LR w N F M S L (n + 1) (denyB b d)) := h.lift fun _ q => deny_any q hb hn hd
theorem BF.begin (h : BF w N F M S L n b) (hb : b.st.blk < b.fl.B) (hn : n < 1000) :
    Calls Tryz.prog 16 #[fptr M] w (LR w N F M S L (n + 1) (beginB b)) := h.lift fun _ q => begin_any q hb hn
theorem BF.succ (h : BF w N F M S L n b) (hb : b.st.blk < b.fl.B) (hn : n < 1000) :
    Calls Tryz.prog 18 #[fptr M] w (LR w N F M S L (n + 1) (succB b)) := h.lift fun _ q => succeeded_any q hb hn
theorem BF.put (h : BF w N F M S L n b) (hb : b.st.blk < b.fl.B) (hn : n < 1000) {ke va : ByteArray} (hke : ke.size ≤ 1000000) (hva : va.size ≤ 1000000) {k v : Str} (ek : ke.data.toList = k) (ev : va.data.toList = v) :
    Calls Tryz.prog 43 #[fptr S, .string ke, .string va] w (LR w N F M S L (n + 1) (setB b k v)) := h.lift fun _ q => q.setB hb hn hke hva ek ev
def LT (w : World) (N : Nat) (F : Nat → Prop) (M S L n : Nat) (r : (Int × Int) × Int × BM) (e : Ending) (w' : World) : Prop := e = .returned (.tuple #[.agg #[.int .i64 r.1.1, .int .i64 r.1.2], .int .i64 r.2.1]) ∧ BL w w' N F M S L n r.2.2
theorem BF.try (h : BF w N F M S L n b) (hb : b.st.blk < b.fl.B) (hn : n < 1000) (hc : ∀ x ∈ b.cand, isId x = true) (hes : b.es.length < 256) (hlg : b.log.length ≤ 1000) {v : Value} {l : List ByteArray} (hv : RdT w v l) (hvF : ∀ g, v.ownBlock = some g → F g) (hs : ∀ x ∈ l, x.size ≤ 1073741824) :
    Calls Tryz.prog 17 #[fptr M, v] w (LT w N F M S L (n + 1) (tryB b l)) := by
  obtain ⟨O, q1, q2⟩ := h
  exact (try_any q1 hb hn hc hes hlg hv (fun g hg => (q2 g (hvF g hg)).1) hs).mono fun e w' h => ⟨h.1, h.2.bl q1 q2⟩
theorem BF.entry (h : BF w N F M S L n b) (i : Int) : Calls Tryz.prog 19 #[fptr M, .int .i64 i] w fun e w' => e = .returned (entT b.st.V i) ∧ Below w.heap.size w w' := by
  obtain ⟨O, q1, q2⟩ := h; exact bentry_any q1 i
theorem BF.order (h : BF w N F M S L n b) : Calls Tryz.prog 27 #[fptr M] w (NewI w (ordV b.st.V)) := by
  obtain ⟨O, q1, q2⟩ := h; exact order_any q1
theorem BF.denied (h : BF w N F M S L n b) : Calls Tryz.prog 23 #[fptr M] w (NewD w (denV b.st.V)) := by
  obtain ⟨O, q1, q2⟩ := h; exact denied_any q1
theorem BF.log (h : BF w N F M S L n b) (hl : b.log.length ≤ 1000) : Calls Tryz.prog 47 #[fptr M] w (NewS w b.log) := by
  obtain ⟨O, q1, q2⟩ := h; exact blog_any q1 hl
theorem BF.events (h : BF w N F M S L n b) (hl : b.es.length ≤ 1000) : Calls Tryz.prog 28 #[fptr L] w (Ms.NewE w b.es) := by
  obtain ⟨O, q1, q2⟩ := h; exact Ms.events_any N L b.es w q1.log hl
end
/-- The images of a law, in a row of their own. -/
theorem rdT_new (w : World) (cs : Array Value) (l : List ByteArray) (h : cs.toList = l.map Value.string) (hl : l.length ≤ 1000) : RdT (w.alloc (.cells cs 9)) (.slice (some ⟨w.heap.size, 0, none⟩) l.length l.length) l := by
  refine ⟨_, _, rfl, Nat.le_refl _, by unfold maxLen; omega, fun g hg => ?_, fun _ => ⟨w.heap.size, 0, rfl, fun i x hx => ?_⟩⟩
  · have e : w.heap.size = g := by simpa [Value.ownBlock] using hg
    rw [← e]; simp
  · rw [Nat.zero_add, cell_of_row (w.alloc (.cells cs 9)) w.heap.size i cs _ (0, 0) (heap_alloc_new w _), ← Array.getElem?_toList, h, List.getElem?_map, hx]
    rfl
theorem rdI_new (w : World) (cs : Array Value) (l : List Int) (h : cs.toList = ints l) (hl : l.length ≤ 1000) : RdI (w.alloc (.cells cs 3)) (.slice (some ⟨w.heap.size, 0, none⟩) l.length l.length) l := by
  refine ⟨_, _, rfl, Nat.le_refl _, by unfold maxLen; omega, fun g hg => ?_, fun _ => ⟨w.heap.size, 0, rfl, fun i x hx => ?_⟩⟩
  · have e : w.heap.size = g := by simpa [Value.ownBlock] using hg
    rw [← e]; simp
  · rw [Nat.zero_add, cell_of_row (w.alloc (.cells cs 3)) w.heap.size i cs _ (0, 0) (heap_alloc_new w _), ← Array.getElem?_toList, h]
    unfold ints
    rw [List.getElem?_map, hx]
    rfl
end Go.Proofs.YtdinbpdpalgohaaGreatDoor
namespace Go.Proofs.YtdinbpdpalgohaaGreatDoor
open Go.RowKit
attribute [local go_sem ↓] alloc34 load34 store34 build34d build34o Ms.alloc26 Ms.load26n Ms.store26n
attribute [local go_sem] Ms.set_new Ms.stN_b8 bl4V ecl_list cs32
def kern : ByteArray := ⟨#[107, 101, 114, 110, 101, 108]⟩
theorem Cal.blk {m k : Nat} {fl : FL} {st : ST} (h : Cal m k fl st) : st.blk < fl.B := h.inv.blk
theorem awake_plain {fl : FL} (h : Cal 100 0 fl st0) : ∃ b1 b2 b3 b4 b5 b6 : BM,
    (setEntryB ⟨fl, st0, [], [], -1, []⟩ 0 (sumS kern) true 2 = (0, b1) ∧ b1.st.blk < b1.fl.B) ∧
    (setEntryB b1 1 (sumS kern) true 2 = (0, b2) ∧ b2.st.blk < b2.fl.B) ∧
    (setOrderB b2 [0, 1] = (0, b3) ∧ b3.st.blk < b3.fl.B) ∧
    (beginB b3 = (0, b4) ∧ b4.st.blk < b4.fl.B ∧ b4.cand = [0, 1] ∧ b4.es = [] ∧ b4.log = []) ∧
    (tryB b4 [⟨#[]⟩, kern] = ((0, 6), 0, b5) ∧ b5.st.blk < b5.fl.B ∧ b5.cand = [1] ∧ b5.es = [] ∧ b5.log.length = 1) ∧
    (tryB b5 [⟨#[]⟩, kern] = ((1, 0), 0, b6) ∧ b6.st.blk < b6.fl.B ∧ b6.cand = [] ∧ b6.es.length = 1 ∧ b6.log.length = 2) := by
  have hD := sumS_len kern
  obtain ⟨D, hDD⟩ : ∃ D, sumS kern = D := ⟨_, rfl⟩
  rw [hDD] at hD ⊢
  have h0 : Cal 100 0 (⟨fl, st0, [], [], -1, []⟩ : BM).fl (⟨fl, st0, [], [], -1, []⟩ : BM).st := h
  obtain ⟨b1, e1, c1, v1, k1⟩ := setEntryB_ok h0 (by omega) (j := 0) (by omega) hD true (n := 2) (by omega) (by omega)
  obtain ⟨b2, e2, c2, v2, k2⟩ := setEntryB_ok c1 (by omega) (j := 1) (by omega) hD true (n := 2) (by omega) (by omega)
  have hok : okO [0, 1] = true := by decide
  obtain ⟨b3, e3, c3, v3, k3⟩ := setOrderB_ok c2 (by omega) hok
  obtain ⟨b4, e4, c4, v4, d4, l4, s4, n4⟩ := beginB_cal c3 (by omega)
  have gN : getV b3.st.V nmN = none := by
    rw [v3, get_set_ne (fun e => ne_ON e.symm), v2, get_set_ne (ne_EN 1), v1, get_set_ne (ne_EN 0)]
    rfl
  have gD : denV b3.st.V = [] := by
    have : getV b3.st.V nmD = none := by
      rw [v3, get_set_ne (fun e => ne_OD e.symm), v2, get_set_ne (ne_ED 1), v1, get_set_ne (ne_ED 0)]
      rfl
    unfold denV; rw [this]
  rw [gN, if_pos rfl] at v4
  have hord : ordV b3.st.V = [0, 1] := by rw [v3, ordV_put hok]
  have hnx : nxtV b3.st.V = [] := by unfold nxtV; rw [gN]
  have hcd : b4.cand = [0, 1] := by rw [d4]; unfold cndV; rw [hnx, hord]; rfl
  have he4 : b4.es = [] := by rw [n4, k3.2.2.2, k2.2.2.2, k1.2.2.2]
  have E0 : entO b3.st.V ((0 : Nat) : Int) = some ⟨0, D, true, 2, 0⟩ := by
    rw [v3, entO_congrN (get_set_ne (ne_EO 0).symm), v2, entO_other (by omega) (by omega) (by omega), v1]
    exact entO_put (by omega) hD true (by omega) (by omega)
  have E1 : entO b3.st.V ((1 : Nat) : Int) = some ⟨1, D, true, 2, 0⟩ := by
    rw [v3, entO_congrN (get_set_ne (ne_EO 1).symm), v2]
    exact entO_put (by omega) hD true (by omega) (by omega)
  have X0 : exC b4.st.V 0 [⟨#[]⟩, kern] = 6 := by
    rw [exC_some (v4 ▸ E0)]
    exact if_pos (.inr rfl)
  have T0 := tryB_skip (b := b4) (l := [⟨#[]⟩, kern]) hcd X0 (by decide)
  have X1 : exC b4.st.V 1 [⟨#[]⟩, kern] = 0 := by
    have hk : ([⟨#[]⟩, kern] : List ByteArray).getD 1 ⟨#[]⟩ = kern := rfl
    rw [exC_some (v4 ▸ E1), hk, hDD, v4, gD]
    have h1 : ¬ (([⟨#[]⟩, kern] : List ByteArray).length ≤ 1 ∨ kern.size = 0) := by
      rintro (q | q)
      · simp at q
      · exact absurd q (by decide)
    rw [if_neg h1]
    simp
  obtain ⟨b6, e6, c6, v6, d6, l6, s6, n6⟩ := tryB_start (b := { b4 with cand := [1], log := b4.log ++ [(0, 6)] }) (l := [⟨#[]⟩, kern]) c4 (by omega) (x := 1) (r := []) (by omega) rfl (v4 ▸ E1) X1
  exact ⟨b1, b2, b3, b4, _, b6, ⟨e1, c1.blk⟩, ⟨e2, c2.blk⟩, ⟨e3, c3.blk⟩, ⟨e4, c4.blk, hcd, he4, l4⟩, ⟨T0, c4.blk, rfl, he4, by simp [l4]⟩, e6, c6.blk, d6, by rw [n6]; simp [he4], by rw [l6]; simp [l4]⟩
set_option maxRecDepth 100000 in
set_option maxHeartbeats 4000000 in
theorem awake_any (w : World) (hr : Ms.Rnd w) (h0 : 0 < w.heap.size) : Calls Tryz.prog 20 #[] w fun e w' => e = .returned (.bool true) ∧ Below w.heap.size w w' := by
  have HBD := Lib.hid (board_any 100 (by omega) w hr h0)
  clear hr
  go_enter Tryz.func20, Tryz.ntmps20
  go_wp2_with fail
  refine HBD.out.mono ?_
  rintro e w1 ⟨X, L, M, S, O, fl, rfl, hbw, hcal, b1⟩
  have HP := Lib.hid (awake_plain hcal)
  have HB1 := Lib.hid b1
  have HF1 := Lib.hid (BF.of O hbw)
  have HK : Hid (kern.size ≤ 1073741824) := by show kern.size ≤ _; decide
  have HSM := Lib.hid (sum_str kern w1 HK.out hbw.rnd hbw.pos)
  have HDL := Lib.hid (sumS_len kern)
  obtain ⟨p1, p2, p3, p4, p5, p6, ⟨e1, k1⟩, ⟨e2, k2⟩, ⟨e3, k3⟩, ⟨e4, k4, d4, s4, l4⟩, ⟨e5, k5, d5, s5, l5⟩, ⟨e6, k6, d6, s6, l6⟩⟩ := HP.out
  generalize sumS kern = D at *
  have k0 : st0.blk < fl.B := hcal.blk
  have HK0 := Lib.hid k0
  have HE1 := Lib.hid (And.intro e1 k1)
  have HE2 := Lib.hid (And.intro e2 k2)
  have HE3 := Lib.hid (And.intro e3 k3)
  have HE4 := Lib.hid (And.intro e4 (And.intro k4 (And.intro d4 (And.intro s4 l4))))
  have HE5 := Lib.hid (And.intro e5 (And.intro k5 (And.intro d5 (And.intro s5 l5))))
  have HE6 := Lib.hid (And.intro e6 (And.intro k6 (And.intro d6 (And.intro s6 l6))))
  clear hbw hcal b1 HBD HP e1 k1 e2 k2 e3 k3 e4 k4 d4 s4 l4 e5 k5 d5 s5 l5 e6 k6 d6 s6 l6 k0
  unfold kern at HSM
  go_wp2_with fail
  refine HSM.out.mono ?_
  rintro e w2 ⟨rfl, b2⟩
  have HB3 : Hid (Below w1.heap.size w1 (w2.alloc (.cells (Ms.arr 32 (Ms.b8 (dgF D))) 31))) := b2.alloc b2.size _
  have HR3 := Lib.hid (dg_row w2 D)
  have HF3 := Lib.hid (HF1.out.add HB3.out (E := w2.heap.size) b2.size HR3.out.lt)
  have HBW3 : Hid (Below w.heap.size w (w2.alloc (.cells (Ms.arr 32 (Ms.b8 (dgF D))) 31))) := HB1.out.trans (HB3.out.mono HB1.out.size)
  have hld := ld26 HR3.out
  have HS1 : Hid (Calls Tryz.prog 13 #[fptr M, .agg (Ms.arr 35 (ecl 0 D true 2))] (w2.alloc (.cells (Ms.arr 32 (Ms.b8 (dgF D))) 31)) fun e w' => e = .returned (.int .i64 0) ∧ BL (w2.alloc (.cells (Ms.arr 32 (Ms.b8 (dgF D))) 31)) w' w.heap.size (fun k => False ∨ k = w2.heap.size) M S L 33 p1) := by
    have := HF3.out.setEntry (n := 32) HK0.out (by omega) 0 HDL.out true 2
    rw [HE1.out.1] at this
    exact this
  clear b2 HSM HF1 HB3
  go_wp2_with fail
  refine HS1.out.mono ?_
  rintro e w4 ⟨rfl, bl4⟩
  generalize w2.heap.size = E at *
  have HR4 := Lib.hid (HR3.out.ch bl4.ch (fun q => q (.inr rfl)))
  have HF4 := Lib.hid bl4.bf
  have HBW4 : Hid (Below w.heap.size w w4) := HBW3.out.trans bl4.bel
  clear bl4 HS1 HF3 HBW3 HR3 hld
  have hld := ld26 HR4.out
  have HS2 : Hid (Calls Tryz.prog 13 #[fptr M, .agg (Ms.arr 35 (ecl 1 D true 2))] w4 fun e w' => e = .returned (.int .i64 0) ∧ BL w4 w' w.heap.size (fun k => False ∨ k = E) M S L 34 p2) := by
    have := HF4.out.setEntry (n := 33) HE1.out.2 (by omega) 1 HDL.out true 2
    rw [HE2.out.1] at this
    exact this
  go_wp2_with fail
  refine HS2.out.mono ?_
  rintro e w5 ⟨rfl, bl5⟩
  have HF5 : Hid (BF w5 w.heap.size (fun k => False ∨ k = E) M S L 34 p2) := bl5.bf
  have HBW5 : Hid (Below w.heap.size w w5) := HBW4.out.trans bl5.bel
  clear bl5 HS2 HF4 HBW4 HR4 hld
  have HB6 : Hid (Below w5.heap.size w5 (w5.alloc (.cells #[.int .i64 0, .int .i64 1] 3))) := (Below.refl _ _).alloc (Nat.le_refl _) _
  have HF6 := Lib.hid (HF5.out.below HB6.out)
  have HI6 : Hid (RdI (w5.alloc (.cells #[.int .i64 0, .int .i64 1] 3)) (.slice (some ⟨w5.heap.size, 0, none⟩) 2 2) [0, 1]) := rdI_new w5 _ [0, 1] rfl (by simp)
  have HS3 : Hid (Calls Tryz.prog 15 #[fptr M, .slice (some ⟨w5.heap.size, 0, none⟩) 2 2] (w5.alloc (.cells #[.int .i64 0, .int .i64 1] 3)) fun e w' => e = .returned (.int .i64 0) ∧ BL (w5.alloc (.cells #[.int .i64 0, .int .i64 1] 3)) w' w.heap.size (fun k => False ∨ k = E) M S L 35 p3) := by
    have := HF6.out.setOrder (n := 34) HE2.out.2 (by omega) HI6.out.j
    rw [HE3.out.1] at this
    exact this
  go_wp2_with fail
  refine HS3.out.mono ?_
  rintro e w7 ⟨rfl, bl7⟩
  have HF7 : Hid (BF w7 w.heap.size (fun k => False ∨ k = E) M S L 35 p3) := bl7.bf
  have HBW7 : Hid (Below w.heap.size w w7) := (HBW5.out.trans (HB6.out.mono HBW5.out.size)).trans bl7.bel
  clear bl7 HS3 HF5 HF6 HB6 HI6 HBW5
  have HS4 : Hid (Calls Tryz.prog 16 #[fptr M] w7 fun e w' => e = .returned (.int .i64 0) ∧ BL w7 w' w.heap.size (fun k => False ∨ k = E) M S L 36 p4) := by
    have := HF7.out.begin (n := 35) HE3.out.2 (by omega)
    rw [HE4.out.1] at this
    exact this
  go_wp2_with fail
  refine HS4.out.mono ?_
  rintro e w8 ⟨rfl, bl8⟩
  have HF8 : Hid (BF w8 w.heap.size (fun k => False ∨ k = E) M S L 36 p4) := bl8.bf
  have HBW8 : Hid (Below w.heap.size w w8) := HBW7.out.trans bl8.bel
  clear bl8 HS4 HF7 HBW7
  have HB9 : Hid (Below w8.heap.size w8 (w8.alloc (.cells #[.string ⟨#[]⟩, .string ⟨#[107, 101, 114, 110, 101, 108]⟩] 9))) := (Below.refl _ _).alloc (Nat.le_refl _) _
  have HT9 : Hid (RdT (w8.alloc (.cells #[.string ⟨#[]⟩, .string ⟨#[107, 101, 114, 110, 101, 108]⟩] 9)) (.slice (some ⟨w8.heap.size, 0, none⟩) 2 2) [⟨#[]⟩, kern]) := rdT_new w8 _ [⟨#[]⟩, kern] rfl (by simp)
  have HF9 := Lib.hid (HF8.out.add HB9.out (E := w8.heap.size) (Nat.le_refl _) (by simp))
  have HBW9 : Hid (Below w.heap.size w (w8.alloc (.cells #[.string ⟨#[]⟩, .string ⟨#[107, 101, 114, 110, 101, 108]⟩] 9))) := HBW8.out.trans (HB9.out.mono HBW8.out.size)
  have HSZ : Hid (∀ x ∈ ([⟨#[]⟩, kern] : List ByteArray), x.size ≤ 1073741824) := fun x hx => by
    rcases List.mem_cons.1 hx with rfl | hx
    · decide
    · rw [List.mem_singleton.1 hx]; exact HK.out
  go_wp2_with fail
  generalize w8.alloc (.cells #[.string ⟨#[]⟩, .string ⟨#[107, 101, 114, 110, 101, 108]⟩] 9) = w9 at *
  generalize w8.heap.size = G at *
  clear HF8 HB9 HBW8
  have HS5 : Hid (Calls Tryz.prog 17 #[fptr M, .slice (some ⟨G, 0, none⟩) 2 2] w9 fun e w' => e = .returned (.tuple #[.agg #[.int .i64 0, .int .i64 6], .int .i64 0]) ∧ BL w9 w' w.heap.size (fun k => (False ∨ k = E) ∨ k = G) M S L 37 p5) := by
    have := HF9.out.try (n := 36) HE4.out.2.1 (by omega) (by rw [HE4.out.2.2.1]; decide) (by rw [HE4.out.2.2.2.1]; decide) (by rw [HE4.out.2.2.2.2]; decide) HT9.out (fun g hg => .inr (by simpa [Value.ownBlock] using hg.symm)) HSZ.out
    rw [HE5.out.1] at this
    exact this
  refine HS5.out.mono ?_
  rintro e w10 ⟨rfl, bl10⟩
  have HT11 : Hid (RdT (w10.alloc (.cells #[.int .i64 0, .int .i64 6] 40)) (.slice (some ⟨G, 0, none⟩) 2 2) [⟨#[]⟩, kern]) := (HT9.out.ch bl10.ch (fun g hg q => q (.inr (by simpa [Value.ownBlock] using hg.symm)))).below ((Below.refl _ _).alloc (Nat.le_refl _) _)
  have HR11 : Hid (Row (w10.alloc (.cells #[.int .i64 0, .int .i64 6] 40)) w10.heap.size 40 2 (stp 0 6)) := Row.ofList w10 _ _ _ 2 rfl
  have HF11 := Lib.hid (bl10.bf.add (w' := w10.alloc (.cells #[.int .i64 0, .int .i64 6] 40)) ((Below.refl _ _).alloc (Nat.le_refl _) _) (E := w10.heap.size) (Nat.le_refl _) (by simp))
  have HBW11 : Hid (Below w.heap.size w (w10.alloc (.cells #[.int .i64 0, .int .i64 6] 40))) := (HBW9.out.trans bl10.bel).alloc ((HBW9.out.trans bl10.bel).size) _
  clear bl10 HS5 HF9 HBW9 HT9
  go_wp2_with fail
  generalize w10.alloc (.cells #[.int .i64 0, .int .i64 6] 40) = w11 at *
  generalize w10.heap.size = B1 at *
  have HS6 : Hid (Calls Tryz.prog 17 #[fptr M, .slice (some ⟨G, 0, none⟩) 2 2] w11 fun e w' => e = .returned (.tuple #[.agg #[.int .i64 1, .int .i64 0], .int .i64 0]) ∧ BL w11 w' w.heap.size (fun k => ((False ∨ k = E) ∨ k = G) ∨ k = B1) M S L 38 p6) := by
    have := HF11.out.try (n := 37) HE5.out.2.1 (by omega) (by rw [HE5.out.2.2.1]; decide) (by rw [HE5.out.2.2.2.1]; decide) (by rw [HE5.out.2.2.2.2]; decide) HT11.out (fun g hg => .inl (.inr (by simpa [Value.ownBlock] using hg.symm))) HSZ.out
    rw [HE6.out.1] at this
    exact this
  refine HS6.out.mono ?_
  rintro e w12 ⟨rfl, bl12⟩
  have HT13 : Hid (RdT (w12.alloc (.cells #[.int .i64 1, .int .i64 0] 40)) (.slice (some ⟨G, 0, none⟩) 2 2) [⟨#[]⟩, kern]) := (HT11.out.ch bl12.ch (fun g hg q => q (.inl (.inr (by simpa [Value.ownBlock] using hg.symm))))).below ((Below.refl _ _).alloc (Nat.le_refl _) _)
  have HR13 : Hid (Row (w12.alloc (.cells #[.int .i64 1, .int .i64 0] 40)) w12.heap.size 40 2 (stp 1 0)) := Row.ofList w12 _ _ _ 2 rfl
  have HR11b : Hid (Row (w12.alloc (.cells #[.int .i64 1, .int .i64 0] 40)) B1 40 2 (stp 0 6)) := (HR11.out.ch bl12.ch (fun q => q (.inr rfl))).alloc _
  have HF13 := Lib.hid (bl12.bf.add (w' := w12.alloc (.cells #[.int .i64 1, .int .i64 0] 40)) ((Below.refl _ _).alloc (Nat.le_refl _) _) (E := w12.heap.size) (Nat.le_refl _) (by simp))
  have HBW13 : Hid (Below w.heap.size w (w12.alloc (.cells #[.int .i64 1, .int .i64 0] 40))) := (HBW11.out.trans bl12.bel).alloc ((HBW11.out.trans bl12.bel).size) _
  clear bl12 HS6 HF11 HBW11 HT11 HR11
  go_wp2_with fail
  generalize w12.alloc (.cells #[.int .i64 1, .int .i64 0] 40) = w13 at *
  generalize w12.heap.size = B2 at *
  have HS7 : Hid (Calls Tryz.prog 17 #[fptr M, .slice (some ⟨G, 0, none⟩) 2 2] w13 fun e w' => e = .returned (.tuple #[.agg #[.int .i64 0, .int .i64 0], .int .i64 6]) ∧ BL w13 w' w.heap.size (fun k => (((False ∨ k = E) ∨ k = G) ∨ k = B1) ∨ k = B2) M S L 39 p6) := by
    have := HF13.out.try (n := 38) HE6.out.2.1 (by omega) (by rw [HE6.out.2.2.1]; simp) (by rw [HE6.out.2.2.2.1]; decide) (by rw [HE6.out.2.2.2.2]; decide) HT13.out (fun g hg => .inl (.inl (.inr (by simpa [Value.ownBlock] using hg.symm)))) HSZ.out
    rw [tryB_none HE6.out.2.2.1] at this
    exact this
  refine HS7.out.mono ?_
  rintro e w14 ⟨rfl, bl14⟩
  have HR13b : Hid (Row (w14.alloc (.cells #[.int .i64 0, .int .i64 0] 40)) B2 40 2 (stp 1 0)) := (HR13.out.ch bl14.ch (fun q => q (.inr rfl))).alloc _
  have HR11c : Hid (Row (w14.alloc (.cells #[.int .i64 0, .int .i64 0] 40)) B1 40 2 (stp 0 6)) := (HR11b.out.ch bl14.ch (fun q => q (.inl (.inr rfl)))).alloc _
  have HF15 := Lib.hid (bl14.bf.below (w' := w14.alloc (.cells #[.int .i64 0, .int .i64 0] 40)) ((Below.refl _ _).alloc (Nat.le_refl _) _))
  have HBW15 : Hid (Below w.heap.size w (w14.alloc (.cells #[.int .i64 0, .int .i64 0] 40))) := (HBW13.out.trans bl14.bel).alloc ((HBW13.out.trans bl14.bel).size) _
  clear bl14 HS7 HF13 HBW13 HT13 HR13 HR11b
  have x0 : (w14.alloc (.cells #[.int .i64 0, .int .i64 0] 40)).cell? ⟨B1, 0, none⟩ = some (.int .i64 0) := HR11c.out.cell (i := 0) (by omega)
  have x1 : (w14.alloc (.cells #[.int .i64 0, .int .i64 0] 40)).cell? ⟨B1, 1, none⟩ = some (.int .i64 6) := HR11c.out.cell (i := 1) (by omega)
  have y0 : (w14.alloc (.cells #[.int .i64 0, .int .i64 0] 40)).cell? ⟨B2, 0, none⟩ = some (.int .i64 1) := HR13b.out.cell (i := 0) (by omega)
  have y1 : (w14.alloc (.cells #[.int .i64 0, .int .i64 0] 40)).cell? ⟨B2, 1, none⟩ = some (.int .i64 0) := HR13b.out.cell (i := 1) (by omega)
  have q1 := fun W => eqSt 0 6 0 6 W
  have q2 := fun W => eqSt 1 0 1 0 W
  have HEV := Lib.hid (HF15.out.events (by rw [HE6.out.2.2.2.1]; omega))
  go_wp2_with fail
  generalize w14.alloc (.cells #[.int .i64 0, .int .i64 0] 40) = w15 at *
  refine HEV.out.mono ?_
  rintro e w16 ⟨v, rfl, ho, b16⟩
  obtain ⟨va, vc, rfl⟩ := Ms.own_len ho
  have hl1 := HE6.out.2.2.2.1
  rw [hl1]
  have HB16 : Hid (Below w.heap.size w w16) := HBW15.out.trans (b16.mono HBW15.out.size)
  clear ho b16 HEV x0 x1 y0 y1 q1 q2
  go_wp2_with fail
  go_ret
  exact ⟨by simp, HB16.out⟩
end Go.Proofs.YtdinbpdpalgohaaGreatDoor
