/- Calls as arguments; their parts. Conditions: those that each theorem names. -/
import Derived.Test.YtdinbpdpalgohaaGreatDoorY17
import Derived.Test.YtdinbpdpalgohaaGreatDoorY15
import Derived.Test.YtdinbpdpalgohaaGreatDoorY1
namespace Go.Proofs.YtdinbpdpalgohaaGreatDoor
open Go.RowKit Go.ChangeShapes Go.WideShapes Go.ChangeAt Go.Deep
/-- A call: its numbers, its order and its marks. -/
structure BC where
  kd : Int
  id : Int
  im : Int
  tr : Int
  ol : Value
  od : List Int
  ina : Bool
  raw : Bool
def cB (c : BC) : List Value := [.int .i64 c.kd, .int .i64 c.id, .int .i64 c.im, .int .i64 c.tr, c.ol, .bool c.ina, .bool c.raw]
def cBa (c : BC) : Value := .agg #[.int .i64 c.kd, .int .i64 c.id, .int .i64 c.im, .int .i64 c.tr, c.ol, .bool c.ina, .bool c.raw]
theorem IntS.rd {w : World} {a : Option Addr} {len cap : Nat} {l : List Int} (h : IntS w a len cap l) : RdJ w (.slice a len cap) l := by
  obtain ⟨rfl, h2, h3, h4, h5⟩ := h
  refine ⟨a, cap, rfl, h2, h3, fun hne => ?_⟩
  obtain ⟨b, o, rfl, hb, hx⟩ := h5 hne
  refine ⟨b, o, rfl, hb, fun i x hi => ?_⟩
  have := hx i x hi 0 _ rfl
  rw [Nat.mul_one] at this
  exact this
def CallS (w : World) (a : Option Addr) (len cap : Nat) (l : List BC) : Prop := l.length = len ∧ len ≤ cap ∧ cap ≤ maxLen ∧ (∀ c ∈ l, RdJ w c.ol c.od) ∧ (l ≠ [] → ∃ b o, a = some ⟨b, o, none⟩ ∧ b < w.heap.size ∧ ∀ i c, l[i]? = some c → w.rangeAt b (o + i * 7) (cB c))
theorem CallS.below {w w' : World} {a : Option Addr} {len cap B0 : Nat} {l : List BC} (h : CallS w a len cap l) (hb : Below B0 w w') (hB : w.heap.size ≤ B0) : CallS w' a len cap l := by
  obtain ⟨h1, h2, h3, h4, h5⟩ := h
  refine ⟨h1, h2, h3, fun c hc => (h4 c hc).below hb hB, fun hne => ?_⟩
  obtain ⟨b, o, e, hl, hr⟩ := h5 hne
  exact ⟨b, o, e, by have := hb.size; omega, fun i s hi j u hu => (hb.cell (p := ⟨b, o + i * 7 + j, none⟩) (by show b < B0; omega)).trans (hr i s hi j u hu)⟩
/-- A call that lies at this place. -/
structure CX (w : World) (b o : Nat) (c : BC) : Prop where
  c0 : w.cell? ⟨b, o, none⟩ = some (.int .i64 c.kd)
  c1 : w.cell? ⟨b, o + 1, none⟩ = some (.int .i64 c.id)
  c2 : w.cell? ⟨b, o + 2, none⟩ = some (.int .i64 c.im)
  c3 : w.cell? ⟨b, o + 3, none⟩ = some (.int .i64 c.tr)
  c4 : w.cell? ⟨b, o + 4, none⟩ = some c.ol
  c5 : w.cell? ⟨b, o + 5, none⟩ = some (.bool c.ina)
  c6 : w.cell? ⟨b, o + 6, none⟩ = some (.bool c.raw)
  lt : b < w.heap.size
theorem CX.below {w w' : World} {b o B0 : Nat} {c : BC} (h : CX w b o c) (hb : Below B0 w w') (hB : b < B0) : CX w' b o c := by
  have k : ∀ j v, w.cell? ⟨b, j, none⟩ = some v → w'.cell? ⟨b, j, none⟩ = some v := fun j v hv => (hb.cell (p := ⟨b, j, none⟩) hB).trans hv
  exact ⟨k _ _ h.c0, k _ _ h.c1, k _ _ h.c2, k _ _ h.c3, k _ _ h.c4, k _ _ h.c5, k _ _ h.c6, Nat.lt_of_lt_of_le h.lt hb.size⟩
theorem CallS.at {w : World} {a : Option Addr} {len cap i : Nat} {l : List BC} (h : CallS w a len cap l) (hi : i < len) : ∃ (b o : Nat) (c : BC), a = some ⟨b, o, none⟩ ∧ l[i]? = some c ∧ RdJ w c.ol c.od ∧ CX w b (o + i * 7) c := by
  obtain ⟨h1, h2, h3, h4, h5⟩ := h
  obtain ⟨b, o, e, hl, hr⟩ := h5 (by intro e; rw [e] at h1; simp at h1; omega)
  have hc : l[i]? = some l[i] := List.getElem?_eq_getElem (by omega)
  have q := hr i _ hc
  exact ⟨b, o, l[i], e, hc, h4 _ (List.getElem_mem _), q 0 _ rfl, q 1 _ rfl, q 2 _ rfl, q 3 _ rfl, q 4 _ rfl, q 5 _ rfl, q 6 _ rfl, hl⟩
theorem CX.made (w : World) (c : BC) : CX (w.alloc (.cells #[.int .i64 c.kd, .int .i64 c.id, .int .i64 c.im, .int .i64 c.tr, c.ol, .bool c.ina, .bool c.raw] 54)) w.heap.size 0 c :=
  have h := Row.ofList w 54 #[.int .i64 c.kd, .int .i64 c.id, .int .i64 c.im, .int .i64 c.tr, c.ol, .bool c.ina, .bool c.raw] (fun i => (cB c).getD i (.bool false)) 7 rfl
  ⟨h.cell (i := 0) (by omega), h.cell (i := 1) (by omega), h.cell (i := 2) (by omega), h.cell (i := 3) (by omega), h.cell (i := 4) (by omega), h.cell (i := 5) (by omega), h.cell (i := 6) (by omega), by simp⟩
section
variable {H : Type} {enc : TypeId × Value → H} {w : World} {base : Nat} {spare : Nat → Bool} {held : Bool}
theorem clInt1 : Tryz.prog.cellsOf 3 = 1 := by kernel_rfl
theorem clBool1 : Tryz.prog.cellsOf 4 = 1 := by kernel_rfl
theorem clInts : Tryz.prog.cellsOf 36 = 1 := by kernel_rfl
theorem clBC : Tryz.prog.cellsOf 54 = 7 := by kernel_rfl
set_option maxRecDepth 100000 in
theorem open_call {fuel : Nat} {cs : List Value} {x : DataW H × List MemPlace} (h : DataW.trod enc Tryz.prog w base spare held fuel 54 cs = some x) : ∃ c : BC, RdJ w c.ol c.od ∧ cs = cB c := by
  obtain ⟨ys, n, hn, hy, hlen, hyl, hf⟩ := DataW.trod_struct Tryz.underlying54 h
  rw [clBC] at hlen
  match cs, hlen with
  | [c0, c1, c2, c3, c4, c5, c6], _ =>
    match ys, hyl with
    | [y0, y1, y2, y3, y4, y5, y6], _ =>
      obtain ⟨a0, e0, _, _⟩ := DataW.trod_int (k := .i64) Tryz.underlying3 (hf 0 _ rfl)
      obtain ⟨a1, e1, _, _⟩ := DataW.trod_int (k := .i64) Tryz.underlying3 (hf 1 _ rfl)
      obtain ⟨a2, e2, _, _⟩ := DataW.trod_int (k := .i64) Tryz.underlying3 (hf 2 _ rfl)
      obtain ⟨a3, e3, _, _⟩ := DataW.trod_int (k := .i64) Tryz.underlying3 (hf 3 _ rfl)
      obtain ⟨A, len, cap, l, e4, hs⟩ := open_ints (hf 4 _ rfl)
      obtain ⟨a5, e5, _⟩ := DataW.trod_bool Tryz.underlying4 (hf 5 _ rfl)
      obtain ⟨a6, e6, _⟩ := DataW.trod_bool Tryz.underlying4 (hf 6 _ rfl)
      simp [clInt1, clBool1, clInts] at e0 e1 e2 e3 e4 e5 e6
      subst e0 e1 e2 e3 e4 e5 e6
      exact ⟨⟨a0, a1, a2, a3, .slice A len cap, l, a5, a6⟩, hs.rd, rfl⟩
theorem open_calls {fuel : Nat} {cs : List Value} {x : DataW H × List MemPlace} (h : DataW.trod enc Tryz.prog w base spare held fuel 52 cs = some x) :
    ∃ (A : Option Addr) (len cap : Nat) (l : List BC), cs = [.slice A len cap] ∧ CallS w A len cap l := by
  obtain ⟨A, len, cap, l, h1, h2, h3, h4, h5, h6⟩ := open_list Tryz.underlying52 clBC (by omega) cB (fun c => RdJ w c.ol c.od) (fun _ => rfl) (fun h => open_call h) h
  exact ⟨A, len, cap, l, h1, h2, h3, h4, h5, h6⟩
end
end Go.Proofs.YtdinbpdpalgohaaGreatDoor
namespace Go.Proofs.YtdinbpdpalgohaaGreatDoor
open Go.RowKit
def imgs : List ByteArray := [⟨#[]⟩, kern, ⟨#[107, 101, 114, 110, 101, 108, 32, 50]⟩, ⟨#[114, 101, 99, 111, 118, 101, 114, 121]⟩, ⟨#[0]⟩]
def imgB (k : Int) : ByteArray := imgs.getD (mo k 5) ⟨#[]⟩
def cidV (c : BC) : Int := if c.raw = true then c.id else ((mo c.id 5 : Nat) : Int)
def imgA : Value := .agg #[.string ⟨#[]⟩, .string ⟨#[107, 101, 114, 110, 101, 108]⟩, .string ⟨#[107, 101, 114, 110, 101, 108, 32, 50]⟩, .string ⟨#[114, 101, 99, 111, 118, 101, 114, 121]⟩, .string ⟨#[0]⟩]
set_option maxRecDepth 100000 in
theorem img0 (w : World) : Sem.run Tryz.prog (Instr.index 190 imgA (.int .i64 0)) w = .ok (.string ⟨#[]⟩) w := by kernel_rfl
set_option maxRecDepth 100000 in
theorem img1 (w : World) : Sem.run Tryz.prog (Instr.index 190 imgA (.int .i64 1)) w = .ok (.string kern) w := by kernel_rfl
set_option maxRecDepth 100000 in
theorem img2 (w : World) : Sem.run Tryz.prog (Instr.index 190 imgA (.int .i64 2)) w = .ok (.string ⟨#[107, 101, 114, 110, 101, 108, 32, 50]⟩) w := by kernel_rfl
set_option maxRecDepth 100000 in
theorem img3 (w : World) : Sem.run Tryz.prog (Instr.index 190 imgA (.int .i64 3)) w = .ok (.string ⟨#[114, 101, 99, 111, 118, 101, 114, 121]⟩) w := by kernel_rfl
set_option maxRecDepth 100000 in
theorem img4 (w : World) : Sem.run Tryz.prog (Instr.index 190 imgA (.int .i64 4)) w = .ok (.string ⟨#[0]⟩) w := by kernel_rfl
theorem imgB_size (k : Int) : (imgB k).size ≤ 8 := by
  unfold imgB
  have hlt : mo k 5 < 5 := mo_lt k 5 (by omega)
  generalize mo k 5 = m at *
  have h5 : m = 0 ∨ m = 1 ∨ m = 2 ∨ m = 3 ∨ m = 4 := by omega
  rcases h5 with rfl | rfl | rfl | rfl | rfl <;> decide
set_option maxRecDepth 100000 in
theorem image_any (k : Int) (w : World) : Calls Tryz.prog 66 #[.int .i64 k] w fun e w' => e = .returned (.string (imgB k)) ∧ w = w' := by
  have HM := mod_any k 5 w (by omega) (by omega)
  have hlt : mo k 5 < 5 := mo_lt k 5 (by omega)
  unfold imgB
  generalize mo k 5 = m at *
  go_enter Tryz.func66, Tryz.ntmps66
  go_wp2_with fail
  refine HM.mono ?_
  rintro e w' ⟨rfl, rfl⟩
  have h5 : m = 0 ∨ m = 1 ∨ m = 2 ∨ m = 3 ∨ m = 4 := by omega
  clear HM hlt
  have i0 := img0 w
  have i1 := img1 w
  have i2 := img2 w
  have i3 := img3 w
  have i4 := img4 w
  unfold imgA at i0 i1 i2 i3 i4
  rcases h5 with rfl | rfl | rfl | rfl | rfl
  all_goals
    go_wp2_with fail
    go_ret
    exact ⟨rfl, rfl⟩
set_option maxRecDepth 100000 in
set_option maxHeartbeats 1000000 in
theorem cid_any (c : BC) (w : World) : Calls Tryz.prog 64 #[cBa c] w fun e w' => e = .returned (.int .i64 (cidV c)) ∧ Below w.heap.size w w' := by
  have hr : (c.raw = false ∧ cidV c = ((mo c.id 5 : Nat) : Int)) ∨ (c.raw = true ∧ cidV c = c.id) := by
    unfold cidV
    cases c.raw
    · exact .inl ⟨rfl, if_neg (by simp)⟩
    · exact .inr ⟨rfl, if_pos rfl⟩
  unfold cBa
  have HX := CX.made w c
  have HB : Hid (Below w.heap.size w (w.alloc (.cells #[.int .i64 c.kd, .int .i64 c.id, .int .i64 c.im, .int .i64 c.tr, c.ol, .bool c.ina, .bool c.raw] 54))) := (Below.refl _ _).alloc (Nat.le_refl _) _
  go_enter Tryz.func64, Tryz.ntmps64
  go_upto_region 1 with fail
  generalize (w.alloc (.cells #[.int .i64 c.kd, .int .i64 c.id, .int .i64 c.im, .int .i64 c.tr, c.ol, .bool c.ina, .bool c.raw] 54)) = w0 at *
  obtain ⟨_, c1, _, _, _, _, c6, _⟩ := HX
  have HM := mod_any c.id 5 w0 (by omega) (by omega)
  rcases hr with ⟨hr, hv⟩ | ⟨hr, hv⟩
  · rw [hr] at c6
    go_wp2_with fail
    refine HM.mono ?_
    rintro e w' ⟨rfl, rfl⟩
    go_wp2_with fail
    go_ret
    exact ⟨by rw [hv]; rfl, HB.out⟩
  · rw [hr] at c6
    go_wp2_with fail
    go_ret
    exact ⟨by rw [hv]; rfl, HB.out⟩
end Go.Proofs.YtdinbpdpalgohaaGreatDoor
namespace Go.Proofs.YtdinbpdpalgohaaGreatDoor
open Go
/-- A plan: an operation taken first (code 0), the only one that may come (code 1), one of two. -/
inductive PT where
  | nil
  | one (k c : Nat) (r : PT)
  | two (k j : Nat) (r s : PT)
def PT.deep : PT → Nat
  | .nil => 0
  | .one _ _ r => r.deep + 1
  | .two _ _ r s => max r.deep s.deep + 1
section
variable {P : Program} {ops : Array Oper} {Q : Exit → Act → World → Prop} {md : Region.Mode} {S : World → Prop}
def wpT (P : Program) (ops : Array Oper) (Q : Exit → Act → World → Prop) (S : World → Prop) : PT → Act → World → Prop
  | .nil, a, w => Q .normal a w
  | .one k 0 r, a, w => ∃ o v, ops[k]? = some o ∧ YS P ops S o v a ∧ S w ∧ wpT P ops Q S r (a.put o.dst v) w
  | .one k (_ + 1) r, a, w => wpOp P ops Q k (fun a' w' => S w' ∧ wpT P ops Q S r a' w') a w
  | .two k j r s, a, w => wpOp P ops Q k (fun a' w' => S w' ∧ wpT P ops Q S r a' w') a w ∧ wpOp P ops Q j (fun a' w' => S w' ∧ wpT P ops Q S s a' w') a w
def plT (md : Region.Mode) (ops : Array Oper) : PT → Array Bool → Bool
  | .nil, listed => (Region.ready md ops listed).isEmpty
  | .one k 0 r, listed => (Region.ready md ops listed).contains k && Region.free md ops listed k && plT md ops r (listed.setIfInBounds k true)
  | .one k (_ + 1) r, listed => decide (Region.ready md ops listed = [k]) && plT md ops r (listed.setIfInBounds k true)
  | .two k j r s, listed => decide (Region.ready md ops listed = [k, j]) && plT md ops r (listed.setIfInBounds k true) && plT md ops s (listed.setIfInBounds j true)
def plTOK (md : Region.Mode) (ops : Array Oper) (pl : PT) : Bool :=
  decide (pl.deep ≤ ops.size) && Region.noSelect ops && plT md ops pl (Array.replicate ops.size false)
theorem wpAnyP_tree (hsel : Region.noSelect ops = true) (hQ : ∀ c a w, ¬ Q (.panic c) a w) (pl : PT) :
    ∀ (fuel : Nat) (listed : Array Bool) (a : Act) (w : World), pl.deep ≤ fuel → plT md ops pl listed = true → wpT P ops Q S pl a w → wpAnyP P md ops Q S (fun _ => false) fuel listed a w := by
  induction pl with
  | nil =>
    intro fuel listed a w _ hB h
    have hB' : Region.ready md ops listed = [] := by simpa [plT] using hB
    cases fuel with
    | zero => exact ⟨hB', h⟩
    | succ f => exact ⟨fun _ => h, fun i hi => by rw [hB'] at hi; cases hi⟩
  | one k c r ih =>
    intro fuel listed a w hf hB h
    obtain ⟨f, rfl⟩ : ∃ f, fuel = f + 1 := ⟨fuel - 1, by simp only [PT.deep] at hf; omega⟩
    have hf' : r.deep ≤ f := by simp only [PT.deep] at hf; omega
    match c, hB, h with
    | 0, hB, h =>
      simp only [plT, Bool.and_eq_true] at hB
      obtain ⟨⟨hr, hfr⟩, hB'⟩ := hB
      obtain ⟨o, v, ho, hy, hS, hK⟩ := h
      exact wpAnyP_first ho (Region.noSelect_spec hsel) hQ (fun j oj hj hNj => by cases hNj) _ listed a w (Region.free_spec ho hfr) (by simpa using hr) hy hS (ih _ _ _ _ hf' hB' hK)
    | c + 1, hB, h =>
      simp only [plT, Bool.and_eq_true, decide_eq_true_eq] at hB
      refine ⟨fun h1 => (by rw [hB.1] at h1; cases h1), fun i hi => ?_⟩
      rw [hB.1] at hi
      have hik : i = k := by simpa using hi
      subst hik
      exact wpOp_mono (fun a' w' h' => ⟨.inr h'.1, ih _ _ a' w' hf' hB.2 h'.2⟩) h
  | two k j r s ihr ihs =>
    intro fuel listed a w hf hB h
    obtain ⟨f, rfl⟩ : ∃ f, fuel = f + 1 := ⟨fuel - 1, by simp only [PT.deep] at hf; omega⟩
    have hf1 : r.deep ≤ f := by simp only [PT.deep] at hf; omega
    have hf2 : s.deep ≤ f := by simp only [PT.deep] at hf; omega
    simp only [plT, Bool.and_eq_true, decide_eq_true_eq] at hB
    refine ⟨fun h1 => (by rw [hB.1.1] at h1; cases h1), fun i hi => ?_⟩
    rw [hB.1.1] at hi
    have hik : i = k ∨ i = j := by simpa using hi
    rcases hik with rfl | rfl
    · exact wpOp_mono (fun a' w' h' => ⟨.inr h'.1, ihr _ _ a' w' hf1 hB.1.2 h'.2⟩) h.1
    · exact wpOp_mono (fun a' w' h' => ⟨.inr h'.1, ihs _ _ a' w' hf2 hB.2 h'.2⟩) h.2
theorem wp_region_pt {id : Nat} {a : Act} {w : World} {l : List Oper} (S : World → Prop) (pl : PT) (hm : P.follows .mixedOrders = true) (hB : plTOK .any l.toArray pl = true)
    (h : wpT P l.toArray (NoPanic Q) S pl a w.drew) : (Code.region id l.toArray true).wp P Q a w := by
  simp only [plTOK, Bool.and_eq_true, decide_eq_true_eq] at hB
  obtain ⟨⟨hn, hsel⟩, hB⟩ := hB
  refine wp_region_noPanic (wp_region_any hm (wpAny_of_P (S := S) (N := fun _ => false) _ _ _ _ ?_))
  exact wpAnyP_tree (P := P) (md := .any) (Q := NoPanic Q) (S := S) (ops := l.toArray) hsel (fun c a w h => h) pl _ _ a w.drew hn hB h
variable {k j : Nat} {o o' : Oper} {l t t' : List Oper} {r s : PT} {a : Act} {w : World}
theorem wpT_go (ho : l.drop k = o :: t) (hw : Region.wanted o (yielded l.toArray a.tmps) = true) (hS : S w) (v : Value) (hr : ∀ X, S X → (execOp a.eval o).run P X = .ok (.value v) X)
    (h : ∀ K : Act → Prop, (∀ a', wpT P l.toArray Q S r a' w → K a') → K (a.put o.dst v)) : wpT P l.toArray Q S (.one k 0 r) a w := ⟨o, v, op_at ho, YS.run hw hr, hS, h _ (fun _ h => h)⟩
theorem wpT_call (ho : l.drop k = o :: t) (hw : Region.wanted o (yielded l.toArray a.tmps) = true) (hS : S w) (v : Value) (f : FuncId) (args : Array Value) (hr : ∀ X, S X → (execOp a.eval o).run P X = .ok (.enter f args) X)
    (hc : ∀ X, S X → Calls P f args X fun e w' => e = .returned v ∧ X = w')
    (h : ∀ K : Act → Prop, (∀ a', wpT P l.toArray Q S r a' w → K a') → K (a.put o.dst v)) : wpT P l.toArray Q S (.one k 0 r) a w :=
  ⟨o, v, op_at ho, .inl ⟨hw, fun w hS => .inr (.inr ⟨f, args, hr w hS, (hc w hS).mono fun _ _ ⟨h1, h2⟩ => ⟨h1, h2.symm⟩⟩)⟩, hS, h _ (fun _ h => h)⟩
theorem wpOp_one {G : Act → World → Prop} (ho : l.drop k = o :: t)
    (h : ∀ K : Act → World → Prop, (∀ a w, G a w → K a w) → if Region.wanted o (yielded l.toArray a.tmps) then o.wp P a w K Q else K (a.put o.dst undef) w) : wpOp P l.toArray Q k G a w := by
  have := h G (fun a w h => h)
  unfold wpOp
  simp only [op_at ho]
  split
  · rename_i hw; rw [if_pos hw] at this; exact .inl this
  · rename_i hw; rw [if_neg hw] at this; exact this
theorem wpT_one (ho : l.drop k = o :: t)
    (h : ∀ K : Act → World → Prop, (∀ a w, S w → wpT P l.toArray Q S r a w → K a w) → if Region.wanted o (yielded l.toArray a.tmps) then o.wp P a w K Q else K (a.put o.dst undef) w) : wpT P l.toArray Q S (.one k 1 r) a w := by
  show wpOp _ _ _ _ _ _ _
  exact wpOp_one ho fun K hK => h K fun a w h1 h2 => hK a w ⟨h1, h2⟩
theorem wpT_two (ho : l.drop k = o :: t) (ho' : l.drop j = o' :: t')
    (h : ∀ K : Act → World → Prop, (∀ a w, S w → wpT P l.toArray Q S r a w → K a w) → if Region.wanted o (yielded l.toArray a.tmps) then o.wp P a w K Q else K (a.put o.dst undef) w)
    (h' : ∀ K : Act → World → Prop, (∀ a w, S w → wpT P l.toArray Q S s a w → K a w) → if Region.wanted o' (yielded l.toArray a.tmps) then o'.wp P a w K Q else K (a.put o'.dst undef) w) : wpT P l.toArray Q S (.two k j r s) a w :=
  ⟨wpOp_one ho fun K hK => h K fun a w h1 h2 => hK a w ⟨h1, h2⟩, wpOp_one ho' fun K hK => h' K fun a w h1 h2 => hK a w ⟨h1, h2⟩⟩
theorem wpT_done (h : Q .normal a w) : wpT P l.toArray (NoPanic Q) S .nil a w := h
end
end Go.Proofs.YtdinbpdpalgohaaGreatDoor
namespace Go.Proofs.YtdinbpdpalgohaaGreatDoor
open Go.RowKit
attribute [local go_sem ↓] alloc34 load34 store34 build34d build34o
attribute [local go_sem] bl4V ecl_list cs32
def catV (c : BC) : Int := if c.raw = true then c.tr else 1 + ((mo c.tr 3 : Nat) : Int)
theorem rsum_str (s : ByteArray) (w : World) (hs : s.size ≤ 1073741824) : Calls Tryz.prog 65 #[.string s] w fun e w' => e = .returned (.agg (Ms.arr 32 (Ms.b8 (dgF (sumS s))))) ∧ Below w.heap.size w w' := by
  have h := Ms.rsum_any s w hs
  have e := sumD_dg s.data.toList
  unfold dgA at e
  show Calls _ _ _ _ fun e w' => e = .returned (.agg (Ms.arr 32 (Ms.b8 (dgF (Ms.dl (Ms.sumD s.data.toList)))))) ∧ _
  rw [e]
  exact h
theorem res1c {fn : Func} {p : Tmp} {ty : TypeId} (h : fn.results = #[.cell p ty]) (tmps : Array Value) (w : World) (g : Nat) (cs : Array Value)
    (hp : tmps.getD p undef = .pointer (some ⟨g, 0, none⟩)) (hl : (loadVar ty ⟨g, 0, none⟩).run Tryz.prog w = .ok (.agg cs) w) :
    (results fn tmps).run Tryz.prog w = .ok (.agg cs) w := by
  have hp' : tmps[p]?.getD undef = .pointer (some ⟨g, 0, none⟩) := by simpa using hp
  simp [results, h, hp', asAddr, hl]
set_option maxRecDepth 100000 in
set_option maxHeartbeats 2000000 in
theorem centry_any (c : BC) (w : World) : Calls Tryz.prog 62 #[cBa c] w fun e w' => e = .returned (.agg (Ms.arr 35 (ecl (cidV c) (sumS (imgB c.im)) (!c.ina) (catV c)))) ∧ Below w.heap.size w w' := by
  obtain ⟨im, him⟩ : ∃ im, imgB c.im = im := ⟨_, rfl⟩
  have hims : im.size ≤ 1073741824 := by have := imgB_size c.im; rw [← him]; omega
  have HIM : Hid (∀ W, Calls Tryz.prog 66 #[.int .i64 c.im] W fun e w' => e = .returned (.string im) ∧ W = w') := fun W => by rw [← him]; exact image_any c.im W
  have HSM : Hid (∀ W, Calls Tryz.prog 65 #[.string im] W fun e w' => e = .returned (.agg (Ms.arr 32 (Ms.b8 (dgF (sumS im))))) ∧ Below W.heap.size W w') := fun W => rsum_str im W hims
  have HMD : Hid (∀ W, Calls Tryz.prog 11 #[.int .i64 c.tr, .int .i64 3] W fun e w' => e = .returned (.int .i64 ((mo c.tr 3 : Nat) : Int)) ∧ W = w') := fun W => mod_any c.tr 3 W (by omega) (by omega)
  have HID : Hid (∀ W, Calls Tryz.prog 64 #[cBa c] W fun e w' => e = .returned (.int .i64 (cidV c)) ∧ Below W.heap.size W w') := fun W => cid_any c W
  have hm3 : mo c.tr 3 < 3 := mo_lt c.tr 3 (by omega)
  have hr : (c.raw = false ∧ catV c = 1 + ((mo c.tr 3 : Nat) : Int)) ∨ (c.raw = true ∧ catV c = c.tr) := by
    unfold catV
    cases c.raw
    · exact .inl ⟨rfl, if_neg (by simp)⟩
    · exact .inr ⟨rfl, if_pos rfl⟩
  have HRV := Lib.hid hr
  rw [him]
  generalize catV c = cat at *
  generalize cidV c = ci at *
  generalize mo c.tr 3 = mt at *
  generalize sumS im = D at *
  clear him hims hr
  unfold cBa at *
  have e1 : (w.alloc (.cells #[.int .i64 c.kd, .int .i64 c.id, .int .i64 c.im, .int .i64 c.tr, c.ol, .bool c.ina, .bool c.raw] 54)).heap.size = w.heap.size + 1 := by simp
  have HX : Hid (CX ((w.alloc (.cells #[.int .i64 c.kd, .int .i64 c.id, .int .i64 c.im, .int .i64 c.tr, c.ol, .bool c.ina, .bool c.raw] 54)).alloc (.cells (Ms.arr 35 (ecl 0 [] false 0)) 34)) w.heap.size 0 c) := (CX.made w c).below ((Below.refl _ _).alloc (Nat.le_refl _) _) (by simp)
  have HR : Hid (Row ((w.alloc (.cells #[.int .i64 c.kd, .int .i64 c.id, .int .i64 c.im, .int .i64 c.tr, c.ol, .bool c.ina, .bool c.raw] 54)).alloc (.cells (Ms.arr 35 (ecl 0 [] false 0)) 34)) (w.heap.size + 1) 34 35 (ecl 0 [] false 0)) := by rw [← e1]; exact nE_row _
  have HB : Hid (Below w.heap.size w ((w.alloc (.cells #[.int .i64 c.kd, .int .i64 c.id, .int .i64 c.im, .int .i64 c.tr, c.ol, .bool c.ina, .bool c.raw] 54)).alloc (.cells (Ms.arr 35 (ecl 0 [] false 0)) 34))) := ((Below.refl _ _).alloc (Nat.le_refl _) _).alloc (by simp) _
  clear e1
  go_enter Tryz.func62, Tryz.ntmps62
  go_upto_region 1 with fail
  generalize (w.alloc (.cells #[.int .i64 c.kd, .int .i64 c.id, .int .i64 c.im, .int .i64 c.tr, c.ol, .bool c.ina, .bool c.raw] 54)).alloc (.cells (Ms.arr 35 (ecl 0 [] false 0)) 34) = W1 at *
  obtain ⟨T, hT⟩ : ∃ T, w.heap.size = T := ⟨_, rfl⟩
  have HT := Lib.hid hT
  rw [hT] at HX HR ⊢
  clear hT
  have HSB : Hid (∀ W W', (CX W T 0 c ∧ Row W (T + 1) 34 35 (ecl 0 [] false 0)) → Below W.heap.size W W' → (CX W' T 0 c ∧ Row W' (T + 1) 34 35 (ecl 0 [] false 0))) := fun W W' h b => ⟨h.1.below b h.1.lt, h.2.below b h.2.lt⟩
  go_cut [3] (fun s3 wx => ∃ E, s3 = .pointer (some ⟨E, 0, none⟩) ∧ T + 1 < E ∧ Hid (Row wx E 34 35 (ecl ci D (!c.ina) (1 + (mt : Int)))) ∧ Hid (CX wx T 0 c ∧ Row wx (T + 1) 34 35 (ecl 0 [] false 0)) ∧ Hid (Below w.heap.size w wx))
  case first =>
    have S0 : Hid (CX W1.drew T 0 c ∧ Row W1.drew (T + 1) 34 35 (ecl 0 [] false 0)) := HSB.out W1 _ ⟨HX.out, HR.out⟩ ((Below.refl _ _).drew)
    have HB0 : Hid (Below w.heap.size w W1.drew) := HB.out.drew
    clear HB HX HR
    have hwk : IntKind.i64.wrap (1 + (mt : Int)) = 1 + (mt : Int) := IntWalk.i64_in _ ⟨by omega, by omega⟩
    refine wp_region_pt (fun Y => CX Y T 0 c ∧ Row Y (T + 1) 34 35 (ecl 0 [] false 0)) (.one 0 0 (.one 2 0 (.one 3 0 (.one 6 0 (.one 7 0 (.one 8 0 (.one 9 0 (.one 10 0 (.two 1 14 (.one 4 0 (.two 5 14 (.one 11 0 (.one 12 0 (.one 13 0 (.one 14 1 (.one 15 1 .nil))))) (.one 5 1 (.one 11 0 (.one 12 0 (.one 13 0 (.one 15 1 .nil))))))) (.one 1 1 (.one 4 0 (.one 5 1 (.one 11 0 (.one 12 0 (.one 13 0 (.one 15 1 .nil)))))))))))))))) (by kernel_rfl) (by kernel_rfl) ?_
    generalize W1.drew = Wd at *
    iterate 8 (apply wpT_go; (focus rfl); (focus rfl); (focus exact S0.out); (focus (rintro Y ⟨⟨c0, c1, c2, c3, c4, c5, c6, _⟩, _⟩; go_simp; exact rfl)); intro K hK; go_simp; refine hK _ ?_; clear hK K)
    refine wpT_two rfl rfl ?_ ?_
    · skip
      intro K hK
      go_simp
      refine (HID.out _).mono ?_
      rintro e w1 ⟨rfl, b1⟩
      have S1 : Hid (CX w1 T 0 c ∧ Row w1 (T + 1) 34 35 (ecl 0 [] false 0)) := HSB.out _ _ S0.out b1
      have HB1 : Hid (Below w.heap.size w w1) := HB0.out.trans (b1.mono HB0.out.size)
      refine hK _ _ S1.out ?_
      clear hK K b1 S0 HB0
      refine wpT_call rfl rfl S1.out (.string im) 66 #[.int .i64 c.im] (by intro X hX; go_simp) (fun X _ => HIM.out X) ?_
      intro K hK
      go_simp
      refine hK _ ?_
      clear hK K
      refine wpT_two rfl rfl ?_ ?_
      · skip
        intro K hK
        go_simp
        refine (HSM.out _).mono ?_
        rintro e w2 ⟨rfl, b2⟩
        have S2 : Hid (CX w2 T 0 c ∧ Row w2 (T + 1) 34 35 (ecl 0 [] false 0)) := HSB.out _ _ S1.out b2
        have HB2 : Hid (Below w.heap.size w w2) := HB1.out.trans (b2.mono HB1.out.size)
        refine hK _ _ S2.out ?_
        clear hK K b2 S1 HB1
        refine wpT_call rfl rfl S2.out (.int .i64 ((mt : Nat) : Int)) 11 #[.int .i64 c.tr, .int .i64 3] (by intro X hX; go_simp) (fun X _ => HMD.out X) ?_
        intro K hK
        go_simp
        refine hK _ ?_
        clear hK K
        iterate 2 (apply wpT_go; (focus rfl); (focus rfl); (focus exact S2.out); (focus (intro Y _; go_simp; exact rfl)); intro K hK; go_simp; refine hK _ ?_; clear hK K)
        apply wpT_one
        focus rfl
        intro K hK
        go_simp
        have S3 : Hid (CX (w2.alloc (.cells (Ms.arr 35 (ecl 0 [] false 0)) 34)) T 0 c ∧ Row (w2.alloc (.cells (Ms.arr 35 (ecl 0 [] false 0)) 34)) (T + 1) 34 35 (ecl 0 [] false 0)) := HSB.out _ _ S2.out ((Below.refl _ _).alloc (Nat.le_refl _) _)
        have HB3 : Hid (Below w.heap.size w (w2.alloc (.cells (Ms.arr 35 (ecl 0 [] false 0)) 34))) := HB2.out.alloc HB2.out.size _
        have HN3 : Hid (Row (w2.alloc (.cells (Ms.arr 35 (ecl 0 [] false 0)) 34)) w2.heap.size 34 35 (ecl 0 [] false 0)) := nE_row _
        have hE : T + 1 < w2.heap.size := S2.out.2.lt
        refine hK _ _ S3.out ?_
        clear hK K S2 HB2
        generalize w2.alloc (.cells (Ms.arr 35 (ecl 0 [] false 0)) 34) = w3 at *
        generalize w2.heap.size = E at *
        have hst := st34 HN3.out ci D (!c.ina) (1 + (mt : Int))
        have S4 : Hid (CX (w3.setCells E 0 (Ms.arr 35 (ecl ci D (!c.ina) (1 + (mt : Int)))).toList) T 0 c ∧ Row (w3.setCells E 0 (Ms.arr 35 (ecl ci D (!c.ina) (1 + (mt : Int)))).toList) (T + 1) 34 35 (ecl 0 [] false 0)) :=
          have b := Ms.Below.setAll (B := E) (Nat.le_refl E) (Ms.arr 35 (ecl ci D (!c.ina) (1 + (mt : Int)))).toList 0 w3 (Below.refl E w3)
          ⟨S3.out.1.below b (by omega), S3.out.2.below b hE⟩
        have HB4 : Hid (Below w.heap.size w (w3.setCells E 0 (Ms.arr 35 (ecl ci D (!c.ina) (1 + (mt : Int)))).toList)) := Ms.Below.setAll (by have := HT.out; omega) _ _ _ HB3.out
        have HN4 : Hid (Row (w3.setCells E 0 (Ms.arr 35 (ecl ci D (!c.ina) (1 + (mt : Int)))).toList) E 34 35 (ecl ci D (!c.ina) (1 + (mt : Int)))) := Ms.Row.setWhole HN3.out
        apply wpT_one
        focus rfl
        intro K hK
        go_simp
        refine hK _ _ S4.out ?_
        clear hK K hst S3 HB3 HN3
        refine wpT_done ?_
        go_wp2_with fail
        go_meet
        exact ⟨E, rfl, hE, HN4, S4, HB4⟩
      · skip
        intro K hK
        go_simp
        have S5 : Hid (CX (w1.alloc (.cells (Ms.arr 35 (ecl 0 [] false 0)) 34)) T 0 c ∧ Row (w1.alloc (.cells (Ms.arr 35 (ecl 0 [] false 0)) 34)) (T + 1) 34 35 (ecl 0 [] false 0)) := HSB.out _ _ S1.out ((Below.refl _ _).alloc (Nat.le_refl _) _)
        have HB5 : Hid (Below w.heap.size w (w1.alloc (.cells (Ms.arr 35 (ecl 0 [] false 0)) 34))) := HB1.out.alloc HB1.out.size _
        have HN5 : Hid (Row (w1.alloc (.cells (Ms.arr 35 (ecl 0 [] false 0)) 34)) w1.heap.size 34 35 (ecl 0 [] false 0)) := nE_row _
        have hE : T + 1 < w1.heap.size := S1.out.2.lt
        refine hK _ _ S5.out ?_
        clear hK K S1 HB1
        generalize w1.alloc (.cells (Ms.arr 35 (ecl 0 [] false 0)) 34) = w5 at *
        generalize w1.heap.size = E at *
        apply wpT_one
        focus rfl
        intro K hK
        go_simp
        refine (HSM.out _).mono ?_
        rintro e w6 ⟨rfl, b6⟩
        have S6 : Hid (CX w6 T 0 c ∧ Row w6 (T + 1) 34 35 (ecl 0 [] false 0)) := HSB.out _ _ S5.out b6
        have HB6 : Hid (Below w.heap.size w w6) := HB5.out.trans (b6.mono HB5.out.size)
        have HN6 : Hid (Row w6 E 34 35 (ecl 0 [] false 0)) := HN5.out.below b6 HN5.out.lt
        refine hK _ _ S6.out ?_
        clear hK K b6 S5 HB5 HN5
        refine wpT_call rfl rfl S6.out (.int .i64 ((mt : Nat) : Int)) 11 #[.int .i64 c.tr, .int .i64 3] (by intro X hX; go_simp) (fun X _ => HMD.out X) ?_
        intro K hK
        go_simp
        refine hK _ ?_
        clear hK K
        iterate 2 (apply wpT_go; (focus rfl); (focus rfl); (focus exact S6.out); (focus (intro Y _; go_simp; exact rfl)); intro K hK; go_simp; refine hK _ ?_; clear hK K)
        have hst := st34 HN6.out ci D (!c.ina) (1 + (mt : Int))
        have S7 : Hid (CX (w6.setCells E 0 (Ms.arr 35 (ecl ci D (!c.ina) (1 + (mt : Int)))).toList) T 0 c ∧ Row (w6.setCells E 0 (Ms.arr 35 (ecl ci D (!c.ina) (1 + (mt : Int)))).toList) (T + 1) 34 35 (ecl 0 [] false 0)) :=
          have b := Ms.Below.setAll (B := E) (Nat.le_refl E) (Ms.arr 35 (ecl ci D (!c.ina) (1 + (mt : Int)))).toList 0 w6 (Below.refl E w6)
          ⟨S6.out.1.below b (by omega), S6.out.2.below b hE⟩
        have HB7 : Hid (Below w.heap.size w (w6.setCells E 0 (Ms.arr 35 (ecl ci D (!c.ina) (1 + (mt : Int)))).toList)) := Ms.Below.setAll (by have := HT.out; omega) _ _ _ HB6.out
        have HN7 : Hid (Row (w6.setCells E 0 (Ms.arr 35 (ecl ci D (!c.ina) (1 + (mt : Int)))).toList) E 34 35 (ecl ci D (!c.ina) (1 + (mt : Int)))) := Ms.Row.setWhole HN6.out
        apply wpT_one
        focus rfl
        intro K hK
        go_simp
        refine hK _ _ S7.out ?_
        clear hK K hst S6 HB6 HN6
        refine wpT_done ?_
        go_wp2_with fail
        go_meet
        exact ⟨E, rfl, hE, HN7, S7, HB7⟩
    · skip
      intro K hK
      go_simp
      have S8 : Hid (CX (Wd.alloc (.cells (Ms.arr 35 (ecl 0 [] false 0)) 34)) T 0 c ∧ Row (Wd.alloc (.cells (Ms.arr 35 (ecl 0 [] false 0)) 34)) (T + 1) 34 35 (ecl 0 [] false 0)) := HSB.out _ _ S0.out ((Below.refl _ _).alloc (Nat.le_refl _) _)
      have HB8 : Hid (Below w.heap.size w (Wd.alloc (.cells (Ms.arr 35 (ecl 0 [] false 0)) 34))) := HB0.out.alloc HB0.out.size _
      have HN8 : Hid (Row (Wd.alloc (.cells (Ms.arr 35 (ecl 0 [] false 0)) 34)) Wd.heap.size 34 35 (ecl 0 [] false 0)) := nE_row _
      have hE : T + 1 < Wd.heap.size := S0.out.2.lt
      refine hK _ _ S8.out ?_
      clear hK K S0 HB0
      generalize Wd.alloc (.cells (Ms.arr 35 (ecl 0 [] false 0)) 34) = w8 at *
      generalize Wd.heap.size = E at *
      apply wpT_one
      focus rfl
      intro K hK
      go_simp
      refine (HID.out _).mono ?_
      rintro e w9 ⟨rfl, b9⟩
      have S9 : Hid (CX w9 T 0 c ∧ Row w9 (T + 1) 34 35 (ecl 0 [] false 0)) := HSB.out _ _ S8.out b9
      have HB9 : Hid (Below w.heap.size w w9) := HB8.out.trans (b9.mono HB8.out.size)
      have HN9 : Hid (Row w9 E 34 35 (ecl 0 [] false 0)) := HN8.out.below b9 HN8.out.lt
      refine hK _ _ S9.out ?_
      clear hK K b9 S8 HB8 HN8
      refine wpT_call rfl rfl S9.out (.string im) 66 #[.int .i64 c.im] (by intro X hX; go_simp) (fun X _ => HIM.out X) ?_
      intro K hK
      go_simp
      refine hK _ ?_
      clear hK K
      apply wpT_one
      focus rfl
      intro K hK
      go_simp
      refine (HSM.out _).mono ?_
      rintro e w10 ⟨rfl, b10⟩
      have S10 : Hid (CX w10 T 0 c ∧ Row w10 (T + 1) 34 35 (ecl 0 [] false 0)) := HSB.out _ _ S9.out b10
      have HB10 : Hid (Below w.heap.size w w10) := HB9.out.trans (b10.mono HB9.out.size)
      have HN10 : Hid (Row w10 E 34 35 (ecl 0 [] false 0)) := HN9.out.below b10 HN9.out.lt
      refine hK _ _ S10.out ?_
      clear hK K b10 S9 HB9 HN9
      refine wpT_call rfl rfl S10.out (.int .i64 ((mt : Nat) : Int)) 11 #[.int .i64 c.tr, .int .i64 3] (by intro X hX; go_simp) (fun X _ => HMD.out X) ?_
      intro K hK
      go_simp
      refine hK _ ?_
      clear hK K
      iterate 2 (apply wpT_go; (focus rfl); (focus rfl); (focus exact S10.out); (focus (intro Y _; go_simp; exact rfl)); intro K hK; go_simp; refine hK _ ?_; clear hK K)
      have hst := st34 HN10.out ci D (!c.ina) (1 + (mt : Int))
      have S11 : Hid (CX (w10.setCells E 0 (Ms.arr 35 (ecl ci D (!c.ina) (1 + (mt : Int)))).toList) T 0 c ∧ Row (w10.setCells E 0 (Ms.arr 35 (ecl ci D (!c.ina) (1 + (mt : Int)))).toList) (T + 1) 34 35 (ecl 0 [] false 0)) :=
        have b := Ms.Below.setAll (B := E) (Nat.le_refl E) (Ms.arr 35 (ecl ci D (!c.ina) (1 + (mt : Int)))).toList 0 w10 (Below.refl E w10)
        ⟨S10.out.1.below b (by omega), S10.out.2.below b hE⟩
      have HB11 : Hid (Below w.heap.size w (w10.setCells E 0 (Ms.arr 35 (ecl ci D (!c.ina) (1 + (mt : Int)))).toList)) := Ms.Below.setAll (by have := HT.out; omega) _ _ _ HB10.out
      have HN11 : Hid (Row (w10.setCells E 0 (Ms.arr 35 (ecl ci D (!c.ina) (1 + (mt : Int)))).toList) E 34 35 (ecl ci D (!c.ina) (1 + (mt : Int)))) := Ms.Row.setWhole HN10.out
      apply wpT_one
      focus rfl
      intro K hK
      go_simp
      refine hK _ _ S11.out ?_
      clear hK K hst S10 HB10 HN10
      refine wpT_done ?_
      go_wp2_with fail
      go_meet
      exact ⟨E, rfl, hE, HN11, S11, HB11⟩
  case rest =>
    clear HX HR HB
    obtain ⟨E, rfl, hE, HN, HS, HB⟩ := hcut
    have c6 := HS.out.1.c6
    rcases HRV.out with ⟨hr, hv⟩ | ⟨hr, hv⟩
    · have HV := Lib.hid hv
      rw [hr] at c6
      clear hv
      have l0 := ld34 HN.out
      have hst := st34 HS.out.2 ci D (!c.ina) (1 + (mt : Int))
      have HRF : Hid (Row (wc.setCells (T + 1) 0 (Ms.arr 35 (ecl ci D (!c.ina) (1 + (mt : Int)))).toList) (T + 1) 34 35 (ecl ci D (!c.ina) (1 + (mt : Int)))) := Ms.Row.setWhole HS.out.2
      have HBF : Hid (Below w.heap.size w (wc.setCells (T + 1) 0 (Ms.arr 35 (ecl ci D (!c.ina) (1 + (mt : Int)))).toList)) := Ms.Below.setAll (by have := HT.out; omega) _ _ _ HB.out
      go_wp2_with fail
      exact bodyPost_ret (v := .agg (Ms.arr 35 (ecl ci D (!c.ina) (1 + (mt : Int))))) (res1c rfl _ _ (T + 1) (Ms.arr 35 (ecl ci D (!c.ina) (1 + (mt : Int)))) rfl (ret34 HRF.out)) rfl ⟨by rw [HV.out], HBF.out⟩
    · have HV := Lib.hid hv
      rw [hr] at c6
      clear hv
      have c3 := HS.out.1.c3
      have c34 := HN.out.cell (i := 34) (by omega)
      have f34 := HN.out.frozen 34
      have HN2 : Hid (Row (wc.setCell ⟨E, 34, none⟩ (.int .i64 c.tr)) E 34 35 (ecl ci D (!c.ina) c.tr)) := (HN.out.set (i := 34) (by omega) _).congr fun j hj => by
        unfold ecl upd
        by_cases h1 : j = 34
        · subst h1; simp
        · simp only [if_neg h1]
          by_cases h2 : j = 0
          · simp [h2]
          · by_cases h3 : j < 33
            · simp [h2, h3]
            · have h4 : j = 33 := by omega
              simp [h4]
      have HS2 : Hid (Row (wc.setCell ⟨E, 34, none⟩ (.int .i64 c.tr)) (T + 1) 34 35 (ecl 0 [] false 0)) := HS.out.2.below ((Below.refl E wc).setCell (p := ⟨E, 34, none⟩) (Nat.le_refl _) _) hE
      have HB2 : Hid (Below w.heap.size w (wc.setCell ⟨E, 34, none⟩ (.int .i64 c.tr))) := HB.out.setCell (p := ⟨E, 34, none⟩) (by have := HT.out; show _ ≤ E; omega) _
      have l0 := ld34 HN2.out
      have hst := st34 HS2.out ci D (!c.ina) c.tr
      have HRF : Hid (Row ((wc.setCell ⟨E, 34, none⟩ (.int .i64 c.tr)).setCells (T + 1) 0 (Ms.arr 35 (ecl ci D (!c.ina) c.tr)).toList) (T + 1) 34 35 (ecl ci D (!c.ina) c.tr)) := Ms.Row.setWhole HS2.out
      have HBF : Hid (Below w.heap.size w ((wc.setCell ⟨E, 34, none⟩ (.int .i64 c.tr)).setCells (T + 1) 0 (Ms.arr 35 (ecl ci D (!c.ina) c.tr)).toList)) := Ms.Below.setAll (by have := HT.out; omega) _ _ _ HB2.out
      go_wp2_with fail
      exact bodyPost_ret (v := .agg (Ms.arr 35 (ecl ci D (!c.ina) c.tr))) (res1c rfl _ _ (T + 1) (Ms.arr 35 (ecl ci D (!c.ina) c.tr)) rfl (ret34 HRF.out)) rfl ⟨by rw [HV.out], HBF.out⟩
end Go.Proofs.YtdinbpdpalgohaaGreatDoor
namespace Go.Proofs.YtdinbpdpalgohaaGreatDoor
open Go.RowKit
def im5 : List ByteArray := [kern, ⟨#[107, 101, 114, 110, 101, 108, 32, 50]⟩, ⟨#[114, 101, 99, 111, 118, 101, 114, 121]⟩, ⟨#[0]⟩, kern]
def imgL (c : BC) : List ByteArray := (im5.set (mo c.id 5) (imgB c.im)).take (mo c.tr 3 + 3)
theorem imgL_len (c : BC) : (imgL c).length = mo c.tr 3 + 3 := by
  have h3 : mo c.tr 3 < 3 := mo_lt c.tr 3 (by omega)
  unfold imgL
  rw [List.length_take, List.length_set]
  show min _ 5 = _
  omega
theorem imgL_size (c : BC) : ∀ x ∈ imgL c, x.size ≤ 1073741824 := by
  intro x hx
  have h1 := List.mem_of_mem_take hx
  rcases List.mem_or_eq_of_mem_set h1 with h2 | rfl
  · have : ∀ y ∈ im5, y.size ≤ 1073741824 := by decide
    exact this x h2
  · have := imgB_size c.im; omega
set_option maxRecDepth 100000 in
set_option maxHeartbeats 2000000 in
theorem images_any (c : BC) (w : World) : Calls Tryz.prog 26 #[cBa c] w fun e w' => ∃ g, e = .returned (.slice (some ⟨g, 0, none⟩) (mo c.tr 3 + 3) 5) ∧ w.heap.size ≤ g ∧ RdT w' (.slice (some ⟨g, 0, none⟩) (mo c.tr 3 + 3) 5) (imgL c) ∧ Below w.heap.size w w' := by
  have HFIN : Hid (∀ W G, w.heap.size ≤ G → Row W G 9 5 (upd (fun i => .string (im5.getD i ⟨#[]⟩)) (mo c.id 5) (.string (imgB c.im))) → RdT W (.slice (some ⟨G, 0, none⟩) (mo c.tr 3 + 3) 5) (imgL c)) := fun W G hG hR => by
    have hl := imgL_len c
    have h3 : mo c.tr 3 < 3 := mo_lt c.tr 3 (by omega)
    refine ⟨some ⟨G, 0, none⟩, 5, by rw [hl], by rw [hl]; omega, by unfold maxLen; omega, fun g hg => ?_, fun _ => ⟨G, 0, rfl, fun i x hx => ?_⟩⟩
    · have e : G = g := by simpa [Value.ownBlock] using hg
      rw [← e]; exact hR.lt
    · have hi : i < (imgL c).length := (List.getElem?_eq_some_iff.1 hx).1
      rw [hl] at hi
      rw [Nat.zero_add, hR.cell (i := i) (by omega)]
      unfold imgL at hx
      rw [List.getElem?_take, if_pos hi, List.getElem?_set] at hx
      unfold upd
      by_cases e : i = mo c.id 5
      · subst e
        rw [if_pos rfl] at hx
        rw [if_pos rfl]
        have : mo c.id 5 < im5.length := by show _ < 5; omega
        rw [if_pos this] at hx
        injection hx with hx
        rw [hx]
      · rw [if_neg (fun q => e q.symm)] at hx
        rw [if_neg e]
        show some (Value.string (im5.getD i ⟨#[]⟩)) = _
        rw [List.getD_eq_getElem?_getD, hx]
        rfl
  obtain ⟨im, him⟩ : ∃ im, imgB c.im = im := ⟨_, rfl⟩
  have HIM : Hid (∀ W, Calls Tryz.prog 66 #[.int .i64 c.im] W fun e w' => e = .returned (.string im) ∧ W = w') := fun W => by rw [← him]; exact image_any c.im W
  have HI1 : Hid (∀ W, Calls Tryz.prog 66 #[.int .i64 1] W fun e w' => e = .returned (.string ⟨#[107, 101, 114, 110, 101, 108]⟩) ∧ W = w') := fun W => image_any 1 W
  have HI2 : Hid (∀ W, Calls Tryz.prog 66 #[.int .i64 2] W fun e w' => e = .returned (.string ⟨#[107, 101, 114, 110, 101, 108, 32, 50]⟩) ∧ W = w') := fun W => image_any 2 W
  have HI3 : Hid (∀ W, Calls Tryz.prog 66 #[.int .i64 3] W fun e w' => e = .returned (.string ⟨#[114, 101, 99, 111, 118, 101, 114, 121]⟩) ∧ W = w') := fun W => image_any 3 W
  have HI4 : Hid (∀ W, Calls Tryz.prog 66 #[.int .i64 4] W fun e w' => e = .returned (.string ⟨#[0]⟩) ∧ W = w') := fun W => image_any 4 W
  have HM5 : Hid (∀ W, Calls Tryz.prog 11 #[.int .i64 c.id, .int .i64 5] W fun e w' => e = .returned (.int .i64 ((mo c.id 5 : Nat) : Int)) ∧ W = w') := fun W => mod_any c.id 5 W (by omega) (by omega)
  have HM3 : Hid (∀ W, Calls Tryz.prog 11 #[.int .i64 c.tr, .int .i64 3] W fun e w' => e = .returned (.int .i64 ((mo c.tr 3 : Nat) : Int)) ∧ W = w') := fun W => mod_any c.tr 3 W (by omega) (by omega)
  have hk : mo c.id 5 < 5 := mo_lt c.id 5 (by omega)
  have hq : mo c.tr 3 < 3 := mo_lt c.tr 3 (by omega)
  rw [him] at HFIN
  generalize imgL c = L at *
  generalize mo c.id 5 = k at *
  generalize mo c.tr 3 = q at *
  have hkI : (k : Int) < 5 := by omega
  clear him
  unfold cBa
  have HX : Hid (CX (w.alloc (.cells #[.int .i64 c.kd, .int .i64 c.id, .int .i64 c.im, .int .i64 c.tr, c.ol, .bool c.ina, .bool c.raw] 54)) w.heap.size 0 c) := CX.made w c
  have HB : Hid (Below w.heap.size w (w.alloc (.cells #[.int .i64 c.kd, .int .i64 c.id, .int .i64 c.im, .int .i64 c.tr, c.ol, .bool c.ina, .bool c.raw] 54))) := (Below.refl _ _).alloc (Nat.le_refl _) _
  go_enter Tryz.func26, Tryz.ntmps26
  go_upto_region 1 with fail
  generalize (w.alloc (.cells #[.int .i64 c.kd, .int .i64 c.id, .int .i64 c.im, .int .i64 c.tr, c.ol, .bool c.ina, .bool c.raw] 54)) = W1 at *
  obtain ⟨T, hT⟩ : ∃ T, w.heap.size = T := ⟨_, rfl⟩
  have HT := Lib.hid hT
  rw [hT] at HX ⊢
  clear hT
  have HX2 : Hid (CX (W1.alloc (.cells #[.string ⟨#[107, 101, 114, 110, 101, 108]⟩, .string ⟨#[107, 101, 114, 110, 101, 108, 32, 50]⟩, .string ⟨#[114, 101, 99, 111, 118, 101, 114, 121]⟩, .string ⟨#[0]⟩, .string ⟨#[107, 101, 114, 110, 101, 108]⟩] 9)) T 0 c) := HX.out.below ((Below.refl _ _).alloc (Nat.le_refl _) _) HX.out.lt
  have HB2 : Hid (Below w.heap.size w (W1.alloc (.cells #[.string ⟨#[107, 101, 114, 110, 101, 108]⟩, .string ⟨#[107, 101, 114, 110, 101, 108, 32, 50]⟩, .string ⟨#[114, 101, 99, 111, 118, 101, 114, 121]⟩, .string ⟨#[0]⟩, .string ⟨#[107, 101, 114, 110, 101, 108]⟩] 9))) := HB.out.alloc HB.out.size _
  have HR2 : Hid (Row (W1.alloc (.cells #[.string ⟨#[107, 101, 114, 110, 101, 108]⟩, .string ⟨#[107, 101, 114, 110, 101, 108, 32, 50]⟩, .string ⟨#[114, 101, 99, 111, 118, 101, 114, 121]⟩, .string ⟨#[0]⟩, .string ⟨#[107, 101, 114, 110, 101, 108]⟩] 9)) W1.heap.size 9 5 (fun i => .string (im5.getD i ⟨#[]⟩))) := Row.ofList W1 9 _ _ 5 rfl
  have hTG : T < W1.heap.size := HX.out.lt
  clear HX HB
  go_wp2_with fail
  refine (HI1.out _).mono ?_
  rintro e w' ⟨rfl, rfl⟩
  go_wp2_with fail
  refine (HI2.out _).mono ?_
  rintro e w' ⟨rfl, rfl⟩
  go_wp2_with fail
  refine (HI3.out _).mono ?_
  rintro e w' ⟨rfl, rfl⟩
  go_wp2_with fail
  refine (HI4.out _).mono ?_
  rintro e w' ⟨rfl, rfl⟩
  go_wp2_with fail
  refine (HI1.out _).mono ?_
  rintro e w' ⟨rfl, rfl⟩
  go_wp2_with fail
  generalize W1.alloc (.cells #[.string ⟨#[107, 101, 114, 110, 101, 108]⟩, .string ⟨#[107, 101, 114, 110, 101, 108, 32, 50]⟩, .string ⟨#[114, 101, 99, 111, 118, 101, 114, 121]⟩, .string ⟨#[0]⟩, .string ⟨#[107, 101, 114, 110, 101, 108]⟩] 9) = W2 at *
  generalize W1.heap.size = G at *
  have S0 : Hid (CX W2.drew T 0 c) := HX2.out.below ((Below.refl _ _).drew) HX2.out.lt
  have HB0 : Hid (Below w.heap.size w W2.drew) := HB2.out.drew
  have HR0 : Hid (Row W2.drew G 9 5 (fun i => .string (im5.getD i ⟨#[]⟩))) := HR2.out.drew
  clear HX2 HB2 HR2
  refine wp_region_pt (fun Y => CX Y T 0 c) (.one 0 0 (.one 1 0 (.one 2 0 (.one 4 0 (.one 5 0 (.one 3 0 (.one 6 0 (.one 7 1 (.one 8 1 .nil))))))))) (by kernel_rfl) (by kernel_rfl) ?_
  generalize W2.drew = W3 at *
  iterate 5 (apply wpT_go; (focus rfl); (focus rfl); (focus exact S0.out); (focus (rintro Y ⟨c0, c1, c2, c3, c4, c5, c6, _⟩; go_simp; exact rfl)); intro K hK; go_simp; refine hK _ ?_; clear hK K)
  refine wpT_call rfl rfl S0.out (.int .i64 ((k : Nat) : Int)) 11 #[.int .i64 c.id, .int .i64 5] (by intro X hX; go_simp) (fun X _ => HM5.out X) ?_
  intro K hK
  go_simp
  refine hK _ ?_
  clear hK K
  refine wpT_call rfl rfl S0.out (.string im) 66 #[.int .i64 c.im] (by intro X hX; go_simp) (fun X _ => HIM.out X) ?_
  intro K hK
  go_simp
  refine hK _ ?_
  clear hK K
  apply wpT_one
  focus rfl
  intro K hK
  go_simp
  refine hK _ _ S0.out ?_
  clear hK K
  have ck := HR0.out.cell hk
  have fk := HR0.out.frozen k
  have S1 : Hid (CX (W3.setCell ⟨G, k, none⟩ (.string im)) T 0 c) := S0.out.below ((Below.refl G W3).setCell (p := ⟨G, k, none⟩) (Nat.le_refl _) _) hTG
  have HB1 : Hid (Below w.heap.size w (W3.setCell ⟨G, k, none⟩ (.string im))) := HB0.out.setCell (p := ⟨G, k, none⟩) (by have := HT.out; show _ ≤ G; omega) _
  have HR1 : Hid (Row (W3.setCell ⟨G, k, none⟩ (.string im)) G 9 5 (upd (fun i => .string (im5.getD i ⟨#[]⟩)) k (.string im))) := HR0.out.set hk _
  apply wpT_one
  focus rfl
  intro K hK
  go_simp
  refine hK _ _ S1.out ?_
  clear hK K
  refine wpT_done ?_
  have HRD : Hid (RdT (W3.setCell ⟨G, k, none⟩ (.string im)) (.slice (some ⟨G, 0, none⟩) (q + 3) 5) L) := HFIN.out _ _ (by have := HT.out; omega) HR1.out
  clear S0 HB0 HR0 HR1 HFIN ck fk
  generalize W3.setCell ⟨G, k, none⟩ (.string im) = W4 at *
  have c3 := S1.out.c3
  have hwq : IntKind.i64.wrap ((q : Int) + 3) = ((q + 3 : Nat) : Int) := by rw [IntWalk.i64_in _ ⟨by omega, by omega⟩]; omega
  have hq5 : ((q + 3 : Nat) : Int) ≤ 5 := by omega
  have hq5n : q + 3 ≤ 5 := by omega
  go_wp2_with fail
  refine (HM3.out _).mono ?_
  rintro e w' ⟨rfl, rfl⟩
  go_wp2_with fail
  go_ret
  exact ⟨G, rfl, by have := HT.out; omega, HRD.out, HB1.out⟩
end Go.Proofs.YtdinbpdpalgohaaGreatDoor
