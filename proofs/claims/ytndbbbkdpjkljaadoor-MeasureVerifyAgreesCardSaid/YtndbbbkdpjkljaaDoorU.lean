/- Replay, in the program and in the reference. Condition: at most 1000 events. -/
import Derived.Test.YtndbbbkdpjkljaaDoorT
namespace Go.Proofs.YtndbbbkdpjkljaaDoor
open Go.RowKit

def z45 : Array Value := (Value.int .i64 0 :: ((arr 32 zb).toList ++ [.string ⟨#[]⟩])).toArray
theorem load45n (ρ : Operand → Value) (d : Option Tmp) (x : Operand) (ty : TypeId) (p : String) (af : Array Edge) (g : Option (Nat × Bool)) (w : World) :
    Sem.run Tryd.prog (execOp ρ { dst := d, op := .load 45 x, type := ty, pos := p, after := af, guard := g }) w =
      match ldN 34 w (ρ x) with
      | some cs => .ok (.value (.agg cs)) w
      | none => Sem.run Tryd.prog (Instr.loadAt 45 (ρ x) >>= fun v => pure (Next.value v)) w := load_n 45 34 _ Tryd.underlying45 rfl (by kernel_rfl) ρ d x ty p af g w
theorem store45n (ρ : Operand → Value) (d : Option Tmp) (x y : Operand) (ty : TypeId) (p : String) (af : Array Edge) (g : Option (Nat × Bool)) (w : World) :
    Sem.run Tryd.prog (execOp ρ { dst := d, op := .store 45 x y, type := ty, pos := p, after := af, guard := g }) w =
      match stN 34 w (ρ x) (ρ y) with
      | some (b, o, cs) => .ok .skip (w.setCells b o cs.toList)
      | none => Sem.run Tryd.prog (Instr.storeAt 45 (ρ x) (ρ y) >>= fun _ => pure Next.skip) w := store_n 45 34 (by kernel_rfl) ρ d x y ty p af g w
theorem alloc45 (ρ : Operand → Value) (d : Option Tmp) (ty : TypeId) (p : String) (af : Array Edge) (g : Option (Nat × Bool)) (w : World) :
    Sem.run Tryd.prog (execOp ρ { dst := d, op := .alloc 45, type := ty, pos := p, after := af, guard := g }) w = .ok (.value (.pointer (some ⟨w.heap.size, 0, none⟩))) (w.alloc (.cells z45 45)) := by kernel_rfl
theorem z45_size : z45.size = 34 := by kernel_rfl
theorem evc_size (e : Ev) : (evc e).toArray.size = 34 := by simp [evc_len]
theorem evc_one (e : Ev) : (evc e).toArray.all (·.oneCell') = true := by
  apply all_oneCell_toArray
  intro u hx
  rcases List.mem_cons.1 hx with rfl | hx
  · rfl
  rcases List.mem_append.1 hx with hx | hx
  · simp only [arr, List.mem_map] at hx; obtain ⟨i, _, rfl⟩ := hx; rfl
  · rw [List.mem_singleton.1 hx]; rfl
theorem set_new' (t : Nat) (w : World) (cs ds : Array Value) (h : cs.size = ds.size) : (w.alloc (.cells cs t)).setCells w.heap.size 0 ds.toList = w.alloc (.cells ds t) := by
  rw [arr_of (n := ds.size) h, arr_of (cs := ds) (n := ds.size) rfl]
  simpa [arr_size] using set_new ds.size t w (fun i => cs.getD i undef) (fun i => ds.getD i undef)
theorem stN_ev (w : World) (e : Ev) : stN 34 (w.alloc (.cells z45 45)) (.pointer (some ⟨w.heap.size, 0, none⟩)) (.agg (evc e).toArray) = some (w.heap.size, 0, (evc e).toArray) := by
  refine stN_of (evc_size e) ?_ (evc_one e)
  have := (Row.ofList w 45 (arr 34 (fun i => z45.getD i undef)) (fun i => z45.getD i undef) 34 rfl).there
  rw [← arr_of z45_size] at this
  exact this
theorem set_ev (w : World) (e : Ev) : (w.alloc (.cells z45 45)).setCells w.heap.size 0 (evc e) = w.alloc (.cells (evc e).toArray 45) := set_new' 45 w z45 (evc e).toArray (by rw [z45_size, evc_size])
theorem stN_b8c (t : Nat) (w : World) (f : Nat → Value) (D : Nat → Int) (B : Nat) (hB : B = w.heap.size) : stN 32 (w.alloc (.cells (arr 32 f) t)) (.pointer (some ⟨B, 0, none⟩)) (.agg (arr 32 (b8 D))) = some (B, 0, arr 32 (b8 D)) := by subst hB; exact stN_b8 t w f D
theorem set_newc (n t : Nat) (w : World) (f g : Nat → Value) (B : Nat) (hB : B = w.heap.size) : (w.alloc (.cells (arr n f) t)).setCells B 0 (arr n g).toList = w.alloc (.cells (arr n g) t) := by subst hB; exact set_new n t w f g
attribute [local go_sem ↓] alloc26 load26n store26n alloc45 load45n store45n
attribute [local go_sem] stN_uc stN_b8 set_new fold_drew ldN_drew ldN_drewN stN_drew stN_drewN stN_ev set_ev stN_b8c set_newc

/-- The registers, in a block of their own. -/
def rgv (G : Nat → Nat → Int) (i : Nat) : Value := .int .u8 (G (i / 32) (i % 32))
def RG (w : World) (g : Nat) (G : Nat → Nat → Int) : Prop := Row w g 26 256 (rgv G)
theorem rgv_at (G : Nat → Nat → Int) (r j : Nat) (hj : j < 32) : rgv G (r * 32 + j) = .int .u8 (G r j) := by
  unfold rgv; rw [show (r * 32 + j) / 32 = r by omega, show (r * 32 + j) % 32 = j by omega]
theorem RG.range {w : World} {g r : Nat} {G : Nat → Nat → Int} (h : RG w g G) (hr : r < 8) : w.rangeAt g (r * 32) (arr 32 (b8 (G r))).toList := fun j u hu => by
  have hj : j < 32 := by have := (List.getElem?_eq_some_iff.1 hu).1; simpa [arr] using this
  have : u = b8 (G r) j := by simpa [arr, hj] using hu.symm
  rw [this, Row.cell h (by omega), rgv_at _ _ _ hj]; rfl
theorem RG.there {w : World} {g : Nat} {G : Nat → Nat → Int} (h : RG w g G) (r : Nat) (hr : r < 8) : w.there g (r * 32) 32 := fun j hj => ⟨by rw [Row.cell h (by omega)]; rfl, Row.frozen h _⟩
theorem RG.reg {w : World} {g : Nat} {G : Nat → Nat → Int} (h : RG w g G) (r : Nat) (hr : r < 8) (M : Nat → Int) : RG (w.setCells g (r * 32) (arr 32 (b8 M)).toList) g (fun q => if q = r then M else G q) := by
  have hl : (arr 32 (b8 M)).toList.length = 32 := by simp [arr]
  refine Row.congr (Row.setAll _ (r * 32) w _ h (by omega)) fun i hi => ?_
  rw [hl]
  by_cases e : r * 32 ≤ i ∧ i < r * 32 + 32
  · rw [if_pos e]
    have e2 : i - r * 32 < 32 := by omega
    unfold rgv
    simp only [show i / 32 = r by omega, if_pos, show i % 32 = i - r * 32 by omega]
    simp [arr, e2, b8]
  · rw [if_neg e]
    unfold rgv
    show _ = Value.int .u8 ((if i / 32 = r then M else G (i / 32)) (i % 32))
    rw [if_neg (by omega)]
theorem reg1_at (G : Nat → Nat → Int) (e : Ev) (r : Nat) (he : e.r = (r : Int)) : reg1 G e = fun q => if q = r then sumD (dl (G r) ++ dl e.d) else G q := by
  funext q
  unfold reg1
  by_cases h : q = r
  · subst h; rw [if_pos he.symm, if_pos rfl]
  · rw [if_neg (by rw [he]; omega), if_neg h]
theorem regs_take (es : List Ev) (i : Nat) (e : Ev) (h : es[i]? = some e) : regs (es.take (i + 1)) = reg1 (regs (es.take i)) e := by
  have hi := (List.getElem?_eq_some_iff.1 h).1
  have e' : es[i] = e := (List.getElem?_eq_some_iff.1 h).2
  rw [List.take_succ_eq_append_getElem hi, e', regs_snoc]
/-- The events name registers. -/
def okE (e : Ev) : Bool := decide (0 ≤ e.r) && decide (e.r < 8)
def RepOK (w : World) (es : List Ev) (e : Ending) (w' : World) : Prop := ∃ g, e = .returned (.tuple #[.slice (some ⟨g, 0, none⟩) 8 8, .int .i64 0]) ∧ w.heap.size ≤ g ∧ RG w' g (regs es) ∧ Below w.heap.size w w'
def RepAny (w : World) (es : List Ev) (e : Ending) (w' : World) : Prop := (es.all okE = true ∧ RepOK w es e w') ∨ (es.all okE = false ∧ e = .returned (.tuple #[.slice none 0 0, .int .i64 1]) ∧ Below w.heap.size w w')
theorem ev_block (W : World) (e : Ev) : W.cell? ⟨0, 0, none⟩ = W.cell? ⟨0, 0, none⟩ ∧ (W.alloc (.cells (evc e).toArray 45)).cell? ⟨W.heap.size, 0, none⟩ = some (.int .i64 e.r) ∧ (W.alloc (.cells (evc e).toArray 45)).rangeAt W.heap.size 1 (arr 32 (b8 e.d)).toList := by
  have hc : ∀ j u, (evc e)[j]? = some u → (W.alloc (.cells (evc e).toArray 45)).cell? ⟨W.heap.size, j, none⟩ = some u := fun j u hu => by
    rw [cell_of_row _ W.heap.size j (evc e).toArray 45 (0, 0) (heap_alloc_new W _)]; simpa using hu
  refine ⟨rfl, hc 0 _ rfl, fun j u hu => ?_⟩
  have hj : j < 32 := by have := (List.getElem?_eq_some_iff.1 hu).1; simpa [arr] using this
  refine hc (1 + j) u ?_
  unfold evc
  rw [show 1 + j = j + 1 by omega, List.getElem?_cons_succ, List.getElem?_append_left (by simpa [arr] using hj)]
  exact hu
theorem mk_regs (W : World) : (Instr.makeSlice 48 (.int .i64 8) (.int .i64 8)).run Tryd.prog W = .ok (.slice (some ⟨W.heap.size, 0, none⟩) 8 8) (W.alloc (.cells (arr 256 zb) 26)) := by kernel_rfl
/-- The digest of an event that is read. -/
theorem rng_str {W : World} {b o c : Nat} {D : Nat → Int} (hD : Byt D) (h : W.rangeAt b o (arr 32 (b8 D)).toList) : (convert 23 9 (.slice (some ⟨b, o, none⟩) 32 c)).run Tryd.prog W = .ok (.string ⟨(dl D).toArray⟩) W := by
  have := run_convert_bytes_back (P := Tryd.prog) W 23 9 5 ⟨b, o, none⟩ c (dl D) Tryd.underlying23 Tryd.underlying5 Tryd.underlying9 (fun j hj => by
    rw [Addr.add_mid, dl_at hD j hj]
    exact h j _ (by rw [dl_len] at hj; simp [arr, hj, b8]))
  rw [dl_len] at this
  exact this

set_option maxRecDepth 100000 in
set_option maxHeartbeats 2000000 in
theorem replay_any (v : Value) (es : List Ev) (w : World) (h : RdE w v es) (hl : es.length ≤ 1000) (hw : ∀ e ∈ es, Byt e.d) (hR : Rnd w) (h0 : 0 < w.heap.size) :
    Calls Tryd.prog 29 #[v] w (RepAny w es) := by
  obtain ⟨a, c, rfl, hr⟩ := h
  have HRd : Hid (RdE w (.slice a es.length c) es) := ⟨a, c, rfl, hr⟩
  have HR := Lib.hid hR
  have HW := Lib.hid hw
  have hmk := mk_regs w
  clear hr hR hw
  go_enter Tryd.func29, Tryd.ntmps29
  go_wp2_with fail
  have q0 : Hid (RG (w.alloc (.cells (arr 256 zb) 26)) w.heap.size (regs (es.take 0))) := Row.ofList w 26 _ _ 256 rfl
  have b0 : Hid (Below w.heap.size w (w.alloc (.cells (arr 256 zb) 26))) := (Below.refl _ _).alloc (Nat.le_refl _) _
  clear hmk
  generalize w.alloc (.cells (arr 256 zb) 26) = W0 at q0 b0 ⊢
  go_loopw [10] (fun x wr => ∃ i : Nat, i ≤ es.length ∧ x = .int .i64 i ∧ Hid ((es.take i).all okE = true) ∧ Hid (RG wr w.heap.size (regs (es.take i))) ∧ Hid (Below w.heap.size w wr)) (fun x _ => es.length - (intOf x).toNat)
  case atStart => exact ⟨0, by omega, rfl, (by simp : (es.take 0).all okE = true), q0, b0⟩
  case round =>
    clear q0 b0
    obtain ⟨i, hi, rfl, ha, hq, hb⟩ := hrel
    have hsz := hb.out.size
    by_cases hlt : i < es.length
    · have z0 : (i : Int) < es.length := by omega
      obtain ⟨a', c', e1, hrr⟩ := HRd.out.below hb.out (Nat.le_refl _)
      injection e1 with e1 e2 e3
      subst e1 e3
      obtain ⟨b, o, rfl, hbl, hrg⟩ := hrr (by intro h; rw [h] at hlt; simp at hlt)
      obtain ⟨e, he⟩ : ∃ e, es[i]? = some e := ⟨_, List.getElem?_eq_getElem hlt⟩
      have hem := List.mem_of_getElem? he
      have hbe := HW.out e hem
      have ld : ldN 34 wr (.pointer (some ⟨b, o + i * 34, none⟩)) = some (evc e).toArray := ldN_of (by simpa using hrg i e he) (evc_size e)
      obtain ⟨_, cT, rT⟩ := ev_block wr e
      have bT : Hid (Below w.heap.size w (wr.alloc (.cells (evc e).toArray 45))) := hb.out.alloc hb.out.size _
      by_cases hbad : okE e = false
      · have hr' : e.r < 0 ∨ 8 ≤ e.r := by
          unfold okE at hbad
          simp only [Bool.and_eq_false_iff, decide_eq_false_iff_not] at hbad
          omega
        have hfin : Hid (es.all okE = false) := by
          show es.all okE = false
          rw [List.all_eq_false]
          exact ⟨e, hem, by simp [hbad]⟩
        clear hrg hrr rT
        go_wp2_with fail
        generalize wr.alloc (.cells (evc e).toArray 45) = V at cT bT ⊢
        generalize hT : wr.heap.size = T at cT ⊢
        clear hT ld
        go_wp2_with fail
        refine (isreg_no e.r V hr').mono ?_
        rintro _ w3 ⟨rfl, rfl⟩
        go_wp2_with fail
        go_ret2
        exact .inr ⟨hfin.out, rfl, bT.out⟩
      have hok : okE e = true := by simpa using hbad
      have ha' : Hid ((es.take (i + 1)).all okE = true) := by
        show (es.take (i + 1)).all okE = true
        rw [List.take_succ_eq_append_getElem hlt, List.all_append, ha.out, show es[i] = e from (List.getElem?_eq_some_iff.1 he).2]
        simp [hok]
      unfold okE at hok
      simp only [Bool.and_eq_true, decide_eq_true_eq] at hok
      clear hbad
      obtain ⟨r, hr⟩ := Int.eq_ofNat_of_zero_le hok.1
      have hr8 : r < 8 := by have := hok.2; rw [hr] at this; exact Int.ofNat_lt.1 this
      have HRT := Lib.hid (regs_take es i e he)
      clear hrg hrr hok
      have HBE := Lib.hid hbe
      have qT := Lib.hid (hq.out.alloc (.cells (evc e).toArray 45))
      have gLt : w.heap.size < wr.heap.size := hq.out.lt
      rw [hr] at cT
      have HRT' : Hid (regs (es.take (i + 1)) = fun q => if q = r then sumD (dl (regs (es.take i) r) ++ dl e.d) else regs (es.take i) q) := by
        show regs (es.take (i + 1)) = _
        rw [HRT.out]; exact reg1_at _ _ _ hr
      have HBG : Hid (Byt (regs (es.take i) r)) := regs_byt _ _
      clear HRT hbe
      go_wp2_with fail
      generalize wr.alloc (.cells (evc e).toArray 45) = V at cT rT qT bT ⊢
      generalize hT : wr.heap.size = T at cT rT gLt ⊢
      clear hT ld
      have HrT := Lib.hid rT
      have HcT := Lib.hid cT
      go_wp2_with fail
      refine (isreg_yes r V hr8).mono ?_
      rintro _ w3 ⟨rfl, rfl⟩
      have HSK : Hid (∀ X, RG X w.heap.size (regs (es.take i)) → X.cell? ⟨T, 0, none⟩ = some (.int .i64 (r : Int)) → X.rangeAt T 1 (arr 32 (b8 e.d)).toList → X.cell? ⟨T, 0, none⟩ = some (.int .i64 (r : Int)) ∧ ldN 32 X (.pointer (some ⟨w.heap.size, r * 32, none⟩)) = some (arr 32 (b8 (regs (es.take i) r))) ∧ ldN 32 X (.pointer (some ⟨T, 1, none⟩)) = some (arr 32 (b8 e.d))) := fun X h1 h2 h3 =>
        ⟨h2, ldN_of (h1.range hr8) (by simp [arr]), ldN_of h3 (by simp [arr])⟩
      have S0 := Lib.hid (HSK.out V.drew qT.out.drew HcT.out ((World.rangeAt_drew _ _ _ _).2 HrT.out))
      have r8 : (r : Int) < 8 := by omega
      have hTV : T < V.heap.size := World.block_lt_of_cell? V ⟨T, 0, none⟩ HcT.out
      clear rT cT
      go_wp2_with fail
      refine wp_region_pl (fun X => X.cell? ⟨T, 0, none⟩ = some (.int .i64 (r : Int)) ∧ ldN 32 X (.pointer (some ⟨w.heap.size, r * 32, none⟩)) = some (arr 32 (b8 (regs (es.take i) r))) ∧ ldN 32 X (.pointer (some ⟨T, 1, none⟩)) = some (arr 32 (b8 e.d)))
        ((0, 0) :: (1, 0) :: (2, 0) :: (3, 0) :: (4, 0) :: (5, 0) :: (6, 0) :: (7, 0) :: (8, 0) :: (9, 0) :: (10, 1) :: (11, 1) :: (12, 2) :: []) (by kernel_rfl) (by kernel_rfl) ?_
      iterate 10 (apply wpP_go; (focus rfl); (focus rfl); (focus exact S0.out); (focus (rintro X ⟨s0, s1, s2⟩; go_simp; exact rfl)); intro K hK; go_simp; refine hK _ ?_; clear hK K)
      apply wpP_one
      focus rfl
      intro K hK
      go_simp
      refine (extend_any (regs (es.take i) r) e.d _ HBG.out HBE.out (by exact HR.out.below bT.out.drew h0) (by have := bT.out.size; show 0 < V.heap.size; omega)).mono ?_
      rintro _ w4 ⟨rfl, hb4⟩
      have q4 := Lib.hid (Row.below qT.out.drew hb4 qT.out.lt)
      have S4 := Lib.hid (HSK.out w4 q4.out ((hb4.cell (p := ⟨T, 0, none⟩) hTV).trans HcT.out) (rangeAt_below ((World.rangeAt_drew _ _ _ _).2 HrT.out) hb4 hTV))
      have B4 := Lib.hid (bss bT.out.drew hb4)
      clear hb4
      refine hK _ _ S4.out ?_
      clear hK K
      have a8 : (0 : Int) ≤ (r : Int) := by omega
      apply wpP_one
      focus rfl
      intro K hK
      go_simp
      refine hK _ _ S4.out ?_
      clear hK K
      obtain ⟨M, hM⟩ : ∃ M : Nat → Int, sumD (dl (regs (es.take i) r) ++ dl e.d) = M := ⟨_, rfl⟩
      rw [hM]
      have HM := Lib.hid hM
      clear hM
      have hst : stN 32 w4 (.pointer (some ⟨w.heap.size, r * 32, none⟩)) (.agg (arr 32 (b8 M))) = some (w.heap.size, r * 32, arr 32 (b8 M)) := stN_of (by simp [arr]) (RG.there q4.out r hr8) (all_one _ _ (fun _ => rfl))
      apply wpP_two
      focus rfl
      intro K hK
      go_simp
      refine hK _ _ ?_
      clear hK K
      refine wpP_done ?_
      have q5 : Hid (RG (w4.setCells w.heap.size (r * 32) (arr 32 (b8 M)).toList) w.heap.size (regs (es.take (i + 1)))) := by
        show RG _ _ _
        rw [HRT'.out, HM.out]
        exact RG.reg q4.out r hr8 M
      have B5 : Hid (Below w.heap.size w (w4.setCells w.heap.size (r * 32) (arr 32 (b8 M)).toList)) := Below.setAll (Nat.le_refl _) _ _ _ B4.out
      generalize w4.setCells w.heap.size (r * 32) (arr 32 (b8 M)).toList = Z at q5 B5 ⊢
      go_wp2_with fail
      exact ⟨⟨i + 1, by omega, by go_num, ha', q5, B5⟩, by simp [intOf]; omega⟩
    · have z0 : ¬ (i : Int) < es.length := by omega
      have ha5 : Hid (es.all okE = true) := by have := ha.out; rw [List.take_of_length_le (by omega)] at this; exact this
      have q5 : Hid (RG wr w.heap.size (regs es)) := by have := hq.out; rw [List.take_of_length_le (by omega)] at this; exact this
      go_wp2_with fail
      go_ret2
      exact .inl ⟨ha5.out, w.heap.size, rfl, Nat.le_refl _, q5.out, hb.out⟩
set_option maxRecDepth 100000 in
set_option maxHeartbeats 2000000 in
theorem rreplay_any (v : Value) (es : List Ev) (w : World) (h : RdE w v es) (hl : es.length ≤ 1000) (hw : ∀ e ∈ es, Byt e.d) :
    Calls Tryd.prog 30 #[v] w (RepAny w es) := by
  obtain ⟨a, c, rfl, hr⟩ := h
  have HRd : Hid (RdE w (.slice a es.length c) es) := ⟨a, c, rfl, hr⟩
  have HW := Lib.hid hw
  have hmk := mk_regs w
  clear hr hw
  go_enter Tryd.func30, Tryd.ntmps30
  go_wp2_with fail
  have q0 : Hid (RG (w.alloc (.cells (arr 256 zb) 26)) w.heap.size (regs (es.take 0))) := Row.ofList w 26 _ _ 256 rfl
  have b0 : Hid (Below w.heap.size w (w.alloc (.cells (arr 256 zb) 26))) := (Below.refl _ _).alloc (Nat.le_refl _) _
  clear hmk
  generalize w.alloc (.cells (arr 256 zb) 26) = W0 at q0 b0 ⊢
  go_loopw [5] (fun x wr => ∃ i : Nat, i ≤ es.length ∧ x = .int .i64 i ∧ Hid ((es.take i).all okE = true) ∧ Hid (RG wr w.heap.size (regs (es.take i))) ∧ Hid (Below w.heap.size w wr)) (fun x _ => es.length - (intOf x).toNat)
  case atStart => exact ⟨0, by omega, rfl, (by simp : (es.take 0).all okE = true), q0, b0⟩
  case round =>
    clear q0 b0
    obtain ⟨i, hi, rfl, ha, hq, hb⟩ := hrel
    have hsz := hb.out.size
    by_cases hlt : i < es.length
    · have z0 : (i : Int) < es.length := by omega
      obtain ⟨a', c', e1, hrr⟩ := HRd.out.below hb.out (Nat.le_refl _)
      injection e1 with e1 e2 e3
      subst e1 e3
      obtain ⟨b, o, rfl, hbl, hrg⟩ := hrr (by intro h; rw [h] at hlt; simp at hlt)
      obtain ⟨e, he⟩ : ∃ e, es[i]? = some e := ⟨_, List.getElem?_eq_getElem hlt⟩
      have hem := List.mem_of_getElem? he
      have hbe := HW.out e hem
      have ld : ldN 34 wr (.pointer (some ⟨b, o + i * 34, none⟩)) = some (evc e).toArray := ldN_of (by simpa using hrg i e he) (evc_size e)
      obtain ⟨_, cT, rT⟩ := ev_block wr e
      have bT : Hid (Below w.heap.size w (wr.alloc (.cells (evc e).toArray 45))) := hb.out.alloc hb.out.size _
      by_cases hbad : okE e = false
      · have hr' : e.r < 0 ∨ 8 ≤ e.r := by
          unfold okE at hbad
          simp only [Bool.and_eq_false_iff, decide_eq_false_iff_not] at hbad
          omega
        have hfin : Hid (es.all okE = false) := by
          show es.all okE = false
          rw [List.all_eq_false]
          exact ⟨e, hem, by simp [hbad]⟩
        clear hrg hrr rT
        by_cases hneg : e.r < 0
        · have d1 : decide (e.r < 0) = true := by simpa using hneg
          go_wp2_with fail
          go_ret2
          exact .inr ⟨hfin.out, rfl, bT.out⟩
        · have d1 : decide (e.r < 0) = false := by simpa using hneg
          have d2 : decide (e.r ≥ 8) = true := by simp; omega
          go_wp2_with fail
          go_ret2
          exact .inr ⟨hfin.out, rfl, bT.out⟩
      have hok : okE e = true := by simpa using hbad
      have ha' : Hid ((es.take (i + 1)).all okE = true) := by
        show (es.take (i + 1)).all okE = true
        rw [List.take_succ_eq_append_getElem hlt, List.all_append, ha.out, show es[i] = e from (List.getElem?_eq_some_iff.1 he).2]
        simp [hok]
      unfold okE at hok
      simp only [Bool.and_eq_true, decide_eq_true_eq] at hok
      clear hbad
      obtain ⟨r, hr⟩ := Int.eq_ofNat_of_zero_le hok.1
      have hr8 : r < 8 := by have := hok.2; rw [hr] at this; exact Int.ofNat_lt.1 this
      have HRT := Lib.hid (regs_take es i e he)
      clear hrg hrr hok
      have HBE := Lib.hid hbe
      have qT := Lib.hid (hq.out.alloc (.cells (evc e).toArray 45))
      have gLt : w.heap.size < wr.heap.size := hq.out.lt
      rw [hr] at cT
      have HRT' : Hid (regs (es.take (i + 1)) = fun q => if q = r then sumD (dl (regs (es.take i) r) ++ dl e.d) else regs (es.take i) q) := by
        show regs (es.take (i + 1)) = _
        rw [HRT.out]; exact reg1_at _ _ _ hr
      have HBG : Hid (Byt (regs (es.take i) r)) := regs_byt _ _
      clear HRT hbe
      have d1 : decide ((r : Int) < 0) = false := by simp
      have d2 : decide ((r : Int) ≥ 8) = false := by simp; omega
      have lG : ldN 32 (wr.alloc (.cells (evc e).toArray 45)) (.pointer (some ⟨w.heap.size, r * 32, none⟩)) = some (arr 32 (b8 (regs (es.take i) r))) := ldN_of (RG.range qT.out hr8) (by simp [arr])
      have r8 : (r : Int) < 8 := by omega
      go_wp2_with fail
      have eV : (wr.alloc (.cells (evc e).toArray 45)).heap.size = wr.heap.size + 1 := by simp
      rw [← eV]
      clear eV
      generalize wr.alloc (.cells (evc e).toArray 45) = V at cT rT qT bT lG ⊢
      generalize hT : wr.heap.size = T at cT rT gLt ⊢
      clear hT ld
      have HrT := Lib.hid rT
      have HcT := Lib.hid cT
      have hTV : T < V.heap.size := World.block_lt_of_cell? V ⟨T, 0, none⟩ HcT.out
      have qU := Lib.hid (Row.alloc qT.out (.cells (arr 32 (b8 (regs (es.take i) r))) 26))
      have bU : Hid (Below w.heap.size w (V.alloc (.cells (arr 32 (b8 (regs (es.take i) r))) 26))) := bT.out.alloc bT.out.size _
      have rU : Hid (Row (V.alloc (.cells (arr 32 (b8 (regs (es.take i) r))) 26)) V.heap.size 26 32 (b8 (regs (es.take i) r))) := Row.ofList V 26 _ _ 32 rfl
      have cU : Hid ((V.alloc (.cells (arr 32 (b8 (regs (es.take i) r))) 26)).cell? ⟨T, 0, none⟩ = some (.int .i64 (r : Int))) := (World.cell?_of_block (w := V) (Below.heap_alloc V _ T hTV)).trans HcT.out
      have gU := Lib.hid (rangeAt_below HrT.out ((Below.refl V.heap.size V).alloc (Nat.le_refl _) (.cells (arr 32 (b8 (regs (es.take i) r))) 26)) hTV)
      have hTU : T < (V.alloc (.cells (arr 32 (b8 (regs (es.take i) r))) 26)).heap.size := by simp; omega
      clear lG rT cT
      generalize V.alloc (.cells (arr 32 (b8 (regs (es.take i) r))) 26) = U at qU bU rU cU gU hTU ⊢
      generalize V.heap.size = Wb at rU ⊢
      have HSK : Hid (∀ X, Row X Wb 26 32 (b8 (regs (es.take i) r)) → X.cell? ⟨T, 0, none⟩ = some (.int .i64 (r : Int)) → X.rangeAt T 1 (arr 32 (b8 e.d)).toList → X.cell? ⟨T, 0, none⟩ = some (.int .i64 (r : Int)) ∧ (convert 23 9 (.slice (some ⟨Wb, 0, none⟩) 32 32)).run Tryd.prog X = .ok (.string ⟨(dl (regs (es.take i) r)).toArray⟩) X ∧ (convert 23 9 (.slice (some ⟨T, 1, none⟩) 32 32)).run Tryd.prog X = .ok (.string ⟨(dl e.d).toArray⟩) X) := fun X h1 h2 h3 =>
        ⟨h2, dig_str HBG.out h1, rng_str HBE.out h3⟩
      have S0 := Lib.hid (HSK.out U.drew rU.out.drew cU.out ((World.rangeAt_drew _ _ _ _).2 gU.out))
      have hln : ¬ 9223372036854775807 < (dl (regs (es.take i) r)).length + (dl e.d).length := by rw [dl_len, dl_len]; omega
      obtain ⟨Sx, hSx⟩ : ∃ Sx : ByteArray, Sx = ({ data := (dl (regs (es.take i) r)).toArray } ++ { data := (dl e.d).toArray } : ByteArray) := ⟨_, rfl⟩
      have HSx : Hid (Sx.data.toList = dl (regs (es.take i) r) ++ dl e.d) := by rw [hSx]; exact cat_data _ _
      have hSz : Sx.size ≤ 1073741824 := by rw [size_eq, HSx.out, List.length_append, dl_len, dl_len]; omega
      have HCs : Hid (∀ X, Calls Tryd.prog 16 #[.string ({ data := (dl (regs (es.take i) r)).toArray } ++ { data := (dl e.d).toArray } : ByteArray)] X fun e' w' => e' = .returned (.agg (arr 32 (b8 (sumD (dl (regs (es.take i) r) ++ dl e.d))))) ∧ Below X.heap.size X w') := fun X => by
        rw [← hSx, ← HSx.out]; exact rsum_any Sx X hSz
      clear hSx
      refine wp_region_pl (fun X => X.cell? ⟨T, 0, none⟩ = some (.int .i64 (r : Int)) ∧ (convert 23 9 (.slice (some ⟨Wb, 0, none⟩) 32 32)).run Tryd.prog X = .ok (.string ⟨(dl (regs (es.take i) r)).toArray⟩) X ∧ (convert 23 9 (.slice (some ⟨T, 1, none⟩) 32 32)).run Tryd.prog X = .ok (.string ⟨(dl e.d).toArray⟩) X)
        ((0, 0) :: (1, 0) :: (2, 0) :: (3, 0) :: (4, 0) :: (5, 0) :: (6, 0) :: (7, 0) :: (8, 0) :: (9, 1) :: (10, 1) :: (11, 2) :: []) (by kernel_rfl) (by kernel_rfl) ?_
      iterate 9 (apply wpP_go; (focus rfl); (focus rfl); (focus exact S0.out); (focus (rintro X ⟨s0, s1, s2⟩; go_simp; exact rfl)); intro K hK; go_simp; refine hK _ ?_; clear hK K)
      apply wpP_one
      focus rfl
      intro K hK
      go_simp
      refine (HCs.out _).mono ?_
      rintro _ w4 ⟨rfl, hb4⟩
      have q4 := Lib.hid (Row.below qU.out.drew hb4 qU.out.lt)
      have S4 := Lib.hid (HSK.out w4 (rU.out.drew.below hb4 rU.out.lt) ((hb4.cell (p := ⟨T, 0, none⟩) hTU).trans cU.out) (rangeAt_below ((World.rangeAt_drew _ _ _ _).2 gU.out) hb4 hTU))
      have B4 := Lib.hid (bss bU.out.drew hb4)
      clear hb4
      refine hK _ _ S4.out ?_
      clear hK K
      apply wpP_one
      focus rfl
      intro K hK
      go_simp
      refine hK _ _ S4.out ?_
      clear hK K
      obtain ⟨M, hM⟩ : ∃ M : Nat → Int, sumD (dl (regs (es.take i) r) ++ dl e.d) = M := ⟨_, rfl⟩
      rw [hM]
      have HM := Lib.hid hM
      clear hM
      have hst : stN 32 w4 (.pointer (some ⟨w.heap.size, r * 32, none⟩)) (.agg (arr 32 (b8 M))) = some (w.heap.size, r * 32, arr 32 (b8 M)) := stN_of (by simp [arr]) (RG.there q4.out r hr8) (all_one _ _ (fun _ => rfl))
      apply wpP_two
      focus rfl
      intro K hK
      go_simp
      refine hK _ _ ?_
      clear hK K
      refine wpP_done ?_
      have q5 : Hid (RG (w4.setCells w.heap.size (r * 32) (arr 32 (b8 M)).toList) w.heap.size (regs (es.take (i + 1)))) := by
        show RG _ _ _
        rw [HRT'.out, HM.out]
        exact RG.reg q4.out r hr8 M
      have B5 : Hid (Below w.heap.size w (w4.setCells w.heap.size (r * 32) (arr 32 (b8 M)).toList)) := Below.setAll (Nat.le_refl _) _ _ _ B4.out
      generalize w4.setCells w.heap.size (r * 32) (arr 32 (b8 M)).toList = Z at q5 B5 ⊢
      go_wp2_with fail
      exact ⟨⟨i + 1, by omega, by go_num, ha', q5, B5⟩, by simp [intOf]; omega⟩
    · have z0 : ¬ (i : Int) < es.length := by omega
      have ha5 : Hid (es.all okE = true) := by have := ha.out; rw [List.take_of_length_le (by omega)] at this; exact this
      have q5 : Hid (RG wr w.heap.size (regs es)) := by have := hq.out; rw [List.take_of_length_le (by omega)] at this; exact this
      go_wp2_with fail
      go_ret2
      exact .inl ⟨ha5.out, w.heap.size, rfl, Nat.le_refl _, q5.out, hb.out⟩
end Go.Proofs.YtndbbbkdpjkljaaDoor
