/- Replay, Quote, VerifyQuote. Conditions: those that each theorem names. -/
import Derived.Test.YtdinbpdpalgohaaGreatDoorY10
namespace Go.Proofs.YtdinbpdpalgohaaGreatDoor.Ms
open Go.RowKit

def z45 : Array Value := (Value.int .i64 0 :: ((arr 32 zb).toList ++ [.string ⟨#[]⟩])).toArray
theorem load45n (ρ : Operand → Value) (d : Option Tmp) (x : Operand) (ty : TypeId) (p : String) (af : Array Edge) (g : Option (Nat × Bool)) (w : World) :
    Sem.run Tryz.prog (execOp ρ { dst := d, op := .load 62 x, type := ty, pos := p, after := af, guard := g }) w =
      match ldN 34 w (ρ x) with
      | some cs => .ok (.value (.agg cs)) w
      | none => Sem.run Tryz.prog (Instr.loadAt 62 (ρ x) >>= fun v => pure (Next.value v)) w := load_n 62 34 _ Tryz.underlying62 rfl (by kernel_rfl) ρ d x ty p af g w
theorem store45n (ρ : Operand → Value) (d : Option Tmp) (x y : Operand) (ty : TypeId) (p : String) (af : Array Edge) (g : Option (Nat × Bool)) (w : World) :
    Sem.run Tryz.prog (execOp ρ { dst := d, op := .store 62 x y, type := ty, pos := p, after := af, guard := g }) w =
      match stN 34 w (ρ x) (ρ y) with
      | some (b, o, cs) => .ok .skip (w.setCells b o cs.toList)
      | none => Sem.run Tryz.prog (Instr.storeAt 62 (ρ x) (ρ y) >>= fun _ => pure Next.skip) w := store_n 62 34 (by kernel_rfl) ρ d x y ty p af g w
theorem alloc45 (ρ : Operand → Value) (d : Option Tmp) (ty : TypeId) (p : String) (af : Array Edge) (g : Option (Nat × Bool)) (w : World) :
    Sem.run Tryz.prog (execOp ρ { dst := d, op := .alloc 62, type := ty, pos := p, after := af, guard := g }) w = .ok (.value (.pointer (some ⟨w.heap.size, 0, none⟩))) (w.alloc (.cells z45 62)) := by kernel_rfl
theorem z45_size : z45.size = 34 := by kernel_rfl
theorem evc_size (e : Ev) : (evc e).toArray.size = 34 := by simp [evc_len]
theorem evc_one (e : Ev) : (evc e).toArray.all (·.oneCell') = true := by
  apply all_oneCell_toArray
  intro u hx
  rcases List.mem_cons.1 hx with rfl | hx
  · rfl
  rcases List.mem_append.1 hx with hx | hx
  · simp only [arr, List.mem_map] at hx; obtain ⟨i, _, rfl⟩ := hx; rfl
  · rw [List.mem_singleton.1 hx]; rfl
theorem set_new' (t : Nat) (w : World) (cs ds : Array Value) (h : cs.size = ds.size) : (w.alloc (.cells cs t)).setCells w.heap.size 0 ds.toList = w.alloc (.cells ds t) := by
  rw [arr_of (n := ds.size) h, arr_of (cs := ds) (n := ds.size) rfl]
  simpa [arr_size] using set_new ds.size t w (fun i => cs.getD i undef) (fun i => ds.getD i undef)
theorem stN_ev (w : World) (e : Ev) : stN 34 (w.alloc (.cells z45 62)) (.pointer (some ⟨w.heap.size, 0, none⟩)) (.agg (evc e).toArray) = some (w.heap.size, 0, (evc e).toArray) := by
  refine stN_of (evc_size e) ?_ (evc_one e)
  have := (Row.ofList w 62 (arr 34 (fun i => z45.getD i undef)) (fun i => z45.getD i undef) 34 rfl).there
  rw [← arr_of z45_size] at this
  exact this
theorem set_ev (w : World) (e : Ev) : (w.alloc (.cells z45 62)).setCells w.heap.size 0 (evc e) = w.alloc (.cells (evc e).toArray 62) := set_new' 62 w z45 (evc e).toArray (by rw [z45_size, evc_size])
theorem stN_b8c (t : Nat) (w : World) (f : Nat → Value) (D : Nat → Int) (B : Nat) (hB : B = w.heap.size) : stN 32 (w.alloc (.cells (arr 32 f) t)) (.pointer (some ⟨B, 0, none⟩)) (.agg (arr 32 (b8 D))) = some (B, 0, arr 32 (b8 D)) := by subst hB; exact stN_b8 t w f D
theorem set_newc (n t : Nat) (w : World) (f g : Nat → Value) (B : Nat) (hB : B = w.heap.size) : (w.alloc (.cells (arr n f) t)).setCells B 0 (arr n g).toList = w.alloc (.cells (arr n g) t) := by subst hB; exact set_new n t w f g
attribute [local go_sem ↓] alloc26 load26n store26n alloc45 load45n store45n
attribute [local go_sem] stN_uc stN_b8 set_new fold_drew ldN_drew ldN_drewN stN_drew stN_drewN stN_ev set_ev stN_b8c set_newc

/-- The registers, in a block of their own. -/
def rgv (G : Nat → Nat → Int) (i : Nat) : Value := .int .u8 (G (i / 32) (i % 32))
def RG (w : World) (g : Nat) (G : Nat → Nat → Int) : Prop := Row w g 31 256 (rgv G)
theorem rgv_at (G : Nat → Nat → Int) (r j : Nat) (hj : j < 32) : rgv G (r * 32 + j) = .int .u8 (G r j) := by
  unfold rgv; rw [show (r * 32 + j) / 32 = r by omega, show (r * 32 + j) % 32 = j by omega]
theorem RG.range {w : World} {g r : Nat} {G : Nat → Nat → Int} (h : RG w g G) (hr : r < 8) : w.rangeAt g (r * 32) (arr 32 (b8 (G r))).toList := fun j u hu => by
  have hj : j < 32 := by have := (List.getElem?_eq_some_iff.1 hu).1; simpa [arr] using this
  have : u = b8 (G r) j := by simpa [arr, hj] using hu.symm
  rw [this, Row.cell h (by omega), rgv_at _ _ _ hj]; rfl
theorem RG.there {w : World} {g : Nat} {G : Nat → Nat → Int} (h : RG w g G) (r : Nat) (hr : r < 8) : w.there g (r * 32) 32 := fun j hj => ⟨by rw [Row.cell h (by omega)]; rfl, Row.frozen h _⟩
theorem RG.reg {w : World} {g : Nat} {G : Nat → Nat → Int} (h : RG w g G) (r : Nat) (hr : r < 8) (M : Nat → Int) : RG (w.setCells g (r * 32) (arr 32 (b8 M)).toList) g (fun q => if q = r then M else G q) := by
  have hl : (arr 32 (b8 M)).toList.length = 32 := by simp [arr]
  refine Row.congr (Row.setAll _ (r * 32) w _ h (by omega)) fun i hi => ?_
  rw [hl]
  by_cases e : r * 32 ≤ i ∧ i < r * 32 + 32
  · rw [if_pos e]
    have e2 : i - r * 32 < 32 := by omega
    unfold rgv
    simp only [show i / 32 = r by omega, if_pos, show i % 32 = i - r * 32 by omega]
    simp [arr, e2, b8]
  · rw [if_neg e]
    unfold rgv
    show _ = Value.int .u8 ((if i / 32 = r then M else G (i / 32)) (i % 32))
    rw [if_neg (by omega)]
theorem reg1_at (G : Nat → Nat → Int) (e : Ev) (r : Nat) (he : e.r = (r : Int)) : reg1 G e = fun q => if q = r then sumD (dl (G r) ++ dl e.d) else G q := by
  funext q
  unfold reg1
  by_cases h : q = r
  · subst h; rw [if_pos he.symm, if_pos rfl]
  · rw [if_neg (by rw [he]; omega), if_neg h]
theorem regs_take (es : List Ev) (i : Nat) (e : Ev) (h : es[i]? = some e) : regs (es.take (i + 1)) = reg1 (regs (es.take i)) e := by
  have hi := (List.getElem?_eq_some_iff.1 h).1
  have e' : es[i] = e := (List.getElem?_eq_some_iff.1 h).2
  rw [List.take_succ_eq_append_getElem hi, e', regs_snoc]
/-- The events name registers. -/
def okE (e : Ev) : Bool := decide (0 ≤ e.r) && decide (e.r < 8)
def RepOK (w : World) (es : List Ev) (e : Ending) (w' : World) : Prop := ∃ g, e = .returned (.tuple #[.slice (some ⟨g, 0, none⟩) 8 8, .int .i64 0]) ∧ w.heap.size ≤ g ∧ RG w' g (regs es) ∧ Below w.heap.size w w'
def RepAny (w : World) (es : List Ev) (e : Ending) (w' : World) : Prop := (es.all okE = true ∧ RepOK w es e w') ∨ (es.all okE = false ∧ e = .returned (.tuple #[.slice none 0 0, .int .i64 1]) ∧ Below w.heap.size w w')
theorem ev_block (W : World) (e : Ev) : W.cell? ⟨0, 0, none⟩ = W.cell? ⟨0, 0, none⟩ ∧ (W.alloc (.cells (evc e).toArray 62)).cell? ⟨W.heap.size, 0, none⟩ = some (.int .i64 e.r) ∧ (W.alloc (.cells (evc e).toArray 62)).rangeAt W.heap.size 1 (arr 32 (b8 e.d)).toList := by
  have hc : ∀ j u, (evc e)[j]? = some u → (W.alloc (.cells (evc e).toArray 62)).cell? ⟨W.heap.size, j, none⟩ = some u := fun j u hu => by
    rw [cell_of_row _ W.heap.size j (evc e).toArray 62 (0, 0) (heap_alloc_new W _)]; simpa using hu
  refine ⟨rfl, hc 0 _ rfl, fun j u hu => ?_⟩
  have hj : j < 32 := by have := (List.getElem?_eq_some_iff.1 hu).1; simpa [arr] using this
  refine hc (1 + j) u ?_
  unfold evc
  rw [show 1 + j = j + 1 by omega, List.getElem?_cons_succ, List.getElem?_append_left (by simpa [arr] using hj)]
  exact hu
theorem mk_regs (W : World) : (Instr.makeSlice 47 (.int .i64 8) (.int .i64 8)).run Tryz.prog W = .ok (.slice (some ⟨W.heap.size, 0, none⟩) 8 8) (W.alloc (.cells (arr 256 zb) 31)) := by kernel_rfl
/-- The digest of an event that is read. -/
theorem rng_str {W : World} {b o c : Nat} {D : Nat → Int} (hD : Byt D) (h : W.rangeAt b o (arr 32 (b8 D)).toList) : (convert 99 9 (.slice (some ⟨b, o, none⟩) 32 c)).run Tryz.prog W = .ok (.string ⟨(dl D).toArray⟩) W := by
  have := run_convert_bytes_back (P := Tryz.prog) W 99 9 5 ⟨b, o, none⟩ c (dl D) Tryz.underlying99 Tryz.underlying5 Tryz.underlying9 (fun j hj => by
    rw [Addr.add_mid, dl_at hD j hj]
    exact h j _ (by rw [dl_len] at hj; simp [arr, hj, b8]))
  rw [dl_len] at this
  exact this

theorem bss {w w1 w2 : World} (h : Below w.heap.size w w1) (k : Below w1.heap.size w1 w2) : Below w.heap.size w w2 := h.trans (k.mono h.size)
set_option maxRecDepth 100000 in
set_option maxHeartbeats 2000000 in
theorem replay_any (v : Value) (es : List Ev) (w : World) (h : RdE w v es) (hl : es.length ≤ 1000) (hw : ∀ e ∈ es, Byt e.d) (hR : Rnd w) (h0 : 0 < w.heap.size) :
    Calls Tryz.prog 49 #[v] w (RepAny w es) := by
  obtain ⟨a, c, rfl, hr⟩ := h
  have HRd : Hid (RdE w (.slice a es.length c) es) := ⟨a, c, rfl, hr⟩
  have HR := Lib.hid hR
  have HW := Lib.hid hw
  have hmk := mk_regs w
  clear hr hR hw
  go_enter Tryz.func49, Tryz.ntmps49
  go_wp2_with fail
  have q0 : Hid (RG (w.alloc (.cells (arr 256 zb) 31)) w.heap.size (regs (es.take 0))) := Row.ofList w 31 _ _ 256 rfl
  have b0 : Hid (Below w.heap.size w (w.alloc (.cells (arr 256 zb) 31))) := (Below.refl _ _).alloc (Nat.le_refl _) _
  clear hmk
  generalize w.alloc (.cells (arr 256 zb) 31) = W0 at q0 b0 ⊢
  go_loopw [10] (fun x wr => ∃ i : Nat, i ≤ es.length ∧ x = .int .i64 i ∧ Hid ((es.take i).all okE = true) ∧ Hid (RG wr w.heap.size (regs (es.take i))) ∧ Hid (Below w.heap.size w wr)) (fun x _ => es.length - (intOf x).toNat)
  case atStart => exact ⟨0, by omega, rfl, (by simp : (es.take 0).all okE = true), q0, b0⟩
  case round =>
    clear q0 b0
    obtain ⟨i, hi, rfl, ha, hq, hb⟩ := hrel
    have hsz := hb.out.size
    by_cases hlt : i < es.length
    · have z0 : (i : Int) < es.length := by omega
      obtain ⟨a', c', e1, hrr⟩ := HRd.out.below hb.out (Nat.le_refl _)
      injection e1 with e1 e2 e3
      subst e1 e3
      obtain ⟨b, o, rfl, hbl, hrg⟩ := hrr (by intro h; rw [h] at hlt; simp at hlt)
      obtain ⟨e, he⟩ : ∃ e, es[i]? = some e := ⟨_, List.getElem?_eq_getElem hlt⟩
      have hem := List.mem_of_getElem? he
      have hbe := HW.out e hem
      have ld : ldN 34 wr (.pointer (some ⟨b, o + i * 34, none⟩)) = some (evc e).toArray := ldN_of (by simpa using hrg i e he) (evc_size e)
      obtain ⟨_, cT, rT⟩ := ev_block wr e
      have bT : Hid (Below w.heap.size w (wr.alloc (.cells (evc e).toArray 62))) := hb.out.alloc hb.out.size _
      by_cases hbad : okE e = false
      · have hr' : e.r < 0 ∨ 8 ≤ e.r := by
          unfold okE at hbad
          simp only [Bool.and_eq_false_iff, decide_eq_false_iff_not] at hbad
          omega
        have hfin : Hid (es.all okE = false) := by
          show es.all okE = false
          rw [List.all_eq_false]
          exact ⟨e, hem, by simp [hbad]⟩
        clear hrg hrr rT
        go_wp2_with fail
        generalize wr.alloc (.cells (evc e).toArray 62) = V at cT bT ⊢
        generalize hT : wr.heap.size = T at cT ⊢
        clear hT ld
        go_wp2_with fail
        refine (isreg_no e.r V hr').mono ?_
        rintro _ w3 ⟨rfl, rfl⟩
        go_wp2_with fail
        go_ret2
        exact .inr ⟨hfin.out, rfl, bT.out⟩
      have hok : okE e = true := by simpa using hbad
      have ha' : Hid ((es.take (i + 1)).all okE = true) := by
        show (es.take (i + 1)).all okE = true
        rw [List.take_succ_eq_append_getElem hlt, List.all_append, ha.out, show es[i] = e from (List.getElem?_eq_some_iff.1 he).2]
        simp [hok]
      unfold okE at hok
      simp only [Bool.and_eq_true, decide_eq_true_eq] at hok
      clear hbad
      obtain ⟨r, hr⟩ := Int.eq_ofNat_of_zero_le hok.1
      have hr8 : r < 8 := by have := hok.2; rw [hr] at this; exact Int.ofNat_lt.1 this
      have HRT := Lib.hid (regs_take es i e he)
      clear hrg hrr hok
      have HBE := Lib.hid hbe
      have qT := Lib.hid (hq.out.alloc (.cells (evc e).toArray 62))
      have gLt : w.heap.size < wr.heap.size := hq.out.lt
      rw [hr] at cT
      have HRT' : Hid (regs (es.take (i + 1)) = fun q => if q = r then sumD (dl (regs (es.take i) r) ++ dl e.d) else regs (es.take i) q) := by
        show regs (es.take (i + 1)) = _
        rw [HRT.out]; exact reg1_at _ _ _ hr
      have HBG : Hid (Byt (regs (es.take i) r)) := regs_byt _ _
      clear HRT hbe
      go_wp2_with fail
      generalize wr.alloc (.cells (evc e).toArray 62) = V at cT rT qT bT ⊢
      generalize hT : wr.heap.size = T at cT rT gLt ⊢
      clear hT ld
      have HrT := Lib.hid rT
      have HcT := Lib.hid cT
      go_wp2_with fail
      refine (isreg_yes r V hr8).mono ?_
      rintro _ w3 ⟨rfl, rfl⟩
      have HSK : Hid (∀ X, RG X w.heap.size (regs (es.take i)) → X.cell? ⟨T, 0, none⟩ = some (.int .i64 (r : Int)) → X.rangeAt T 1 (arr 32 (b8 e.d)).toList → X.cell? ⟨T, 0, none⟩ = some (.int .i64 (r : Int)) ∧ ldN 32 X (.pointer (some ⟨w.heap.size, r * 32, none⟩)) = some (arr 32 (b8 (regs (es.take i) r))) ∧ ldN 32 X (.pointer (some ⟨T, 1, none⟩)) = some (arr 32 (b8 e.d))) := fun X h1 h2 h3 =>
        ⟨h2, ldN_of (h1.range hr8) (by simp [arr]), ldN_of h3 (by simp [arr])⟩
      have S0 := Lib.hid (HSK.out V.drew qT.out.drew HcT.out ((World.rangeAt_drew _ _ _ _).2 HrT.out))
      have r8 : (r : Int) < 8 := by omega
      have hTV : T < V.heap.size := World.block_lt_of_cell? V ⟨T, 0, none⟩ HcT.out
      clear rT cT
      go_wp2_with fail
      refine wp_region_pl (fun X => X.cell? ⟨T, 0, none⟩ = some (.int .i64 (r : Int)) ∧ ldN 32 X (.pointer (some ⟨w.heap.size, r * 32, none⟩)) = some (arr 32 (b8 (regs (es.take i) r))) ∧ ldN 32 X (.pointer (some ⟨T, 1, none⟩)) = some (arr 32 (b8 e.d)))
        ((0, 0) :: (1, 0) :: (2, 0) :: (3, 0) :: (4, 0) :: (5, 0) :: (6, 0) :: (7, 0) :: (8, 0) :: (9, 0) :: (10, 1) :: (11, 1) :: (12, 2) :: []) (by kernel_rfl) (by kernel_rfl) ?_
      iterate 10 (apply wpP_go; (focus rfl); (focus rfl); (focus exact S0.out); (focus (rintro X ⟨s0, s1, s2⟩; go_simp; exact rfl)); intro K hK; go_simp; refine hK _ ?_; clear hK K)
      apply wpP_one
      focus rfl
      intro K hK
      go_simp
      refine (extend_any (regs (es.take i) r) e.d _ HBG.out HBE.out (by exact HR.out.below bT.out.drew h0) (by have := bT.out.size; show 0 < V.heap.size; omega)).mono ?_
      rintro _ w4 ⟨rfl, hb4⟩
      have q4 := Lib.hid (Row.below qT.out.drew hb4 qT.out.lt)
      have S4 := Lib.hid (HSK.out w4 q4.out ((hb4.cell (p := ⟨T, 0, none⟩) hTV).trans HcT.out) (rangeAt_below ((World.rangeAt_drew _ _ _ _).2 HrT.out) hb4 hTV))
      have B4 := Lib.hid (bss bT.out.drew hb4)
      clear hb4
      refine hK _ _ S4.out ?_
      clear hK K
      have a8 : (0 : Int) ≤ (r : Int) := by omega
      apply wpP_one
      focus rfl
      intro K hK
      go_simp
      refine hK _ _ S4.out ?_
      clear hK K
      obtain ⟨M, hM⟩ : ∃ M : Nat → Int, sumD (dl (regs (es.take i) r) ++ dl e.d) = M := ⟨_, rfl⟩
      rw [hM]
      have HM := Lib.hid hM
      clear hM
      have hst : stN 32 w4 (.pointer (some ⟨w.heap.size, r * 32, none⟩)) (.agg (arr 32 (b8 M))) = some (w.heap.size, r * 32, arr 32 (b8 M)) := stN_of (by simp [arr]) (RG.there q4.out r hr8) (all_one _ _ (fun _ => rfl))
      apply wpP_two
      focus rfl
      intro K hK
      go_simp
      refine hK _ _ ?_
      clear hK K
      refine wpP_done ?_
      have q5 : Hid (RG (w4.setCells w.heap.size (r * 32) (arr 32 (b8 M)).toList) w.heap.size (regs (es.take (i + 1)))) := by
        show RG _ _ _
        rw [HRT'.out, HM.out]
        exact RG.reg q4.out r hr8 M
      have B5 : Hid (Below w.heap.size w (w4.setCells w.heap.size (r * 32) (arr 32 (b8 M)).toList)) := Below.setAll (Nat.le_refl _) _ _ _ B4.out
      generalize w4.setCells w.heap.size (r * 32) (arr 32 (b8 M)).toList = Z at q5 B5 ⊢
      go_wp2_with fail
      exact ⟨⟨i + 1, by omega, by go_num, ha', q5, B5⟩, by simp [intOf]; omega⟩
    · have z0 : ¬ (i : Int) < es.length := by omega
      have ha5 : Hid (es.all okE = true) := by have := ha.out; rw [List.take_of_length_le (by omega)] at this; exact this
      have q5 : Hid (RG wr w.heap.size (regs es)) := by have := hq.out; rw [List.take_of_length_le (by omega)] at this; exact this
      go_wp2_with fail
      go_ret2
      exact .inl ⟨ha5.out, w.heap.size, rfl, Nat.le_refl _, q5.out, hb.out⟩
/-- v reads as these digests. -/
def RdD (w : World) (v : Value) (Ds : List (Nat → Int)) : Prop := ∃ a c, v = .slice a Ds.length c ∧ (Ds ≠ [] → ∃ b o, a = some ⟨b, o, none⟩ ∧ b < w.heap.size ∧ ∀ i D, Ds[i]? = some D → w.rangeAt b (o + i * 32) (arr 32 (b8 D)).toList)
theorem RdD.below {w w' : World} {v : Value} {es : List (Nat → Int)} {B0 : Nat} (h : RdD w v es) (hb : Below B0 w w') (hB : w.heap.size ≤ B0) : RdD w' v es := by
  obtain ⟨a, c, rfl, h⟩ := h
  refine ⟨a, c, rfl, fun hne => ?_⟩
  obtain ⟨b, o, rfl, hl, hr⟩ := h hne
  exact ⟨b, o, rfl, by have := hb.size; omega, fun i e he => rangeAt_below (hr i e he) hb (by omega)⟩
theorem RdD.drew {w : World} {v : Value} {es : List (Nat → Int)} (h : RdD w v es) : RdD w.drew v es := h
/-- Eight registers as a list. -/
def rgl (G : Nat → Nat → Int) : List (Nat → Int) := (List.range 8).map G
theorem RG.rd {w : World} {g : Nat} {G : Nat → Nat → Int} (h : RG w g G) : RdD w (.slice (some ⟨g, 0, none⟩) 8 8) (rgl G) := by
  refine ⟨_, _, rfl, fun _ => ⟨g, 0, rfl, Row.lt h, fun i D hD => ?_⟩⟩
  have hi : i < 8 := by have := (List.getElem?_eq_some_iff.1 hD).1; simpa [rgl] using this
  have : D = G i := by simpa [rgl, hi] using hD.symm
  subst this
  rw [Nat.zero_add]
  exact h.range hi
end Go.Proofs.YtdinbpdpalgohaaGreatDoor.Ms
namespace Go.Proofs.YtdinbpdpalgohaaGreatDoor.Ms
open Go.RowKit
theorem build26 (ρ : Operand → Value) (d : Option Tmp) (ty : TypeId) (p : String) (af : Array Edge) (g : Option (Nat × Bool)) (w : World) :
    Sem.run Tryz.prog (execOp ρ { dst := d, op := .build 31 #[], type := ty, pos := p, after := af, guard := g }) w = .ok (.value (.agg (arr 32 (b8 zD)))) w := by kernel_rfl
attribute [local go_sem ↓] build26 alloc26 load26n store26n alloc45 load45n store45n
attribute [local go_sem] stN_uc stN_b8 set_new fold_drew ldN_drew ldN_drewN stN_drew stN_drewN stN_ev set_ev stN_b8c set_newc
theorem macD_byt (k s : List UInt8) : Byt (macD k s) := sumD_byt _
theorem mac_is (key s : ByteArray) (w : World) (D : Nat → Int) (hD : Hid (macD key.data.toList s.data.toList = D)) (hk : key.size ≤ 1073741824) (hs : s.size ≤ 1073741760) (hr : Rnd w) (h0 : 0 < w.heap.size) :
    Calls Tryz.prog 115 #[.string key, .string s] w fun e w' => e = .returned (.agg (arr 32 (b8 D))) ∧ Below w.heap.size w w' := by
  rw [← hD.out]; exact mac_any key s w hk hs hr h0
def qb (Ds : List (Nat → Int)) : List UInt8 := Ds.flatMap dl
theorem qb_len (Ds : List (Nat → Int)) : (qb Ds).length = Ds.length * 32 := by
  induction Ds with
  | nil => rfl
  | cons D t ih => show (dl D ++ qb t).length = _; rw [List.length_append, ih, dl_len, List.length_cons]; omega
theorem qb_succ (Ds : List (Nat → Int)) (i : Nat) (D : Nat → Int) (h : Ds[i]? = some D) : qb (Ds.take (i + 1)) = qb (Ds.take i) ++ dl D := by
  have hi := (List.getElem?_eq_some_iff.1 h).1
  have e : Ds[i] = D := (List.getElem?_eq_some_iff.1 h).2
  rw [List.take_succ_eq_append_getElem hi, e]
  simp [qb]
def quoD (key : ByteArray) (Ds : List (Nat → Int)) (nonce : ByteArray) : Nat → Int := macD key.data.toList (qb Ds ++ nonce.data.toList)

def bv (l : List UInt8) : List Value := l.map fun x => .int .u8 ((x.toNat : Nat) : Int)
theorem bv_app (a b : List UInt8) : bv (a ++ b) = bv a ++ bv b := by simp [bv]
theorem bv_len (a : List UInt8) : (bv a).length = a.length := by simp [bv]
theorem dl_bv {D : Nat → Int} (h : Byt D) : (arr 32 (b8 D)).toList = bv (dl D) := by
  apply List.ext_getElem?
  intro j
  by_cases hj : j < 32
  · have h1 := dl_at h j (by rw [dl_len]; exact hj)
    have h2 : (bv (dl D))[j]? = some (.int .u8 (D j)) := by
      unfold bv
      rw [List.getElem?_map, List.getElem?_eq_getElem (by rw [dl_len]; exact hj)]
      show some (Value.int .u8 _) = _
      rw [h1]
    rw [h2]
    simp [arr, hj, b8]
  · rw [List.getElem?_eq_none (by simp [arr]; omega), List.getElem?_eq_none (by rw [bv_len, dl_len]; omega)]
set_option maxRecDepth 100000 in
set_option maxHeartbeats 2000000 in
theorem quote_yes (key nonce : ByteArray) (v : Value) (Ds : List (Nat → Int)) (w : World) (h : RdD w v Ds) (hby : ∀ D ∈ Ds, Byt D) (hn : Ds.length = 8) (hk : key.size ≤ 1000) (hs : nonce.size ≤ 1000) (hR : Rnd w) (h0 : 0 < w.heap.size) : Calls Tryz.prog 50 #[.string key, v, .string nonce] w fun e w' => e = .returned (.tuple #[.agg (arr 32 (b8 (quoD key Ds nonce))), .int .i64 0]) ∧ Below w.heap.size w w' := by
  obtain ⟨M, hM⟩ : ∃ M : Nat → Int, quoD key Ds nonce = M := ⟨_, rfl⟩
  rw [hM]
  have HM := Lib.hid hM
  clear hM
  obtain ⟨a, c, rfl, hr⟩ := h
  obtain ⟨b, o, rfl, hbl, hrg⟩ := hr (by intro h; subst h; simp at hn)
  have HR := Lib.hid hR
  have HRg : Hid (∀ wr, Below w.heap.size w wr → ∀ i D, Ds[i]? = some D → wr.rangeAt b (o + i * 32) (arr 32 (b8 D)).toList) := fun wr hb i D hD => rangeAt_below (hrg i D hD) hb hbl
  have a1 : Hid (Row (w.alloc (.cells (arr 32 zb) 31)) w.heap.size 31 32 zb) := Row.ofList w 31 _ _ 32 rfl
  have b1 : Hid (Below w.heap.size w (w.alloc (.cells (arr 32 zb) 31))) := (Below.refl _ _).alloc (Nat.le_refl _) _
  have HBY := Lib.hid hby
  have HN := Lib.hid hn
  rw [hn]
  clear hr hrg hby hn hR
  obtain ⟨i0, hi0, hz0, hz1, hz2⟩ := info_parts Tryz.info5
  go_enter Tryz.func50, Tryz.ntmps50
  go_wp2_with fail
  have o1 : Hid ((w.alloc (.cells (arr 32 zb) 31)).ownsRow (w.heap.size + 1) 5 1 (.slice none 0 0) (0 * 32) (bv (qb (Ds.take 0)))) := World.ownsRow_nil _ _ _ _
  have s1 : w.heap.size + 1 ≤ (w.alloc (.cells (arr 32 zb) 31)).heap.size := by simp
  generalize w.alloc (.cells (arr 32 zb) 31) = W at a1 b1 o1 s1 ⊢
  go_loopw [8, 17] (fun x y wr => ∃ (i : Nat), i ≤ 8 ∧ y = .int .i64 i ∧ Hid (wr.ownsRow (w.heap.size + 1) 5 1 x (i * 32) (bv (qb (Ds.take i)))) ∧ Hid (Row wr w.heap.size 31 32 zb) ∧ Hid (Below w.heap.size w wr) ∧ w.heap.size + 1 ≤ wr.heap.size) (fun _ y _ => 8 - (intOf y).toNat)
  case atStart => exact ⟨0, by omega, rfl, o1, a1, b1, s1⟩
  case round =>
    clear o1 a1 b1 s1
    obtain ⟨i, hi, rfl, ho, ha, hb, hsz⟩ := hrel
    by_cases hlt : i < 8
    · have z0 : (i : Int) < 8 := by omega
      obtain ⟨D, hD⟩ : ∃ D, Ds[i]? = some D := ⟨_, List.getElem?_eq_getElem (by have := HN.out; omega)⟩
      have bD := Lib.hid (HBY.out D (List.mem_of_getElem? hD))
      have ld : ldN 32 wr (.pointer (some ⟨b, o + i * 32, none⟩)) = some (arr 32 (b8 D)) := ldN_of (HRg.out wr hb.out i D hD) (by simp [arr])
      have HQ := Lib.hid (qb_succ Ds i D hD)
      clear hD
      have ho2 : Hid ((wr.alloc (.cells (arr 32 (b8 D)) 31)).ownsRow (w.heap.size + 1) 5 1 u8 (i * 32) (bv (qb (Ds.take i)))) := own_below ho.out ((Below.refl wr.heap.size wr).alloc (Nat.le_refl _) _) (Nat.le_refl _)
      have ha2 := Lib.hid (Row.alloc ha.out (.cells (arr 32 (b8 D)) 31))
      have hb2 : Hid (Below w.heap.size w (wr.alloc (.cells (arr 32 (b8 D)) 31))) := hb.out.alloc hb.out.size _
      have r2 : Hid (Row (wr.alloc (.cells (arr 32 (b8 D)) 31)) wr.heap.size 31 32 (b8 D)) := Row.ofList wr 31 _ _ 32 rfl
      have hnews : Hid (∀ j u, (arr 32 (b8 D)).toList[j]? = some u → (wr.alloc (.cells (arr 32 (b8 D)) 31)).cell? ((⟨wr.heap.size, 0, none⟩ : Addr).add j) = some u) := fun j u hu => by
        rw [Addr.add_mid]
        exact Row.range0 r2.out j u hu
      have hone : Hid (∀ u ∈ (arr 32 (b8 D)).toList, u.oneCell' = true) := fun u hx => by
        simp only [arr, List.mem_map] at hx; obtain ⟨i, _, rfl⟩ := hx; rfl
      have hss : Hid (w.heap.size + 1 ≤ (wr.alloc (.cells (arr 32 (b8 D)) 31)).heap.size) := by
        show _ ≤ _
        simp; omega
      go_wp2_with (at_builtin; refine wpList_append_lies _ rfl _ _ 99 rfl (w.heap.size + 1) 5 i0 _ 1 1 Tryz.underlying99 hi0 hz0 hz1 hz2 (by kernel_rfl) (by omega) _ (i * 32) _ rfl (by exact ho2.out) ⟨wr.heap.size, 0, none⟩ 32 32 (arr 32 (b8 D)).toList rfl (by simp [arr]) (by exact hnews.out) hone.out (by omega) (by simp only [maxLen]; omega) (by omega) (by exact hss.out) (wr.heap.size + 1) (by simp) ?_)
      intro g cap w' hown hgrow hat hlt
      have hbg : Below (w.heap.size + 1) (wr.alloc (.cells (arr 32 (b8 D)) 31)) w' := Below.grown (Below.refl _ _) hgrow hss.out (fun k hk => (ho2.out.lt k hk).1)
      have a3 := Lib.hid (Row.below ha2.out hbg (Nat.lt_succ_self _))
      have B3 : Hid (Below w.heap.size w w') := hb2.out.trans (hbg.mono (Nat.le_succ _))
      have o3 : Hid (w'.ownsRow (w.heap.size + 1) 5 1 (.slice (some ⟨g, 0, none⟩) (i * 32 + 32) cap) ((i + 1) * 32) (bv (qb (Ds.take (i + 1))))) := by
        show World.ownsRow _ _ _ _ _ _ _
        rw [HQ.out, bv_app, ← dl_bv bD.out, show (i + 1) * 32 = i * 32 + 32 by omega]
        exact hown
      have s3 : w.heap.size + 1 ≤ w'.heap.size := Nat.le_trans hss.out hbg.size
      clear hown hgrow hat hlt hbg hnews hone hss ho2 ha2 hb2 r2 ho ha hb ld
      go_wp2_with fail
      exact ⟨⟨i + 1, by omega, by go_num, o3, a3, B3, s3⟩, by simp [intOf]; omega⟩
    · have z0 : ¬ (i : Int) < 8 := by omega
      have h8 : i = 8 := by omega
      subst h8
      rcases ho.out.2 with ⟨rfl, hz⟩ | ⟨g, cap, cur, rfl, hg, hh, h1, h2, h3, h4⟩
      · omega
      have hqt : Ds.take 8 = Ds := List.take_of_length_le (by have := HN.out; omega)
      have hql : (qb Ds).length = 256 := by rw [qb_len, HN.out]
      have cv : (convert 99 9 (.slice (some ⟨g, 0, none⟩) 256 cap)).run Tryz.prog wr = .ok (.string ⟨(qb Ds).toArray⟩) wr := by
        have := run_convert_bytes_back (P := Tryz.prog) wr 99 9 5 ⟨g, 0, none⟩ cap (qb Ds) Tryz.underlying99 Tryz.underlying5 Tryz.underlying9 (fun j hj => by
          rw [Addr.add_mid, Nat.zero_add, cell_of_row _ g j cur 5 (0, 0) hh]
          have e1 : (cur.toList.take (8 * 32 * 1))[j]? = cur.toList[j]? := List.getElem?_take_of_lt (by omega)
          rw [← Array.getElem?_toList, ← e1, h4, hqt]
          unfold bv
          rw [List.getElem?_map, List.getElem?_eq_getElem hj]
          rfl)
        rw [hql] at this
        exact this
      obtain ⟨s, hs0⟩ : ∃ s : ByteArray, s = ⟨(qb Ds).toArray⟩ := ⟨_, rfl⟩
      rw [← hs0] at cv
      have hsz2 : s.size = 256 := by rw [hs0, size_eq]; exact hql
      have hln : ¬ 9223372036854775807 < s.size + nonce.size := by omega
      have HS : Hid (macD key.data.toList (s ++ nonce).data.toList = M) := by
        show macD key.data.toList (s ++ nonce).data.toList = M
        rw [← HM.out]
        unfold quoD
        have : (s ++ nonce).data.toList = s.data.toList ++ nonce.data.toList := by simp
        rw [this, hs0]
      have hs2 : (s ++ nonce).size ≤ 1073741760 := by rw [ByteArray.size_append]; omega
      clear hs0 h4 hh hqt ho
      go_wp2_with fail
      refine (mac_is key (s ++ nonce) wr M HS (by omega) hs2 (HR.out.below hb.out h0) (by omega)).mono ?_
      rintro e w1 ⟨rfl, hb1⟩
      have a2 := Lib.hid (Row.below ha.out hb1 ha.out.lt)
      have B2 := Lib.hid (bss hb.out hb1)
      have hst : stN 32 w1 (.pointer (some ⟨w.heap.size, 0, none⟩)) (.agg (arr 32 (b8 M))) = some (w.heap.size, 0, arr 32 (b8 M)) := stN_of (by simp [arr]) (Row.there a2.out) (all_one _ _ (fun _ => rfl))
      have hrow := Lib.hid (Row.setWhole (u := b8 M) a2.out)
      have B3 : Hid (Below w.heap.size w (w1.setCells w.heap.size 0 (arr 32 (b8 M)).toList)) := Below.setAll (Nat.le_refl _) _ _ _ B2.out
      clear hb1
      go_wp2_with fail
      exact bodyPost_ret (v := .tuple #[.agg (arr 32 (b8 M)), .int .i64 0]) (res2 rfl _ _ w.heap.size (arr 32 (b8 M)) (.int .i64 0) rfl rfl (run_loadVar_row _ _ 31 31 _ (0, 0) _ hrow.out.arr Tryz.underlying31 rfl (by kernel_rfl))) rfl ⟨rfl, B3.out⟩
def vq (key : ByteArray) (es : List Ev) (nonce : ByteArray) (D : Nat → Int) : Bool := es.all okE && (dl (quoD key (rgl (regs es)) nonce) == dl D)
set_option maxRecDepth 100000 in
set_option maxHeartbeats 2000000 in
theorem verify_any (key nonce : ByteArray) (v : Value) (es : List Ev) (D : Nat → Int) (w : World) (h : RdE w v es) (hby : ∀ e ∈ es, Byt e.d) (hl : es.length ≤ 1000) (hD : Byt D) (hk : key.size ≤ 1000) (hs : nonce.size ≤ 1000) (hR : Rnd w) (h0 : 0 < w.heap.size) : Calls Tryz.prog 51 #[.string key, v, .string nonce, .agg (arr 32 (b8 D))] w fun e w' => e = .returned (.bool (vq key es nonce D)) ∧ Below w.heap.size w w' := by
  have HRd := Lib.hid (h.below ((Below.refl w.heap.size w).alloc (Nat.le_refl _) (.cells (arr 32 (b8 D)) 31)) (Nat.le_refl _))
  have HBY := Lib.hid hby
  have bD := Lib.hid hD
  have HR := Lib.hid hR
  have a1 : Hid (Row (w.alloc (.cells (arr 32 (b8 D)) 31)) w.heap.size 31 32 (b8 D)) := Row.ofList w 31 _ _ 32 rfl
  have b1 : Hid (Below w.heap.size w (w.alloc (.cells (arr 32 (b8 D)) 31))) := (Below.refl _ _).alloc (Nat.le_refl _) _
  clear h hby hD hR
  go_enter Tryz.func51, Tryz.ntmps51
  go_wp2_with fail
  generalize w.alloc (.cells (arr 32 (b8 D)) 31) = W at HRd a1 b1 ⊢
  refine (replay_any v es _ (by exact HRd.out) hl HBY.out (by exact HR.out.below b1.out h0) (by have := b1.out.size; omega)).mono ?_
  rintro e w1 hrep
  rcases hrep with ⟨hok, g, rfl, hg, hG, hb⟩ | ⟨hok, rfl, hb⟩
  · obtain ⟨M, hM⟩ : ∃ M : Nat → Int, quoD key (rgl (regs es)) nonce = M := ⟨_, rfl⟩
    have HQ : Hid (∀ V, RG V g (regs es) → Rnd V → 0 < V.heap.size → Calls Tryz.prog 50 #[.string key, .slice (some ⟨g, 0, none⟩) 8 8, .string nonce] V fun e w' => e = .returned (.tuple #[.agg (arr 32 (b8 M)), .int .i64 0]) ∧ Below V.heap.size V w') := fun V h h1 h2 => by
      rw [← hM]; exact quote_yes key nonce _ (rgl (regs es)) V h.rd (fun D hD => by obtain ⟨i, _, rfl⟩ := List.mem_map.1 hD; exact regs_byt _ _) (by simp [rgl]) hk hs h1 h2
    have bM : Hid (Byt M) := by rw [← hM]; exact sumD_byt _
    have HV : Hid (vq key es nonce D = (dl M == dl D)) := by
      show vq key es nonce D = _
      unfold vq
      rw [hok, hM]; rfl
    have a2 := Lib.hid (Row.below a1.out hb a1.out.lt)
    have B2 := Lib.hid (bss b1.out hb)
    have G2 := Lib.hid hG
    clear hM hb hG hok
    go_wp2_with fail
    refine (HQ.out w1 G2.out (HR.out.below B2.out h0) (by have := B2.out.size; omega)).mono ?_
    rintro e w2 ⟨rfl, hb2⟩
    have B3 := Lib.hid ((bss B2.out hb2).alloc (bss B2.out hb2).size (.cells (arr 32 (b8 M)) 31))
    have a3 := Lib.hid (Row.alloc (Row.below a2.out hb2 a2.out.lt) (.cells (arr 32 (b8 M)) 31))
    have r3 : Hid (Row (w2.alloc (.cells (arr 32 (b8 M)) 31)) w2.heap.size 31 32 (b8 M)) := Row.ofList w2 31 _ _ 32 rfl
    clear hb2
    have lA : ldN 32 (w2.alloc (.cells (arr 32 (b8 M)) 31)) (.pointer (some ⟨w2.heap.size, 0, none⟩)) = some (arr 32 (b8 M)) := ldN_of (Row.range0 r3.out) (by simp [arr])
    have lB : ldN 32 (w2.alloc (.cells (arr 32 (b8 M)) 31)) (.pointer (some ⟨w.heap.size, 0, none⟩)) = some (arr 32 (b8 D)) := ldN_of (Row.range0 a3.out) (by simp [arr])
    have heq : ∀ X, (binOp .eql 31 (.agg (arr 32 (b8 M))) (.agg (arr 32 (b8 D)))).run Tryz.prog X = .ok (.bool (dl M == dl D)) X := fun X => eqD bM.out bD.out X
    obtain ⟨t, ht⟩ : ∃ t : Bool, (dl M == dl D) = t := ⟨_, rfl⟩
    rw [ht] at heq HV
    clear ht
    go_wp2_with fail
    go_ret
    exact ⟨by rw [HV.out]; rfl, B3.out⟩
  · have HV : Hid (vq key es nonce D = false) := by
      show vq key es nonce D = _
      unfold vq
      rw [hok]; rfl
    have B2 := Lib.hid (bss b1.out hb)
    clear hb hok
    go_wp2_with fail
    go_ret
    exact ⟨by rw [HV.out]; rfl, B2.out⟩
end Go.Proofs.YtdinbpdpalgohaaGreatDoor.Ms
