/- The log: Measure. Condition: digests of bytes; sizes. -/
import Derived.Test.YtndbbbkdpjkljaaDoorF
import Derived.Deep.RegionHeld3
import Derived.Deep.RegionLaw
import Derived.Deep.AppendLies
import Derived.Deep.DrawnRows
namespace Go.Proofs.YtndbbbkdpjkljaaDoor
open Go.RowKit
attribute [local go_sem ↓] Go.wp_at_zero Go.wp_at_succ

/-- An event: its register, its digest, its text. -/
structure Ev where
  r : Int
  d : Nat → Int
  t : ByteArray
def evc (e : Ev) : List Value := .int .i64 e.r :: ((arr 32 (b8 e.d)).toList ++ [.string e.t])
theorem evc_len (e : Ev) : (evc e).length = 34 := by simp [evc, arr]
def evs (es : List Ev) : List Value := es.flatMap evc
theorem evs_len (es : List Ev) : (evs es).length = es.length * 34 := by
  induction es with
  | nil => rfl
  | cons e r ih => simp only [evs, List.flatMap_cons, List.length_append, evc_len, List.length_cons] at ih ⊢; omega
theorem evs_snoc (es : List Ev) (e : Ev) : evs (es ++ [e]) = evs es ++ evc e := by simp [evs]
/-- What a measurement does to the registers. -/
def reg1 (G : Nat → Nat → Int) (e : Ev) : Nat → Nat → Int := fun r => if (r : Int) = e.r then sumD (dl (G r) ++ dl e.d) else G r
def regs (es : List Ev) : Nat → Nat → Int := es.foldl reg1 fun _ _ => 0
theorem regs_snoc (es : List Ev) (e : Ev) : regs (es ++ [e]) = reg1 (regs es) e := by simp [regs]
theorem reg1_byt {G : Nat → Nat → Int} (h : ∀ r, Byt (G r)) (e : Ev) (r : Nat) : Byt (reg1 G e r) := by
  unfold reg1; split
  · exact sumD_byt _
  · exact h r
theorem foldl_byt (es : List Ev) : ∀ G : Nat → Nat → Int, (∀ r, Byt (G r)) → ∀ r, Byt (es.foldl reg1 G r) := by
  induction es with
  | nil => exact fun G h => h
  | cons e t ih => exact fun G h => ih _ (reg1_byt h e)
theorem regs_byt (es : List Ev) (r : Nat) : Byt (regs es r) := foldl_byt es _ (fun _ _ => ⟨Int.le_refl _, by decide⟩) r
/-- Block B is a log of these events, all of it from block base on. -/
def LOG (w : World) (base B : Nat) (es : List Ev) : Prop := base ≤ B ∧ ∃ v, LG w B (regs es) v ∧ w.ownsRow base 45 34 v es.length (evs es)

theorem own_ne {w : World} {base e n B t N size : Nat} {v : Value} {xs : List Value} {f : Nat → Value} (h : w.ownsRow base e size v n xs) (hr : Row w B t N f) (hne : e ≠ t) : v.ownBlock ≠ some B := by
  intro he
  rcases h.2 with ⟨rfl, _⟩ | ⟨g, cap, cur, rfl, _, hh, _⟩
  · cases he
  · have : g = B := by simpa [Value.ownBlock] using he
    subst this
    obtain ⟨cs, hc, _⟩ := hr
    rw [hh] at hc
    injection hc with hc
    injection hc with _ h2
    exact hne h2
theorem own_len {w : World} {base e n size : Nat} {v : Value} {xs : List Value} (h : w.ownsRow base e size v n xs) : ∃ a c, v = .slice a n c := by
  rcases h.2 with ⟨rfl, rfl⟩ | ⟨g, cap, cur, rfl, _⟩
  · exact ⟨_, _, rfl⟩
  · exact ⟨_, _, rfl⟩

def bldV (x y z : Value) : Option (List Value) := match x, y, z with
  | .int k r, .agg cs, .string t => if cs.size = 32 then some (.int k r :: (cs.toList ++ [.string t])) else none
  | _, _, _ => none
theorem arr_of {cs : Array Value} {n : Nat} (h : cs.size = n) : cs = arr n (fun i => cs.getD i undef) := by
  apply Array.ext
  · simp [arr, h]
  · intro i h1 h2; simp [arr, h1]
theorem build45a (k : IntKind) (r : Int) (f : Nat → Value) (t : ByteArray) (w : World) : Sem.run Tryd.prog (Instr.build 45 #[(0, .int k r), (1, .agg (arr 32 f)), (2, .string t)]) w = .ok (.agg (.int k r :: ((arr 32 f).toList ++ [.string t])).toArray) w := by kernel_rfl
theorem slice46a (f : Nat → Value) (w : World) : Sem.run Tryd.prog (Instr.buildSlice 46 1 #[(0, .agg (arr 34 f))]) w = .ok (.slice (some ⟨w.heap.size, 0, none⟩) 1 1) (w.alloc (.cells (arr 34 f) 45)) := by kernel_rfl
theorem build45 (ρ : Operand → Value) (d : Option Tmp) (x y z : Operand) (ty : TypeId) (p : String) (af : Array Edge) (g : Option (Nat × Bool)) (w : World) :
    Sem.run Tryd.prog (execOp ρ { dst := d, op := .build 45 #[(0, x), (1, y), (2, z)], type := ty, pos := p, after := af, guard := g }) w =
      match bldV (ρ x) (ρ y) (ρ z) with
      | some cs => .ok (.value (.agg cs.toArray)) w
      | none => Sem.run Tryd.prog (Instr.build 45 #[(0, ρ x), (1, ρ y), (2, ρ z)] >>= fun v => pure (Next.value v)) w := by
  have e : execOp ρ { dst := d, op := .build 45 #[(0, x), (1, y), (2, z)], type := ty, pos := p, after := af, guard := g } = Instr.build 45 #[(0, ρ x), (1, ρ y), (2, ρ z)] >>= fun v => pure (Next.value v) := by simp [execOp]
  rw [e]
  clear e
  generalize ρ x = X, ρ y = Y, ρ z = Z
  unfold bldV
  split
  · next h =>
    split at h
    · split at h
      · next k r cs t hs =>
        injection h with h
        subst h
        rw [arr_of hs, Sem.run_bind, build45a]
        rfl
      · cases h
    · cases h
  · rfl
def slcV (x : Value) : Option (Array Value) := match x with
  | .agg cs => if cs.size = 34 then some cs else none
  | _ => none
theorem slice46 (ρ : Operand → Value) (d : Option Tmp) (x : Operand) (ty : TypeId) (p : String) (af : Array Edge) (g : Option (Nat × Bool)) (w : World) :
    Sem.run Tryd.prog (execOp ρ { dst := d, op := .buildSlice 46 1 #[(0, x)], type := ty, pos := p, after := af, guard := g }) w =
      match slcV (ρ x) with
      | some cs => .ok (.value (.slice (some ⟨w.heap.size, 0, none⟩) 1 1)) (w.alloc (.cells cs 45))
      | none => Sem.run Tryd.prog (Instr.buildSlice 46 1 #[(0, ρ x)] >>= fun v => pure (Next.value v)) w := by
  have e : execOp ρ { dst := d, op := .buildSlice 46 1 #[(0, x)], type := ty, pos := p, after := af, guard := g } = Instr.buildSlice 46 1 #[(0, ρ x)] >>= fun v => pure (Next.value v) := by simp [execOp]
  rw [e]
  clear e
  generalize ρ x = X
  unfold slcV
  split
  · next h =>
    split at h
    · split at h
      · next cs hs =>
        injection h with h
        subst h
        rw [arr_of hs, Sem.run_bind, slice46a]
        rfl
      · cases h
    · cases h
  · rfl
theorem Tryd.info45 : (Tryd.prog.info? 45).map (fun i => (i.zero, i.size, i.bytes)) = some (some (.agg (.int .i64 0 :: ((arr 32 zb).toList ++ [.string ⟨#[]⟩])).toArray), 34, 56) := by kernel_rfl
open Classical in
/-- The digest that a pointer points to. -/
noncomputable def ldV (w : World) (v : Value) : Option (Array Value) := match v with
  | .pointer (some ⟨b, o, none⟩) => if ∃ cs : Array Value, cs.size = 32 ∧ w.rangeAt b o cs.toList then some (arr 32 fun j => (w.cell? ⟨b, o + j, none⟩).getD undef) else none
  | _ => none
theorem ldV_of {w : World} {b o : Nat} {cs : Array Value} (h : w.rangeAt b o cs.toList) (hs : cs.size = 32) : ldV w (.pointer (some ⟨b, o, none⟩)) = some cs := by
  have h1 : ∃ cs : Array Value, cs.size = 32 ∧ w.rangeAt b o cs.toList := ⟨cs, hs, h⟩
  simp only [ldV]
  rw [if_pos h1]
  congr 1
  apply Array.ext
  · simp [arr, hs]
  · intro i h1 h2
    have := h i cs[i] (by simp [h2])
    simp [arr, this]
theorem load26 (ρ : Operand → Value) (d : Option Tmp) (x : Operand) (ty : TypeId) (p : String) (af : Array Edge) (g : Option (Nat × Bool)) (w : World) :
    Sem.run Tryd.prog (execOp ρ { dst := d, op := .load 26 x, type := ty, pos := p, after := af, guard := g }) w =
      match ldV w (ρ x) with
      | some cs => .ok (.value (.agg cs)) w
      | none => Sem.run Tryd.prog (Instr.loadAt 26 (ρ x) >>= fun v => pure (Next.value v)) w := by
  show Sem.run Tryd.prog (Instr.loadAt 26 (ρ x) >>= fun v => pure (Next.value v)) w = _
  generalize ρ x = X
  split
  · next cs h =>
    have h' := h
    unfold ldV at h'
    split at h'
    · split at h'
      · next b o hc =>
        obtain ⟨cs2, hs, hr⟩ := hc
        rw [ldV_of hr hs] at h
        injection h with h
        subst h
        rw [Sem.run_bind, run_loadAt_mid w b o 26 cs2.toList _ hr Tryd.underlying26 rfl (by rw [Array.length_toList, hs]; kernel_rfl)]
        simp [Result.andThen]
      · cases h'
    · cases h'
  · rfl
open Classical in
/-- Where a digest is stored to, and its cells. -/
noncomputable def stV (w : World) (x y : Value) : Option (Nat × Nat × Array Value) := match x, y with
  | .pointer (some ⟨b, o, none⟩), .agg cs => if cs.size = 32 ∧ w.there b o 32 ∧ cs.all (·.oneCell') = true then some (b, o, cs) else none
  | _, _ => none
theorem stV_of {w : World} {b o : Nat} {cs : Array Value} (hs : cs.size = 32) (ht : w.there b o 32) (h1 : cs.all (·.oneCell') = true) : stV w (.pointer (some ⟨b, o, none⟩)) (.agg cs) = some (b, o, cs) := if_pos ⟨hs, ht, h1⟩
theorem store26 (ρ : Operand → Value) (d : Option Tmp) (x y : Operand) (ty : TypeId) (p : String) (af : Array Edge) (g : Option (Nat × Bool)) (w : World) :
    Sem.run Tryd.prog (execOp ρ { dst := d, op := .store 26 x y, type := ty, pos := p, after := af, guard := g }) w =
      match stV w (ρ x) (ρ y) with
      | some (b, o, cs) => .ok .skip (w.setCells b o cs.toList)
      | none => Sem.run Tryd.prog (Instr.storeAt 26 (ρ x) (ρ y) >>= fun _ => pure Next.skip) w := by
  show Sem.run Tryd.prog (Instr.storeAt 26 (ρ x) (ρ y) >>= fun _ => pure Next.skip) w = _
  generalize ρ x = X, ρ y = Y
  split
  · next b o cs h =>
    unfold stV at h
    split at h
    · split at h
      · next b' o' cs' hc =>
        injection h with h
        injection h with h1 h2
        injection h2 with h2 h3
        subst h1 h2 h3
        rw [Sem.run_bind, run_storeAt_mid w _ _ 26 _ (by rw [hc.1]; exact hc.2.1) (by rw [hc.1]; kernel_rfl) hc.2.2]
        rfl
      · cases h
    · cases h
  · rfl
attribute [local go_sem ↓] build45 slice46 load26 store26
attribute [local go_sem] bldV slcV
theorem LG.ev {w : World} {B : Nat} {G : Nat → Nat → Int} {v : Value} (h : LG w B G v) (u : Value) : LG (w.setCell ⟨B, 256, none⟩ u) B G u := by
  refine Row.congr (Row.set h (i := 256) (by omega) u) fun i hi => ?_
  by_cases e : i = 256
  · subst e; rw [upd_hit, lgv_ev]
  · rw [upd_miss _ _ e]; unfold lgv; rw [if_pos (by omega), if_pos (by omega)]
theorem LG.reg {w : World} {B : Nat} {G : Nat → Nat → Int} {v : Value} (h : LG w B G v) (r : Nat) (hr : r < 8) (N : Nat → Int) : LG (w.setCells B (r * 32) (arr 32 (b8 N)).toList) B (fun q => if q = r then N else G q) v := by
  have hl : (arr 32 (b8 N)).toList.length = 32 := by simp [arr]
  refine Row.congr (Row.setAll _ (r * 32) w _ h (by omega)) fun i hi => ?_
  rw [hl]
  by_cases e : r * 32 ≤ i ∧ i < r * 32 + 32
  · rw [if_pos e]
    have e2 : i - r * 32 < 32 := by omega
    simp only [lgv, if_pos (show i < 256 by omega), show i / 32 = r by omega, if_pos, show i % 32 = i - r * 32 by omega]
    simp [arr, e2, b8]
  · rw [if_neg e]
    unfold lgv
    by_cases h2 : i < 256
    · rw [if_pos h2, if_pos h2]; show _ = Value.int .u8 ((if i / 32 = r then N else G (i / 32)) (i % 32)); rw [if_neg (by omega)]
    · rw [if_neg h2, if_neg h2]
theorem LG.there {w : World} {B : Nat} {G : Nat → Nat → Int} {v : Value} (h : LG w B G v) (r : Nat) (hr : r < 8) : w.there B (r * 32) 32 := fun j hj => ⟨by rw [Row.cell h (by omega)]; rfl, Row.frozen h _⟩
theorem arr_one (N : Nat → Int) : (arr 32 (b8 N)).all (·.oneCell') = true := by kernel_rfl
theorem own_set {w : World} {base e n B t N size : Nat} {v : Value} {xs : List Value} {f : Nat → Value} (h : w.ownsRow base e size v n xs) (hr : Row w B t N f) (hne : e ≠ t) (w' : World) (k : Ch (fun b => b = B) w w') : w'.ownsRow base e size v n xs := by
  have h1 := own_ne h hr hne
  exact h.kept (row := some B) ⟨k.os, k.tape, k.output, k.size, fun j hj hjn => k.block j hj (fun e => hjn (by rw [e]))⟩ (.inr h1)
theorem Ch.setAll {C : Nat → Prop} {a : World} {B : Nat} (hC : C B) : ∀ (vs : List Value) (o : Nat) (w : World), Ch C a w → Ch C a (w.setCells B o vs)
  | [], _, _, h => h
  | u :: r, o, _, h => Ch.setAll hC r (o + 1) _ (h.setCell (p := ⟨B, o, none⟩) (fun _ => hC) u)
theorem own_below {w w' : World} {base e n size B0 : Nat} {v : Value} {xs : List Value} (h : w.ownsRow base e size v n xs) (hb : Below B0 w w') (hB : w.heap.size ≤ B0) : w'.ownsRow base e size v n xs :=
  h.kept (row := none) ⟨hb.os, hb.tape, hb.output, hb.size, fun k hk _ => hb.block k (by omega)⟩ (by cases v.ownBlock <;> simp)
set_option maxRecDepth 100000 in
set_option maxHeartbeats 3200000 in
theorem measure_ok (base B r : Nat) (es : List Ev) (t s : ByteArray) (w : World) (hr : r < 8) (ht : t.size ≤ 64) (hes : es.length < 256) (hs : s.size ≤ 1073741824) (hR : Rnd w) (h0 : 0 < base) (h : LOG w base B es) :
    Calls Tryd.prog 24 #[.pointer (some ⟨B, 0, none⟩), .int .i64 (r : Int), .string t, .string s] w fun e w' => e = .returned (.int .i64 0) ∧ LOG w' base B (es ++ [⟨r, sumD s.data.toList, t⟩]) ∧ Below base w w' := by
  obtain ⟨hbB, v, hL, hO⟩ := h
  obtain ⟨va, vc, rfl⟩ := own_len hO
  have hBl := hL.lt
  have h00 : 0 < w.heap.size := by omega
  have c256 : w.cell? ⟨B, 256, none⟩ = some (.slice va es.length vc) := Row.cell hL (i := 256) (by omega)
  have hlen : (es.length : Int) < 256 := by omega
  have d1 : decide ((t.size : Int) > 64) = false := by simp; omega
  have d2 : decide ((es.length : Int) ≥ 256) = false := by simp; omega
  have HL := Lib.hid hL
  have HO := Lib.hid hO
  have HR := Lib.hid hR
  clear hL hO hR
  go_enter Tryd.func24, Tryd.ntmps24
  go_wp2_with (first | (go_at_call 39; refine (isreg_yes r _ hr).mono ?_; rintro e w1 ⟨rfl, rfl⟩) | (go_at_call 15; refine (sum_any s _ hs HR.out (by omega)).mono ?_; rintro e w1 ⟨rfl, hb⟩; have HB := Lib.hid hb; clear hb) | (rw [zz32]; refine wpList_store_mid rfl 26 _ _ rfl w1.heap.size 0 (arr 32 (b8 (sumD s.data.toList))) rfl rfl (by exact (Row.ofList w1 26 (arr 32 zb) zb 32 rfl).there) (by kernel_rfl) (by kernel_rfl) ?_))
  have hbs := HB.out.size
  have DR : Row ((w1.alloc (.cells (arr 32 zb) 26)).setCells w1.heap.size 0 (arr 32 (b8 (sumD s.data.toList))).toList) w1.heap.size 26 32 (b8 (sumD s.data.toList)) := Row.setWhole (Row.ofList w1 26 (arr 32 zb) zb 32 rfl)
  have hBW : Below w.heap.size w ((w1.alloc (.cells (arr 32 zb) 26)).setCells w1.heap.size 0 (arr 32 (b8 (sumD s.data.toList))).toList) := Below.setAll (by omega) _ _ _ (HB.out.alloc (by omega) _)
  have hsz : w1.heap.size < ((w1.alloc (.cells (arr 32 zb) 26)).setCells w1.heap.size 0 (arr 32 (b8 (sumD s.data.toList))).toList).heap.size := DR.lt
  generalize (w1.alloc (.cells (arr 32 zb) 26)).setCells w1.heap.size 0 (arr 32 (b8 (sumD s.data.toList))).toList = W at DR hBW hsz ⊢
  generalize hT : w1.heap.size = T at DR hsz hbs ⊢
  clear hT HB w1
  have hBlt := HL.out.lt
  have L2 : LG W B (regs es) (.slice va es.length vc) := HL.out.below hBW hBlt
  have O2 : W.ownsRow base 45 34 (.slice va es.length vc) es.length (evs es) := HO.out.kept (row := none) ⟨hBW.os, hBW.tape, hBW.output, hBW.size, fun k hk _ => hBW.block k hk⟩ (by cases hv : (Value.slice va es.length vc).ownBlock <;> simp)
  generalize hD : sumD s.data.toList = D at DR ⊢
  have hcs : (arr 32 (b8 D)).toList.length = 32 := by simp [arr]
  have hc1 : ∀ u ∈ (arr 32 (b8 D)).toList, u.oneCell' = true := fun u hu => by
    simp only [arr, List.mem_map] at hu; obtain ⟨i, _, rfl⟩ := hu; rfl
  obtain ⟨cs, hcsd⟩ : ∃ cs, cs = (arr 32 (b8 D)).toList := ⟨_, rfl⟩
  have rT : W.rangeAt T 0 cs := by
    intro j u hu
    rw [hcsd] at hu
    have hj : j < 32 := by have := (List.getElem?_eq_some_iff.1 hu).1; rw [hcs] at this; exact this
    have : u = b8 D j := by simpa [arr, hj] using hu.symm
    rw [this, Nat.zero_add, Row.cell DR hj]
  rw [← hcsd] at hcs hc1
  have hu26 := Tryd.underlying26
  have hi26 : (Tryd.prog.info? 26).map (·.size) = some cs.length := by rw [hcs]; kernel_rfl
  have e256 : W.cell? ⟨B, 256, none⟩ = some (.slice va es.length vc) := Row.cell L2 (i := 256) (by omega)
  have f256 : W.frozen? ⟨B, 256, none⟩ = false := Row.frozen L2 256
  have hne : (Value.slice va es.length vc).ownBlock ≠ some B := own_ne O2 L2 (by decide)
  have hneT : (Value.slice va es.length vc).ownBlock ≠ some T := own_ne O2 DR (by decide)
  have HO2 := Lib.hid O2
  have HL2 := Lib.hid L2
  have HDR := Lib.hid DR
  have HBW := Lib.hid hBW
  have HD := Lib.hid hD
  have Hcsd := Lib.hid hcsd
  have lB : B < W.heap.size := L2.lt
  clear O2 L2 DR hBW hD hcsd c256 HO HL
  obtain ⟨i0, hi0, hz0, hz1, hz2⟩ := info_parts Tryd.info45
  have hnews : ∀ (W' : World) (X : Nat), W'.heap[X]? = some (.cells (.int .i64 (r : Int) :: (cs ++ [.string t])).toArray 45) → ∀ j u, (Value.int .i64 (r : Int) :: (cs ++ [.string t]))[j]? = some u → W'.cell? ((⟨X, 0, none⟩ : Addr).add j) = some u := fun W' X h j u hu => World.news_of_block h j u (by simpa using hu)
  have hone : ∀ u ∈ (Value.int .i64 (r : Int) :: (cs ++ [.string t])), u.oneCell' = true := fun u hu => by
    rcases List.mem_cons.1 hu with rfl | hu
    · rfl
    rcases List.mem_append.1 hu with hu | hu
    · exact hc1 u hu
    · rw [List.mem_singleton.1 hu]; rfl
  have hnl : (Value.int .i64 (r : Int) :: (cs ++ [.string t])).length = 1 * 34 := by simp [hcs]
  have Hone := Lib.hid hone
  have Hnews := Lib.hid hnews
  have Hnl := Lib.hid hnl
  clear hone hnews hnl
  have hl0 : ldV W.drew (.pointer (some ⟨T, 0, none⟩)) = some cs.toArray := ldV_of (by simpa using rT) (by simpa using hcs)
  have hl1 : ∀ o, ldV (W.alloc o).drew (.pointer (some ⟨T, 0, none⟩)) = some cs.toArray := fun o => ldV_of (by simpa using World.rangeAt_alloc rT o) (by simpa using hcs)
  have hBn : ¬ B = W.heap.size := by omega
  have hgc : ∀ o w2, (W.alloc o).drew.grownBy w2 (Value.slice va es.length vc).ownBlock → w2.cell? ⟨B, 256, none⟩ = some (.slice va es.length vc) := fun o w2 hg => by
    have h1 := (HL2.out.alloc o).drew
    rw [World.cell?_of_block (w := (W.alloc o).drew) (hg.block B h1.lt (fun h => hne h.symm)), Row.cell h1 (i := 256) (by omega)]
    rw [lgv_ev]
  have hgf : ∀ o w2, (W.alloc o).drew.grownBy w2 (Value.slice va es.length vc).ownBlock → w2.frozen? ⟨B, 256, none⟩ = false := fun o w2 hg => by
    have h1 := (HL2.out.alloc o).drew
    rw [World.frozen?_of_block (w := (W.alloc o).drew) (hg.block B h1.lt (fun h => hne h.symm))]
    exact Row.frozen h1 256
  have HGC := Lib.hid hgc
  have HGF := Lib.hid hgf
  clear hgc hgf
  go_region_law
    ((refine step_append_lies _ (by rfl) _ _ _ (by rfl) base 45 i0 _ 34 56 Tryd.underlying46 hi0 hz0 hz1 hz2 (by kernel_rfl) (by omega) (.slice va es.length vc) es.length (evs es) (by rfl) ((HO2.out.alloc _).drew)
        ⟨W.heap.size, 0, none⟩ 1 1 (.int .i64 (r : Int) :: (cs ++ [.string t])) (by rfl) Hnl.out (Hnews.out _ _ (heap_alloc_new W _)) Hone.out (by omega) (by simp only [maxLen]; omega) (by omega) (by simp; omega) (W.heap.size + 1) (by simp) ?_; intro g cap w2 hown2 hgrow hat hlt; have hc2 := HGC.out _ _ hgrow; have hf2 := HGF.out _ _ hgrow))
  all_goals
    have L3 : LG w2 B (regs es) (.slice va es.length vc) := Row.ch (w := (W.alloc (.cells (.int .i64 (r : Int) :: (cs ++ [.string t])).toArray 45)).drew) (HL2.out.alloc _).drew (Ch.of_grown (C := fun b => (Value.slice va es.length vc).ownBlock = some b) hgrow (fun k hk _ => hk)) hne
    have D3 : Row w2 T 26 32 (b8 D) := Row.ch (w := (W.alloc (.cells (.int .i64 (r : Int) :: (cs ++ [.string t])).toArray 45)).drew) (HDR.out.alloc _).drew (Ch.of_grown (C := fun b => (Value.slice va es.length vc).ownBlock = some b) hgrow (fun k hk _ => hk)) hneT
    have B3 : Below base w w2 := Below.grown (((HBW.out.mono (by omega)).alloc (by omega) _).drew) hgrow (by simp; omega) (fun k hk => (HO2.out.lt k hk).1)
    have L4 := L3.ev (.slice (some ⟨g, 0, none⟩) (es.length + 1) cap)
    have D4 : Row (w2.setCell ⟨B, 256, none⟩ (.slice (some ⟨g, 0, none⟩) (es.length + 1) cap)) T 26 32 (b8 D) := Row.far D3 (by show T ≠ B; omega) _
    have O4 := own_set hown2 L3 (by decide) (w2.setCell ⟨B, 256, none⟩ (.slice (some ⟨g, 0, none⟩) (es.length + 1) cap)) ((Ch.refl (fun b => b = B) w2).setCell (p := ⟨B, 256, none⟩) (fun _ => rfl) _)
    have B4 : Below base w (w2.setCell ⟨B, 256, none⟩ (.slice (some ⟨g, 0, none⟩) (es.length + 1) cap)) := B3.setCell (p := ⟨B, 256, none⟩) hbB _
    clear L3 D3 B3 hc2 hf2 hgrow hat hlt hown2 hl0 hl1 e256 f256 rT
    generalize w2.setCell ⟨B, 256, none⟩ (.slice (some ⟨g, 0, none⟩) (es.length + 1) cap) = X at L4 D4 O4 B4 ⊢
    have R4 : Hid (Rnd X.drew) := HR.out.below B4.drew h0
    have hX0 : 0 < X.drew.heap.size := by have := L4.drew.lt; omega
    have rT4 : X.drew.rangeAt T 0 cs := by
      intro j u hu
      rw [Hcsd.out] at hu
      have hj : j < 32 := by have := (List.getElem?_eq_some_iff.1 hu).1; simpa [arr] using this
      have : u = b8 D j := by simpa [arr, hj] using hu.symm
      rw [this, Nat.zero_add, Row.cell D4.drew hj]
    have hl2 : ldV X.drew (.pointer (some ⟨T, 0, none⟩)) = some (arr 32 (b8 D)) := ldV_of (by rw [← Hcsd.out]; exact rT4) (by simp [arr])
    have hl3 : ldV X.drew (.pointer (some ⟨B, r * 32, none⟩)) = some (arr 32 (b8 (regs es r))) := ldV_of (LG.range (L4.drew) hr) (by simp [arr])
    have r8 : (r : Int) < 8 := by omega
    have HL4 := Lib.hid L4
    have HO4 := Lib.hid O4
    have HB4 := Lib.hid B4
    have hDB : Hid (Byt D) := by rw [← HD.out]; exact sumD_byt _
    clear L4 D4 O4 B4 rT4 hu26 hi26 HO2 HL2 HDR HBW Hone Hnews Hnl HGC HGF hne hneT hi0 hz0 hz1 hz2 hc1 hcs
    go_wp2_with fail
    go_region_law (first | (go_simp; go_at_call 40; refine (extend_any (regs es r) D _ (regs_byt _ _) hDB.out (by exact R4.out) hX0).mono ?_; rintro e w3 ⟨rfl, hb3⟩; have hst3 := stV_of (w := w3) (b := B) (o := r * 32) (cs := arr 32 (b8 (sumD (dl (regs es r) ++ dl D)))) (by simp [arr]) (LG.there (HL4.out.drew.below hb3 HL4.out.lt) r hr) (arr_one _)))
    all_goals
      have B5 : Below base w (w3.setCells B (r * 32) (arr 32 (b8 (sumD (dl (regs es r) ++ dl D)))).toList) := Below.setAll hbB _ _ _ (HB4.out.drew.trans (hb3.mono (by have := HL4.out.lt; show base ≤ X.heap.size; omega)))
      have L5 := LG.reg (HL4.out.drew.below hb3 HL4.out.lt) r hr (sumD (dl (regs es r) ++ dl D))
      have O5 := own_set (own_below (w := X.drew) HO4.out.drew hb3 (Nat.le_refl _)) (HL4.out.drew.below hb3 HL4.out.lt) (by decide) (w3.setCells B (r * 32) (arr 32 (b8 (sumD (dl (regs es r) ++ dl D)))).toList) (Ch.setAll (C := fun b => b = B) rfl _ _ _ (Ch.refl _ _))
      have hfin : Hid (LOG (w3.setCells B (r * 32) (arr 32 (b8 (sumD (dl (regs es r) ++ dl D)))).toList) base B (es ++ [⟨r, sumD s.data.toList, t⟩])) := by
        refine ⟨hbB, .slice (some ⟨g, 0, none⟩) (es.length + 1) cap, ?_, ?_⟩
        · rw [regs_snoc]
          have e : reg1 (regs es) ⟨r, sumD s.data.toList, t⟩ = fun q => if q = r then sumD (dl (regs es r) ++ dl D) else regs es q := by
            funext q
            unfold reg1
            by_cases hq : q = r
            · subst hq; rw [if_pos rfl, if_pos rfl, HD.out]
            · rw [if_neg (by show ¬ (q : Int) = (r : Int); omega), if_neg hq]
          rw [e]
          exact L5
        · rw [evs_snoc, List.length_append]
          rw [Hcsd.out] at O5
          have e : evc ⟨r, sumD s.data.toList, t⟩ = Value.int .i64 (r : Int) :: ((arr 32 (b8 D)).toList ++ [.string t]) := by rw [← HD.out]; rfl
          rw [e]
          exact O5
      clear L5 O5 hb3 hst3 hl2 hl3
      have HB5 := Lib.hid B5
      clear B5
      generalize w3.setCells B (r * 32) (arr 32 (b8 (sumD (dl (regs es r) ++ dl D)))).toList = Z at hfin HB5 ⊢
      go_wp2_with fail
      go_ret
      exact ⟨rfl, hfin.out, HB5.out⟩
end Go.Proofs.YtndbbbkdpjkljaaDoor
