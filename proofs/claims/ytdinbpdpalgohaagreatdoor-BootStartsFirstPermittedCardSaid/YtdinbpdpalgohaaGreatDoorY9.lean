/- The log: New, Register, Measure. Conditions: those that each theorem names. -/
import Derived.StillTailTactics
import Derived.Deep.DrawnRows
import Derived.Deep.RegionHeld3
import Derived.Deep.RegionLaw
import Derived.Deep.AppendLies
import Derived.Test.YtdinbpdpalgohaaGreatDoorY8
namespace Go.Proofs.YtdinbpdpalgohaaGreatDoor.Ms
open Go.RowKit

open Classical in
/-- The n cells that a pointer points to. -/
noncomputable def ldN (n : Nat) (w : World) (v : Value) : Option (Array Value) := match v with
  | .pointer (some ⟨b, o, none⟩) => if ∃ cs : Array Value, cs.size = n ∧ w.rangeAt b o cs.toList then some (arr n fun j => (w.cell? ⟨b, o + j, none⟩).getD undef) else none
  | _ => none
theorem ldN_of {n : Nat} {w : World} {b o : Nat} {cs : Array Value} (h : w.rangeAt b o cs.toList) (hs : cs.size = n) : ldN n w (.pointer (some ⟨b, o, none⟩)) = some cs := by
  have h1 : ∃ cs : Array Value, cs.size = n ∧ w.rangeAt b o cs.toList := ⟨cs, hs, h⟩
  simp only [ldN]
  rw [if_pos h1]
  congr 1
  apply Array.ext
  · simp [arr, hs]
  · intro i h1 h2
    have := h i cs[i] (by simp [h2])
    simp [arr, this]
set_option maxRecDepth 100000 in
theorem load_n (T n : Nat) (dd : TypeDesc) (hu : Tryz.prog.underlying T = some dd) (hd : dd.isRow = true) (hi : (Tryz.prog.info? T).map (·.size) = some n)
    (ρ : Operand → Value) (d : Option Tmp) (x : Operand) (ty : TypeId) (p : String) (af : Array Edge) (g : Option (Nat × Bool)) (w : World) :
    Sem.run Tryz.prog (execOp ρ { dst := d, op := .load T x, type := ty, pos := p, after := af, guard := g }) w =
      match ldN n w (ρ x) with
      | some cs => .ok (.value (.agg cs)) w
      | none => Sem.run Tryz.prog (Instr.loadAt T (ρ x) >>= fun v => pure (Next.value v)) w := by
  show Sem.run Tryz.prog (Instr.loadAt T (ρ x) >>= fun v => pure (Next.value v)) w = _
  generalize ρ x = X
  split
  · next cs h =>
    have h' := h
    unfold ldN at h'
    split at h'
    · split at h'
      · next b o hc =>
        obtain ⟨cs2, hs, hr⟩ := hc
        rw [ldN_of hr hs] at h
        injection h with h
        subst h
        rw [Sem.run_bind, run_loadAt_mid w b o T cs2.toList _ hr hu hd (by rw [Array.length_toList, hs]; exact hi)]
        simp [Result.andThen]
      · cases h'
    · cases h'
  · rfl
open Classical in
/-- Where n cells are stored to, and what. -/
noncomputable def stN (n : Nat) (w : World) (x y : Value) : Option (Nat × Nat × Array Value) := match x, y with
  | .pointer (some ⟨b, o, none⟩), .agg cs => if cs.size = n ∧ w.there b o n ∧ cs.all (·.oneCell') = true then some (b, o, cs) else none
  | _, _ => none
theorem stN_of {n : Nat} {w : World} {b o : Nat} {cs : Array Value} (hs : cs.size = n) (ht : w.there b o n) (h1 : cs.all (·.oneCell') = true) : stN n w (.pointer (some ⟨b, o, none⟩)) (.agg cs) = some (b, o, cs) := if_pos ⟨hs, ht, h1⟩
set_option maxRecDepth 100000 in
theorem store_n (T n : Nat) (hi : (Tryz.prog.info? T).map (·.size) = some n) (ρ : Operand → Value) (d : Option Tmp) (x y : Operand) (ty : TypeId) (p : String) (af : Array Edge) (g : Option (Nat × Bool)) (w : World) :
    Sem.run Tryz.prog (execOp ρ { dst := d, op := .store T x y, type := ty, pos := p, after := af, guard := g }) w =
      match stN n w (ρ x) (ρ y) with
      | some (b, o, cs) => .ok .skip (w.setCells b o cs.toList)
      | none => Sem.run Tryz.prog (Instr.storeAt T (ρ x) (ρ y) >>= fun _ => pure Next.skip) w := by
  show Sem.run Tryz.prog (Instr.storeAt T (ρ x) (ρ y) >>= fun _ => pure Next.skip) w = _
  generalize ρ x = X, ρ y = Y
  split
  · next b o cs h =>
    unfold stN at h
    split at h
    · split at h
      · next b' o' cs' hc =>
        injection h with h
        injection h with h1 h2
        injection h2 with h2 h3
        subst h1 h2 h3
        rw [Sem.run_bind, run_storeAt_mid w _ _ T _ (by rw [hc.1]; exact hc.2.1) (by rw [hc.1]; exact hi) hc.2.2]
        rfl
      · cases h
    · cases h
  · rfl

theorem all_one (n : Nat) (f : Nat → Value) (h : ∀ i, (f i).oneCell' = true) : (arr n f).all (·.oneCell') = true := by
  unfold arr
  apply all_oneCell_toArray
  intro v hv
  obtain ⟨i, _, rfl⟩ := List.mem_map.1 hv
  exact h i
theorem stN_new (n t : Nat) (w : World) (f g : Nat → Value) (h : ∀ i, (g i).oneCell' = true) : stN n (w.alloc (.cells (arr n f) t)) (.pointer (some ⟨w.heap.size, 0, none⟩)) (.agg (arr n g)) = some (w.heap.size, 0, arr n g) :=
  stN_of (by simp [arr]) ((Row.ofList w t (arr n f) f n rfl).there) (all_one n g h)
theorem stN_b8 (t : Nat) (w : World) (f : Nat → Value) (D : Nat → Int) : stN 32 (w.alloc (.cells (arr 32 f) t)) (.pointer (some ⟨w.heap.size, 0, none⟩)) (.agg (arr 32 (b8 D))) = some (w.heap.size, 0, arr 32 (b8 D)) := stN_new _ _ _ _ _ (fun _ => rfl)
theorem stN_uc (n t : Nat) (w : World) (f : Nat → Value) (D : Nat → Int) : stN n (w.alloc (.cells (arr n f) t)) (.pointer (some ⟨w.heap.size, 0, none⟩)) (.agg (arr n (uc D))) = some (w.heap.size, 0, arr n (uc D)) := stN_new _ _ _ _ _ (fun _ => rfl)
theorem setCells_heap (b : Nat) : ∀ (vs : List Value) (o : Nat) (w : World), ∃ h, w.setCells b o vs = { w with heap := h } ∧ h.size = w.heap.size ∧ ∀ k, k ≠ b → h[k]? = w.heap[k]?
  | [], _, w => ⟨w.heap, rfl, rfl, fun _ _ => rfl⟩
  | u :: r, o, w => by
    obtain ⟨h, e, hs, hk⟩ := setCells_heap b r (o + 1) (w.setCell ⟨b, o, none⟩ u)
    refine ⟨h, e, ?_, fun k hkb => ?_⟩
    · rw [hs]; simp [World.setCell]
    · rw [hk k hkb, Below.heap_setCell w ⟨b, o, none⟩ u k hkb]
theorem set_new (n t : Nat) (w : World) (f g : Nat → Value) : (w.alloc (.cells (arr n f) t)).setCells w.heap.size 0 (arr n g).toList = w.alloc (.cells (arr n g) t) := by
  obtain ⟨h, e, hs, hk⟩ := setCells_heap w.heap.size (arr n g).toList 0 (w.alloc (.cells (arr n f) t))
  have hr := (Row.setWhole (u := g) (Row.ofList w t (arr n f) f n rfl)).arr
  rw [e] at hr ⊢
  have : h = (w.alloc (.cells (arr n g) t)).heap := by
    apply Array.ext_getElem?
    intro k
    by_cases hkb : k = w.heap.size
    · subst hkb
      rw [heap_alloc_new w _]
      exact hr
    · rw [hk k hkb]
      rcases Nat.lt_or_ge k w.heap.size with hl | hl
      · rw [Below.heap_alloc w _ k hl, Below.heap_alloc w _ k hl]
      · rw [Array.getElem?_eq_none (by simp; omega), Array.getElem?_eq_none (by simp; omega)]
  rw [this]
  rfl
set_option maxRecDepth 100000 in
theorem alloc26 (ρ : Operand → Value) (d : Option Tmp) (ty : TypeId) (p : String) (af : Array Edge) (g : Option (Nat × Bool)) (w : World) :
    Sem.run Tryz.prog (execOp ρ { dst := d, op := .alloc 31, type := ty, pos := p, after := af, guard := g }) w = .ok (.value (.pointer (some ⟨w.heap.size, 0, none⟩))) (w.alloc (.cells (arr 32 zb) 31)) := by kernel_rfl
set_option maxRecDepth 100000 in
theorem alloc63 (ρ : Operand → Value) (d : Option Tmp) (ty : TypeId) (p : String) (af : Array Edge) (g : Option (Nat × Bool)) (w : World) :
    Sem.run Tryz.prog (execOp ρ { dst := d, op := .alloc 111, type := ty, pos := p, after := af, guard := g }) w = .ok (.value (.pointer (some ⟨w.heap.size, 0, none⟩))) (w.alloc (.cells (arr 8 (uc fun _ => 0)) 111)) := by kernel_rfl
set_option maxRecDepth 100000 in
theorem alloc68 (ρ : Operand → Value) (d : Option Tmp) (ty : TypeId) (p : String) (af : Array Edge) (g : Option (Nat × Bool)) (w : World) :
    Sem.run Tryz.prog (execOp ρ { dst := d, op := .alloc 219, type := ty, pos := p, after := af, guard := g }) w = .ok (.value (.pointer (some ⟨w.heap.size, 0, none⟩))) (w.alloc (.cells (arr 64 zb) 219)) := by kernel_rfl
set_option maxRecDepth 100000 in
theorem alloc77 (ρ : Operand → Value) (d : Option Tmp) (ty : TypeId) (p : String) (af : Array Edge) (g : Option (Nat × Bool)) (w : World) :
    Sem.run Tryz.prog (execOp ρ { dst := d, op := .alloc 184, type := ty, pos := p, after := af, guard := g }) w = .ok (.value (.pointer (some ⟨w.heap.size, 0, none⟩))) (w.alloc (.cells (arr 64 (uc fun _ => 0)) 184)) := by kernel_rfl
set_option maxRecDepth 100000 in
theorem load26n (ρ : Operand → Value) (d : Option Tmp) (x : Operand) (ty : TypeId) (p : String) (af : Array Edge) (g : Option (Nat × Bool)) (w : World) :
    Sem.run Tryz.prog (execOp ρ { dst := d, op := .load 31 x, type := ty, pos := p, after := af, guard := g }) w =
      match ldN 32 w (ρ x) with
      | some cs => .ok (.value (.agg cs)) w
      | none => Sem.run Tryz.prog (Instr.loadAt 31 (ρ x) >>= fun v => pure (Next.value v)) w := load_n 31 32 _ Tryz.underlying31 rfl (by kernel_rfl) ρ d x ty p af g w
set_option maxRecDepth 100000 in
theorem store26n (ρ : Operand → Value) (d : Option Tmp) (x y : Operand) (ty : TypeId) (p : String) (af : Array Edge) (g : Option (Nat × Bool)) (w : World) :
    Sem.run Tryz.prog (execOp ρ { dst := d, op := .store 31 x y, type := ty, pos := p, after := af, guard := g }) w =
      match stN 32 w (ρ x) (ρ y) with
      | some (b, o, cs) => .ok .skip (w.setCells b o cs.toList)
      | none => Sem.run Tryz.prog (Instr.storeAt 31 (ρ x) (ρ y) >>= fun _ => pure Next.skip) w := store_n 31 32 (by kernel_rfl) ρ d x y ty p af g w
set_option maxRecDepth 100000 in
theorem load63n (ρ : Operand → Value) (d : Option Tmp) (x : Operand) (ty : TypeId) (p : String) (af : Array Edge) (g : Option (Nat × Bool)) (w : World) :
    Sem.run Tryz.prog (execOp ρ { dst := d, op := .load 111 x, type := ty, pos := p, after := af, guard := g }) w =
      match ldN 8 w (ρ x) with
      | some cs => .ok (.value (.agg cs)) w
      | none => Sem.run Tryz.prog (Instr.loadAt 111 (ρ x) >>= fun v => pure (Next.value v)) w := load_n 111 8 _ Tryz.underlying111 rfl (by kernel_rfl) ρ d x ty p af g w
set_option maxRecDepth 100000 in
theorem store63n (ρ : Operand → Value) (d : Option Tmp) (x y : Operand) (ty : TypeId) (p : String) (af : Array Edge) (g : Option (Nat × Bool)) (w : World) :
    Sem.run Tryz.prog (execOp ρ { dst := d, op := .store 111 x y, type := ty, pos := p, after := af, guard := g }) w =
      match stN 8 w (ρ x) (ρ y) with
      | some (b, o, cs) => .ok .skip (w.setCells b o cs.toList)
      | none => Sem.run Tryz.prog (Instr.storeAt 111 (ρ x) (ρ y) >>= fun _ => pure Next.skip) w := store_n 111 8 (by kernel_rfl) ρ d x y ty p af g w
set_option maxRecDepth 100000 in
theorem load77n (ρ : Operand → Value) (d : Option Tmp) (x : Operand) (ty : TypeId) (p : String) (af : Array Edge) (g : Option (Nat × Bool)) (w : World) :
    Sem.run Tryz.prog (execOp ρ { dst := d, op := .load 184 x, type := ty, pos := p, after := af, guard := g }) w =
      match ldN 64 w (ρ x) with
      | some cs => .ok (.value (.agg cs)) w
      | none => Sem.run Tryz.prog (Instr.loadAt 184 (ρ x) >>= fun v => pure (Next.value v)) w := load_n 184 64 _ Tryz.underlying184 rfl (by kernel_rfl) ρ d x ty p af g w
set_option maxRecDepth 100000 in
theorem store77n (ρ : Operand → Value) (d : Option Tmp) (x y : Operand) (ty : TypeId) (p : String) (af : Array Edge) (g : Option (Nat × Bool)) (w : World) :
    Sem.run Tryz.prog (execOp ρ { dst := d, op := .store 184 x y, type := ty, pos := p, after := af, guard := g }) w =
      match stN 64 w (ρ x) (ρ y) with
      | some (b, o, cs) => .ok .skip (w.setCells b o cs.toList)
      | none => Sem.run Tryz.prog (Instr.storeAt 184 (ρ x) (ρ y) >>= fun _ => pure Next.skip) w := store_n 184 64 (by kernel_rfl) ρ d x y ty p af g w
end Go.Proofs.YtdinbpdpalgohaaGreatDoor.Ms
namespace Go.Proofs.YtdinbpdpalgohaaGreatDoor.Ms
open Go.RowKit

/-- The cells of a log: eight registers of 32 bytes, the slice of events. -/
def lgv (G : Nat → Nat → Int) (v : Value) (i : Nat) : Value := if i < 256 then .int .u8 (G (i / 32) (i % 32)) else v
theorem lgv_reg (G : Nat → Nat → Int) (v : Value) (r j : Nat) (hr : r < 8) (hj : j < 32) : lgv G v (r * 32 + j) = .int .u8 (G r j) := by
  unfold lgv; rw [if_pos (by omega), show (r * 32 + j) / 32 = r by omega, show (r * 32 + j) % 32 = j by omega]
theorem lgv_ev (G : Nat → Nat → Int) (v : Value) : lgv G v 256 = v := if_neg (by omega)
/-- Block B is a log. -/
def LG (w : World) (B : Nat) (G : Nat → Nat → Int) (v : Value) : Prop := Row w B 131 257 (lgv G v)

set_option maxRecDepth 100000 in
theorem zero71 (w : World) : Sem.run Tryz.prog (zeroValue 131) w = .ok (.agg (arr 257 (lgv (fun _ _ => 0) (.slice none 0 0)))) w := by kernel_rfl
set_option maxRecDepth 100000 in
theorem new_any (w : World) : Calls Tryz.prog 39 #[] w fun e w' => e = .returned (.pointer (some ⟨w.heap.size, 0, none⟩)) ∧ LG w' w.heap.size (fun _ _ => 0) (.slice none 0 0) ∧ Below w.heap.size w w' := by
  go_enter Tryz.func39, Tryz.ntmps39
  go_wp2_with fail
  go_ret
  exact ⟨rfl, Row.ofList w 131 _ _ 257 (by kernel_rfl), (Below.refl _ _).alloc (Nat.le_refl _) _⟩

set_option maxRecDepth 100000 in
theorem isreg_yes (r : Nat) (w : World) (hr : r < 8) : Calls Tryz.prog 113 #[.int .i64 (r : Int)] w fun e w' => e = .returned (.bool true) ∧ w = w' := by
  have d1 : decide ((0 : Int) ≤ (r : Int)) = true := by simp
  have d2 : decide ((r : Int) < 8) = true := by simp; omega
  go_enter Tryz.func113, Tryz.ntmps113
  go_wp2
  go_ret
  exact ⟨rfl, rfl⟩
set_option maxRecDepth 100000 in
theorem isreg_no (r : Int) (w : World) (hr : r < 0 ∨ 8 ≤ r) : Calls Tryz.prog 113 #[.int .i64 r] w fun e w' => e = .returned (.bool false) ∧ w = w' := by
  by_cases h : r < 0
  · have d1 : decide ((0 : Int) ≤ r) = false := by simp; omega
    go_enter Tryz.func113, Tryz.ntmps113
    go_wp2
    go_ret
    exact ⟨rfl, rfl⟩
  · have d1 : decide ((0 : Int) ≤ r) = true := by simp; omega
    have d2 : decide (r < 8) = false := by simp; omega
    go_enter Tryz.func113, Tryz.ntmps113
    go_wp2
    go_ret
    exact ⟨rfl, rfl⟩

def zD : Nat → Int := fun _ => 0
theorem LG.range {w : World} {B r : Nat} {G : Nat → Nat → Int} {v : Value} (h : LG w B G v) (hr : r < 8) : w.rangeAt B (r * 32) (arr 32 (b8 (G r))).toList := fun j u hu => by
  have hj : j < 32 := by have := (List.getElem?_eq_some_iff.1 hu).1; simpa [arr] using this
  have : u = b8 (G r) j := by simpa [arr, hj] using hu.symm
  rw [this, Row.cell h (by omega), lgv_reg _ _ _ _ hr hj]; rfl

set_option maxRecDepth 100000 in
theorem res2 {fn : Func} {p u : Tmp} {ty : TypeId} (h : fn.results = #[.cell p ty, .tmp u]) (tmps : Array Value) (w : World) (g : Nat) (cs : Array Value) (y : Value)
    (hp : tmps.getD p undef = .pointer (some ⟨g, 0, none⟩)) (hy : tmps.getD u undef = y) (hl : (loadVar ty ⟨g, 0, none⟩).run Tryz.prog w = .ok (.agg cs) w) :
    (results fn tmps).run Tryz.prog w = .ok (.tuple #[.agg cs, y]) w := by
  rw [results_cell_tmp h, hp, hy]
  simp [asAddr, hl, Result.andThen]
set_option maxRecDepth 100000 in
theorem zz32 : (#[Value.int .u8 0, .int .u8 0, .int .u8 0, .int .u8 0, .int .u8 0, .int .u8 0, .int .u8 0, .int .u8 0, .int .u8 0, .int .u8 0, .int .u8 0, .int .u8 0, .int .u8 0, .int .u8 0, .int .u8 0, .int .u8 0, .int .u8 0, .int .u8 0, .int .u8 0, .int .u8 0, .int .u8 0, .int .u8 0, .int .u8 0, .int .u8 0, .int .u8 0, .int .u8 0, .int .u8 0, .int .u8 0, .int .u8 0, .int .u8 0, .int .u8 0, .int .u8 0] : Array Value) = arr 32 zb := by kernel_rfl
set_option maxRecDepth 100000 in
theorem zz26 (w : World) : Sem.run Tryz.prog (zeroValue 31) w = .ok (.agg (arr 32 zb)) w := by kernel_rfl
set_option maxRecDepth 100000 in
set_option maxHeartbeats 1000000 in
theorem register_no (B : Nat) (r : Int) (w : World) (hr : r < 0 ∨ 8 ≤ r) : Calls Tryz.prog 48 #[.pointer (some ⟨B, 0, none⟩), .int .i64 r] w fun e w' => e = .returned (.tuple #[.agg (arr 32 (b8 zD)), .int .i64 1]) ∧ Below w.heap.size w w' := by
  have a1 : Row (w.alloc (.cells (arr 32 zb) 31)) w.heap.size 31 32 zb := Row.ofList w 31 _ _ 32 rfl
  have hT := Lib.hid a1.there
  have hrow := Lib.hid (Row.setWhole (u := b8 zD) a1)
  clear a1
  go_enter Tryz.func48, Tryz.ntmps48
  go_wp2_with (first | (go_at_call 113; (try rw [zz32]); refine (isreg_no r _ hr).mono ?_; rintro e w1 ⟨rfl, rfl⟩) | (rw [zz32]; refine wpList_store_mid rfl 31 _ _ rfl w.heap.size 0 (arr 32 zb) rfl rfl (by exact hT.out) (by kernel_rfl) (by kernel_rfl) ?_))
  exact bodyPost_ret (v := .tuple #[.agg (arr 32 (b8 zD)), .int .i64 1]) (res2 rfl _ _ w.heap.size (arr 32 (b8 zD)) (.int .i64 1) rfl rfl (run_loadVar_row _ _ 31 31 _ (0, 0) _ hrow.out.arr Tryz.underlying31 rfl (by kernel_rfl))) rfl ⟨rfl, Below.setAll (Nat.le_refl _) _ _ _ ((Below.refl _ _).alloc (Nat.le_refl _) _)⟩
set_option maxRecDepth 100000 in
set_option maxHeartbeats 1000000 in
theorem register_yes (B r : Nat) (G : Nat → Nat → Int) (v : Value) (w : World) (hr : r < 8) (h : LG w B G v) : Calls Tryz.prog 48 #[.pointer (some ⟨B, 0, none⟩), .int .i64 (r : Int)] w fun e w' => e = .returned (.tuple #[.agg (arr 32 (b8 (G r))), .int .i64 0]) ∧ Below w.heap.size w w' := by
  have hra := Lib.hid (World.rangeAt_alloc (h.range hr) (.cells (arr 32 zb) 31))
  have r1 : (r : Int) < 8 := by omega
  have a1 : Row (w.alloc (.cells (arr 32 zb) 31)) w.heap.size 31 32 zb := Row.ofList w 31 _ _ 32 rfl
  have hT := Lib.hid a1.there
  have hrow := Lib.hid (Row.setWhole (u := b8 (G r)) a1)
  clear a1
  clear h
  go_enter Tryz.func48, Tryz.ntmps48
  go_wp2_with (first | (go_at_call 113; (try rw [zz32]); refine (isreg_yes r _ hr).mono ?_; rintro e w1 ⟨rfl, rfl⟩) | (refine wpList_load_mid rfl 31 _ rfl B (r * 32) rfl (arr 32 (b8 (G r))).toList _ (by exact hra.out) Tryz.underlying31 rfl (by kernel_rfl) ?_) | (refine wpList_store_mid rfl 31 _ _ rfl w.heap.size 0 (arr 32 (b8 (G r))) rfl rfl (by exact hT.out) (by kernel_rfl) (by kernel_rfl) ?_))
  exact bodyPost_ret (v := .tuple #[.agg (arr 32 (b8 (G r))), .int .i64 0]) (res2 rfl _ _ w.heap.size (arr 32 (b8 (G r))) (.int .i64 0) rfl rfl (run_loadVar_row _ _ 31 31 _ (0, 0) _ hrow.out.arr Tryz.underlying31 rfl (by kernel_rfl))) rfl ⟨rfl, Below.setAll (Nat.le_refl _) _ _ _ ((Below.refl _ _).alloc (Nat.le_refl _) _)⟩
end Go.Proofs.YtdinbpdpalgohaaGreatDoor.Ms
namespace Go.Proofs.YtdinbpdpalgohaaGreatDoor.Ms
open Go.RowKit
attribute [local go_sem ↓] Go.wp_at_zero Go.wp_at_succ

/-- An event: its register, its digest, its text. -/
structure Ev where
  r : Int
  d : Nat → Int
  t : ByteArray
def evc (e : Ev) : List Value := .int .i64 e.r :: ((arr 32 (b8 e.d)).toList ++ [.string e.t])
theorem evc_len (e : Ev) : (evc e).length = 34 := by simp [evc, arr]
def evs (es : List Ev) : List Value := es.flatMap evc
theorem evs_len (es : List Ev) : (evs es).length = es.length * 34 := by
  induction es with
  | nil => rfl
  | cons e r ih => simp only [evs, List.flatMap_cons, List.length_append, evc_len, List.length_cons] at ih ⊢; omega
theorem evs_snoc (es : List Ev) (e : Ev) : evs (es ++ [e]) = evs es ++ evc e := by simp [evs]
/-- What a measurement does to the registers. -/
def reg1 (G : Nat → Nat → Int) (e : Ev) : Nat → Nat → Int := fun r => if (r : Int) = e.r then sumD (dl (G r) ++ dl e.d) else G r
def regs (es : List Ev) : Nat → Nat → Int := es.foldl reg1 fun _ _ => 0
theorem regs_snoc (es : List Ev) (e : Ev) : regs (es ++ [e]) = reg1 (regs es) e := by simp [regs]
theorem reg1_byt {G : Nat → Nat → Int} (h : ∀ r, Byt (G r)) (e : Ev) (r : Nat) : Byt (reg1 G e r) := by
  unfold reg1; split
  · exact sumD_byt _
  · exact h r
theorem foldl_byt (es : List Ev) : ∀ G : Nat → Nat → Int, (∀ r, Byt (G r)) → ∀ r, Byt (es.foldl reg1 G r) := by
  induction es with
  | nil => exact fun G h => h
  | cons e t ih => exact fun G h => ih _ (reg1_byt h e)
theorem regs_byt (es : List Ev) (r : Nat) : Byt (regs es r) := foldl_byt es _ (fun _ _ => ⟨Int.le_refl _, by decide⟩) r
/-- Block B is a log of these events, all of it from block base on. -/
def LOG (w : World) (base B : Nat) (es : List Ev) : Prop := base ≤ B ∧ ∃ v, LG w B (regs es) v ∧ w.ownsRow base 62 34 v es.length (evs es)

theorem own_ne {w : World} {base e n B t N size : Nat} {v : Value} {xs : List Value} {f : Nat → Value} (h : w.ownsRow base e size v n xs) (hr : Row w B t N f) (hne : e ≠ t) : v.ownBlock ≠ some B := by
  intro he
  rcases h.2 with ⟨rfl, _⟩ | ⟨g, cap, cur, rfl, _, hh, _⟩
  · cases he
  · have : g = B := by simpa [Value.ownBlock] using he
    subst this
    obtain ⟨cs, hc, _⟩ := hr
    rw [hh] at hc
    injection hc with hc
    injection hc with _ h2
    exact hne h2
theorem own_len {w : World} {base e n size : Nat} {v : Value} {xs : List Value} (h : w.ownsRow base e size v n xs) : ∃ a c, v = .slice a n c := by
  rcases h.2 with ⟨rfl, rfl⟩ | ⟨g, cap, cur, rfl, _⟩
  · exact ⟨_, _, rfl⟩
  · exact ⟨_, _, rfl⟩

def bldV (x y z : Value) : Option (List Value) := match x, y, z with
  | .int k r, .agg cs, .string t => if cs.size = 32 then some (.int k r :: (cs.toList ++ [.string t])) else none
  | _, _, _ => none
theorem arr_of {cs : Array Value} {n : Nat} (h : cs.size = n) : cs = arr n (fun i => cs.getD i undef) := by
  apply Array.ext
  · simp [arr, h]
  · intro i h1 h2; simp [arr, h1]
set_option maxRecDepth 100000 in
theorem build45a (k : IntKind) (r : Int) (f : Nat → Value) (t : ByteArray) (w : World) : Sem.run Tryz.prog (Instr.build 62 #[(0, .int k r), (1, .agg (arr 32 f)), (2, .string t)]) w = .ok (.agg (.int k r :: ((arr 32 f).toList ++ [.string t])).toArray) w := by kernel_rfl
set_option maxRecDepth 100000 in
theorem slice46a (f : Nat → Value) (w : World) : Sem.run Tryz.prog (Instr.buildSlice 59 1 #[(0, .agg (arr 34 f))]) w = .ok (.slice (some ⟨w.heap.size, 0, none⟩) 1 1) (w.alloc (.cells (arr 34 f) 62)) := by kernel_rfl
set_option maxRecDepth 100000 in
theorem build45 (ρ : Operand → Value) (d : Option Tmp) (x y z : Operand) (ty : TypeId) (p : String) (af : Array Edge) (g : Option (Nat × Bool)) (w : World) :
    Sem.run Tryz.prog (execOp ρ { dst := d, op := .build 62 #[(0, x), (1, y), (2, z)], type := ty, pos := p, after := af, guard := g }) w =
      match bldV (ρ x) (ρ y) (ρ z) with
      | some cs => .ok (.value (.agg cs.toArray)) w
      | none => Sem.run Tryz.prog (Instr.build 62 #[(0, ρ x), (1, ρ y), (2, ρ z)] >>= fun v => pure (Next.value v)) w := by
  have e : execOp ρ { dst := d, op := .build 62 #[(0, x), (1, y), (2, z)], type := ty, pos := p, after := af, guard := g } = Instr.build 62 #[(0, ρ x), (1, ρ y), (2, ρ z)] >>= fun v => pure (Next.value v) := by simp [execOp]
  rw [e]
  clear e
  generalize ρ x = X, ρ y = Y, ρ z = Z
  unfold bldV
  split
  · next h =>
    split at h
    · split at h
      · next k r cs t hs =>
        injection h with h
        subst h
        rw [arr_of hs, Sem.run_bind, build45a]
        rfl
      · cases h
    · cases h
  · rfl
def slcV (x : Value) : Option (Array Value) := match x with
  | .agg cs => if cs.size = 34 then some cs else none
  | _ => none
set_option maxRecDepth 100000 in
theorem slice46 (ρ : Operand → Value) (d : Option Tmp) (x : Operand) (ty : TypeId) (p : String) (af : Array Edge) (g : Option (Nat × Bool)) (w : World) :
    Sem.run Tryz.prog (execOp ρ { dst := d, op := .buildSlice 59 1 #[(0, x)], type := ty, pos := p, after := af, guard := g }) w =
      match slcV (ρ x) with
      | some cs => .ok (.value (.slice (some ⟨w.heap.size, 0, none⟩) 1 1)) (w.alloc (.cells cs 62))
      | none => Sem.run Tryz.prog (Instr.buildSlice 59 1 #[(0, ρ x)] >>= fun v => pure (Next.value v)) w := by
  have e : execOp ρ { dst := d, op := .buildSlice 59 1 #[(0, x)], type := ty, pos := p, after := af, guard := g } = Instr.buildSlice 59 1 #[(0, ρ x)] >>= fun v => pure (Next.value v) := by simp [execOp]
  rw [e]
  clear e
  generalize ρ x = X
  unfold slcV
  split
  · next h =>
    split at h
    · split at h
      · next cs hs =>
        injection h with h
        subst h
        rw [arr_of hs, Sem.run_bind, slice46a]
        rfl
      · cases h
    · cases h
  · rfl
set_option maxRecDepth 100000 in
theorem Tryz.info62 : (Tryz.prog.info? 62).map (fun i => (i.zero, i.size, i.bytes)) = some (some (.agg (.int .i64 0 :: ((arr 32 zb).toList ++ [.string ⟨#[]⟩])).toArray), 34, 56) := by kernel_rfl
open Classical in
/-- The digest that a pointer points to. -/
noncomputable def ldV (w : World) (v : Value) : Option (Array Value) := match v with
  | .pointer (some ⟨b, o, none⟩) => if ∃ cs : Array Value, cs.size = 32 ∧ w.rangeAt b o cs.toList then some (arr 32 fun j => (w.cell? ⟨b, o + j, none⟩).getD undef) else none
  | _ => none
theorem ldV_of {w : World} {b o : Nat} {cs : Array Value} (h : w.rangeAt b o cs.toList) (hs : cs.size = 32) : ldV w (.pointer (some ⟨b, o, none⟩)) = some cs := by
  have h1 : ∃ cs : Array Value, cs.size = 32 ∧ w.rangeAt b o cs.toList := ⟨cs, hs, h⟩
  simp only [ldV]
  rw [if_pos h1]
  congr 1
  apply Array.ext
  · simp [arr, hs]
  · intro i h1 h2
    have := h i cs[i] (by simp [h2])
    simp [arr, this]
set_option maxRecDepth 100000 in
theorem load26 (ρ : Operand → Value) (d : Option Tmp) (x : Operand) (ty : TypeId) (p : String) (af : Array Edge) (g : Option (Nat × Bool)) (w : World) :
    Sem.run Tryz.prog (execOp ρ { dst := d, op := .load 31 x, type := ty, pos := p, after := af, guard := g }) w =
      match ldV w (ρ x) with
      | some cs => .ok (.value (.agg cs)) w
      | none => Sem.run Tryz.prog (Instr.loadAt 31 (ρ x) >>= fun v => pure (Next.value v)) w := by
  show Sem.run Tryz.prog (Instr.loadAt 31 (ρ x) >>= fun v => pure (Next.value v)) w = _
  generalize ρ x = X
  split
  · next cs h =>
    have h' := h
    unfold ldV at h'
    split at h'
    · split at h'
      · next b o hc =>
        obtain ⟨cs2, hs, hr⟩ := hc
        rw [ldV_of hr hs] at h
        injection h with h
        subst h
        rw [Sem.run_bind, run_loadAt_mid w b o 31 cs2.toList _ hr Tryz.underlying31 rfl (by rw [Array.length_toList, hs]; kernel_rfl)]
        simp [Result.andThen]
      · cases h'
    · cases h'
  · rfl
open Classical in
/-- Where a digest is stored to, and its cells. -/
noncomputable def stV (w : World) (x y : Value) : Option (Nat × Nat × Array Value) := match x, y with
  | .pointer (some ⟨b, o, none⟩), .agg cs => if cs.size = 32 ∧ w.there b o 32 ∧ cs.all (·.oneCell') = true then some (b, o, cs) else none
  | _, _ => none
theorem stV_of {w : World} {b o : Nat} {cs : Array Value} (hs : cs.size = 32) (ht : w.there b o 32) (h1 : cs.all (·.oneCell') = true) : stV w (.pointer (some ⟨b, o, none⟩)) (.agg cs) = some (b, o, cs) := if_pos ⟨hs, ht, h1⟩
set_option maxRecDepth 100000 in
theorem store26 (ρ : Operand → Value) (d : Option Tmp) (x y : Operand) (ty : TypeId) (p : String) (af : Array Edge) (g : Option (Nat × Bool)) (w : World) :
    Sem.run Tryz.prog (execOp ρ { dst := d, op := .store 31 x y, type := ty, pos := p, after := af, guard := g }) w =
      match stV w (ρ x) (ρ y) with
      | some (b, o, cs) => .ok .skip (w.setCells b o cs.toList)
      | none => Sem.run Tryz.prog (Instr.storeAt 31 (ρ x) (ρ y) >>= fun _ => pure Next.skip) w := by
  show Sem.run Tryz.prog (Instr.storeAt 31 (ρ x) (ρ y) >>= fun _ => pure Next.skip) w = _
  generalize ρ x = X, ρ y = Y
  split
  · next b o cs h =>
    unfold stV at h
    split at h
    · split at h
      · next b' o' cs' hc =>
        injection h with h
        injection h with h1 h2
        injection h2 with h2 h3
        subst h1 h2 h3
        rw [Sem.run_bind, run_storeAt_mid w _ _ 31 _ (by rw [hc.1]; exact hc.2.1) (by rw [hc.1]; kernel_rfl) hc.2.2]
        rfl
      · cases h
    · cases h
  · rfl
attribute [local go_sem ↓] build45 slice46 load26 store26
attribute [local go_sem] bldV slcV
theorem LG.ev {w : World} {B : Nat} {G : Nat → Nat → Int} {v : Value} (h : LG w B G v) (u : Value) : LG (w.setCell ⟨B, 256, none⟩ u) B G u := by
  refine Row.congr (Row.set h (i := 256) (by omega) u) fun i hi => ?_
  by_cases e : i = 256
  · subst e; rw [upd_hit, lgv_ev]
  · rw [upd_miss _ _ e]; unfold lgv; rw [if_pos (by omega), if_pos (by omega)]
theorem LG.reg {w : World} {B : Nat} {G : Nat → Nat → Int} {v : Value} (h : LG w B G v) (r : Nat) (hr : r < 8) (N : Nat → Int) : LG (w.setCells B (r * 32) (arr 32 (b8 N)).toList) B (fun q => if q = r then N else G q) v := by
  have hl : (arr 32 (b8 N)).toList.length = 32 := by simp [arr]
  refine Row.congr (Row.setAll _ (r * 32) w _ h (by omega)) fun i hi => ?_
  rw [hl]
  by_cases e : r * 32 ≤ i ∧ i < r * 32 + 32
  · rw [if_pos e]
    have e2 : i - r * 32 < 32 := by omega
    simp only [lgv, if_pos (show i < 256 by omega), show i / 32 = r by omega, if_pos, show i % 32 = i - r * 32 by omega]
    simp [arr, e2, b8]
  · rw [if_neg e]
    unfold lgv
    by_cases h2 : i < 256
    · rw [if_pos h2, if_pos h2]; show _ = Value.int .u8 ((if i / 32 = r then N else G (i / 32)) (i % 32)); rw [if_neg (by omega)]
    · rw [if_neg h2, if_neg h2]
theorem LG.there {w : World} {B : Nat} {G : Nat → Nat → Int} {v : Value} (h : LG w B G v) (r : Nat) (hr : r < 8) : w.there B (r * 32) 32 := fun j hj => ⟨by rw [Row.cell h (by omega)]; rfl, Row.frozen h _⟩
set_option maxRecDepth 100000 in
theorem arr_one (N : Nat → Int) : (arr 32 (b8 N)).all (·.oneCell') = true := by kernel_rfl
theorem own_set {w : World} {base e n B t N size : Nat} {v : Value} {xs : List Value} {f : Nat → Value} (h : w.ownsRow base e size v n xs) (hr : Row w B t N f) (hne : e ≠ t) (w' : World) (k : Ch (fun b => b = B) w w') : w'.ownsRow base e size v n xs := by
  have h1 := own_ne h hr hne
  exact h.kept (row := some B) ⟨k.os, k.tape, k.output, k.size, fun j hj hjn => k.block j hj (fun e => hjn (by rw [e]))⟩ (.inr h1)
theorem Ch.setAll {C : Nat → Prop} {a : World} {B : Nat} (hC : C B) : ∀ (vs : List Value) (o : Nat) (w : World), Ch C a w → Ch C a (w.setCells B o vs)
  | [], _, _, h => h
  | u :: r, o, _, h => Ch.setAll hC r (o + 1) _ (h.setCell (p := ⟨B, o, none⟩) (fun _ => hC) u)
theorem own_below {w w' : World} {base e n size B0 : Nat} {v : Value} {xs : List Value} (h : w.ownsRow base e size v n xs) (hb : Below B0 w w') (hB : w.heap.size ≤ B0) : w'.ownsRow base e size v n xs :=
  h.kept (row := none) ⟨hb.os, hb.tape, hb.output, hb.size, fun k hk _ => hb.block k (by omega)⟩ (by cases v.ownBlock <;> simp)
set_option maxRecDepth 100000 in
set_option maxHeartbeats 3200000 in
theorem measure_ok (base B r : Nat) (es : List Ev) (t s : ByteArray) (w : World) (hr : r < 8) (ht : t.size ≤ 64) (hes : es.length < 256) (hs : s.size ≤ 1073741824) (hR : Rnd w) (h0 : 0 < base) (h : LOG w base B es) :
    Calls Tryz.prog 60 #[.pointer (some ⟨B, 0, none⟩), .int .i64 (r : Int), .string t, .string s] w fun e w' => e = .returned (.int .i64 0) ∧ LOG w' base B (es ++ [⟨r, sumD s.data.toList, t⟩]) ∧ Below base w w' := by
  obtain ⟨hbB, v, hL, hO⟩ := h
  obtain ⟨va, vc, rfl⟩ := own_len hO
  have hBl := hL.lt
  have h00 : 0 < w.heap.size := by omega
  have c256 : w.cell? ⟨B, 256, none⟩ = some (.slice va es.length vc) := Row.cell hL (i := 256) (by omega)
  have hlen : (es.length : Int) < 256 := by omega
  have d1 : decide ((t.size : Int) > 64) = false := by simp; omega
  have d2 : decide ((es.length : Int) ≥ 256) = false := by simp; omega
  have HL := Lib.hid hL
  have HO := Lib.hid hO
  have HR := Lib.hid hR
  clear hL hO hR
  go_enter Tryz.func60, Tryz.ntmps60
  go_wp2_with (first | (go_at_call 113; refine (isreg_yes r _ hr).mono ?_; rintro e w1 ⟨rfl, rfl⟩) | (go_at_call 14; refine (sum_any s _ hs HR.out (by omega)).mono ?_; rintro e w1 ⟨rfl, hb⟩; have HB := Lib.hid hb; clear hb) | (rw [zz32]; refine wpList_store_mid rfl 31 _ _ rfl w1.heap.size 0 (arr 32 (b8 (sumD s.data.toList))) rfl rfl (by exact (Row.ofList w1 31 (arr 32 zb) zb 32 rfl).there) (by kernel_rfl) (by kernel_rfl) ?_))
  have hbs := HB.out.size
  have DR : Row ((w1.alloc (.cells (arr 32 zb) 31)).setCells w1.heap.size 0 (arr 32 (b8 (sumD s.data.toList))).toList) w1.heap.size 31 32 (b8 (sumD s.data.toList)) := Row.setWhole (Row.ofList w1 31 (arr 32 zb) zb 32 rfl)
  have hBW : Below w.heap.size w ((w1.alloc (.cells (arr 32 zb) 31)).setCells w1.heap.size 0 (arr 32 (b8 (sumD s.data.toList))).toList) := Below.setAll (by omega) _ _ _ (HB.out.alloc (by omega) _)
  have hsz : w1.heap.size < ((w1.alloc (.cells (arr 32 zb) 31)).setCells w1.heap.size 0 (arr 32 (b8 (sumD s.data.toList))).toList).heap.size := DR.lt
  generalize (w1.alloc (.cells (arr 32 zb) 31)).setCells w1.heap.size 0 (arr 32 (b8 (sumD s.data.toList))).toList = W at DR hBW hsz ⊢
  generalize hT : w1.heap.size = T at DR hsz hbs ⊢
  clear hT HB w1
  have hBlt := HL.out.lt
  have L2 : LG W B (regs es) (.slice va es.length vc) := HL.out.below hBW hBlt
  have O2 : W.ownsRow base 62 34 (.slice va es.length vc) es.length (evs es) := HO.out.kept (row := none) ⟨hBW.os, hBW.tape, hBW.output, hBW.size, fun k hk _ => hBW.block k hk⟩ (by cases hv : (Value.slice va es.length vc).ownBlock <;> simp)
  generalize hD : sumD s.data.toList = D at DR ⊢
  have hcs : (arr 32 (b8 D)).toList.length = 32 := by simp [arr]
  have hc1 : ∀ u ∈ (arr 32 (b8 D)).toList, u.oneCell' = true := fun u hu => by
    simp only [arr, List.mem_map] at hu; obtain ⟨i, _, rfl⟩ := hu; rfl
  obtain ⟨cs, hcsd⟩ : ∃ cs, cs = (arr 32 (b8 D)).toList := ⟨_, rfl⟩
  have rT : W.rangeAt T 0 cs := by
    intro j u hu
    rw [hcsd] at hu
    have hj : j < 32 := by have := (List.getElem?_eq_some_iff.1 hu).1; rw [hcs] at this; exact this
    have : u = b8 D j := by simpa [arr, hj] using hu.symm
    rw [this, Nat.zero_add, Row.cell DR hj]
  rw [← hcsd] at hcs hc1
  have hu26 := Tryz.underlying31
  have hi26 : (Tryz.prog.info? 31).map (·.size) = some cs.length := by rw [hcs]; kernel_rfl
  have e256 : W.cell? ⟨B, 256, none⟩ = some (.slice va es.length vc) := Row.cell L2 (i := 256) (by omega)
  have f256 : W.frozen? ⟨B, 256, none⟩ = false := Row.frozen L2 256
  have hne : (Value.slice va es.length vc).ownBlock ≠ some B := own_ne O2 L2 (by decide)
  have hneT : (Value.slice va es.length vc).ownBlock ≠ some T := own_ne O2 DR (by decide)
  have HO2 := Lib.hid O2
  have HL2 := Lib.hid L2
  have HDR := Lib.hid DR
  have HBW := Lib.hid hBW
  have HD := Lib.hid hD
  have Hcsd := Lib.hid hcsd
  have lB : B < W.heap.size := L2.lt
  clear O2 L2 DR hBW hD hcsd c256 HO HL
  obtain ⟨i0, hi0, hz0, hz1, hz2⟩ := info_parts Tryz.info62
  have hnews : ∀ (W' : World) (X : Nat), W'.heap[X]? = some (.cells (.int .i64 (r : Int) :: (cs ++ [.string t])).toArray 62) → ∀ j u, (Value.int .i64 (r : Int) :: (cs ++ [.string t]))[j]? = some u → W'.cell? ((⟨X, 0, none⟩ : Addr).add j) = some u := fun W' X h j u hu => World.news_of_block h j u (by simpa using hu)
  have hone : ∀ u ∈ (Value.int .i64 (r : Int) :: (cs ++ [.string t])), u.oneCell' = true := fun u hu => by
    rcases List.mem_cons.1 hu with rfl | hu
    · rfl
    rcases List.mem_append.1 hu with hu | hu
    · exact hc1 u hu
    · rw [List.mem_singleton.1 hu]; rfl
  have hnl : (Value.int .i64 (r : Int) :: (cs ++ [.string t])).length = 1 * 34 := by simp [hcs]
  have Hone := Lib.hid hone
  have Hnews := Lib.hid hnews
  have Hnl := Lib.hid hnl
  clear hone hnews hnl
  have hl0 : ldV W.drew (.pointer (some ⟨T, 0, none⟩)) = some cs.toArray := ldV_of (by simpa using rT) (by simpa using hcs)
  have hl1 : ∀ o, ldV (W.alloc o).drew (.pointer (some ⟨T, 0, none⟩)) = some cs.toArray := fun o => ldV_of (by simpa using World.rangeAt_alloc rT o) (by simpa using hcs)
  have hBn : ¬ B = W.heap.size := by omega
  have hgc : ∀ o w2, (W.alloc o).drew.grownBy w2 (Value.slice va es.length vc).ownBlock → w2.cell? ⟨B, 256, none⟩ = some (.slice va es.length vc) := fun o w2 hg => by
    have h1 := (HL2.out.alloc o).drew
    rw [World.cell?_of_block (w := (W.alloc o).drew) (hg.block B h1.lt (fun h => hne h.symm)), Row.cell h1 (i := 256) (by omega)]
    rw [lgv_ev]
  have hgf : ∀ o w2, (W.alloc o).drew.grownBy w2 (Value.slice va es.length vc).ownBlock → w2.frozen? ⟨B, 256, none⟩ = false := fun o w2 hg => by
    have h1 := (HL2.out.alloc o).drew
    rw [World.frozen?_of_block (w := (W.alloc o).drew) (hg.block B h1.lt (fun h => hne h.symm))]
    exact Row.frozen h1 256
  have HGC := Lib.hid hgc
  have HGF := Lib.hid hgf
  clear hgc hgf
  go_region_law
    ((refine step_append_lies _ (by rfl) _ _ _ (by rfl) base 62 i0 _ 34 56 Tryz.underlying59 hi0 hz0 hz1 hz2 (by kernel_rfl) (by omega) (.slice va es.length vc) es.length (evs es) (by rfl) ((HO2.out.alloc _).drew)
        ⟨W.heap.size, 0, none⟩ 1 1 (.int .i64 (r : Int) :: (cs ++ [.string t])) (by rfl) Hnl.out (Hnews.out _ _ (heap_alloc_new W _)) Hone.out (by omega) (by simp only [maxLen]; omega) (by omega) (by simp; omega) (W.heap.size + 1) (by simp) ?_; intro g cap w2 hown2 hgrow hat hlt; have hc2 := HGC.out _ _ hgrow; have hf2 := HGF.out _ _ hgrow))
  all_goals
    have L3 : LG w2 B (regs es) (.slice va es.length vc) := Row.ch (w := (W.alloc (.cells (.int .i64 (r : Int) :: (cs ++ [.string t])).toArray 62)).drew) (HL2.out.alloc _).drew (Ch.of_grown (C := fun b => (Value.slice va es.length vc).ownBlock = some b) hgrow (fun k hk _ => hk)) hne
    have D3 : Row w2 T 31 32 (b8 D) := Row.ch (w := (W.alloc (.cells (.int .i64 (r : Int) :: (cs ++ [.string t])).toArray 62)).drew) (HDR.out.alloc _).drew (Ch.of_grown (C := fun b => (Value.slice va es.length vc).ownBlock = some b) hgrow (fun k hk _ => hk)) hneT
    have B3 : Below base w w2 := Below.grown (((HBW.out.mono (by omega)).alloc (by omega) _).drew) hgrow (by simp; omega) (fun k hk => (HO2.out.lt k hk).1)
    have L4 := L3.ev (.slice (some ⟨g, 0, none⟩) (es.length + 1) cap)
    have D4 : Row (w2.setCell ⟨B, 256, none⟩ (.slice (some ⟨g, 0, none⟩) (es.length + 1) cap)) T 31 32 (b8 D) := Row.far D3 (by show T ≠ B; omega) _
    have O4 := own_set hown2 L3 (by decide) (w2.setCell ⟨B, 256, none⟩ (.slice (some ⟨g, 0, none⟩) (es.length + 1) cap)) ((Ch.refl (fun b => b = B) w2).setCell (p := ⟨B, 256, none⟩) (fun _ => rfl) _)
    have B4 : Below base w (w2.setCell ⟨B, 256, none⟩ (.slice (some ⟨g, 0, none⟩) (es.length + 1) cap)) := B3.setCell (p := ⟨B, 256, none⟩) hbB _
    clear L3 D3 B3 hc2 hf2 hgrow hat hlt hown2 hl0 hl1 e256 f256 rT
    generalize w2.setCell ⟨B, 256, none⟩ (.slice (some ⟨g, 0, none⟩) (es.length + 1) cap) = X at L4 D4 O4 B4 ⊢
    have R4 : Hid (Rnd X.drew) := HR.out.below B4.drew h0
    have hX0 : 0 < X.drew.heap.size := by have := L4.drew.lt; omega
    have rT4 : X.drew.rangeAt T 0 cs := by
      intro j u hu
      rw [Hcsd.out] at hu
      have hj : j < 32 := by have := (List.getElem?_eq_some_iff.1 hu).1; simpa [arr] using this
      have : u = b8 D j := by simpa [arr, hj] using hu.symm
      rw [this, Nat.zero_add, Row.cell D4.drew hj]
    have hl2 : ldV X.drew (.pointer (some ⟨T, 0, none⟩)) = some (arr 32 (b8 D)) := ldV_of (by rw [← Hcsd.out]; exact rT4) (by simp [arr])
    have hl3 : ldV X.drew (.pointer (some ⟨B, r * 32, none⟩)) = some (arr 32 (b8 (regs es r))) := ldV_of (LG.range (L4.drew) hr) (by simp [arr])
    have r8 : (r : Int) < 8 := by omega
    have HL4 := Lib.hid L4
    have HO4 := Lib.hid O4
    have HB4 := Lib.hid B4
    have hDB : Hid (Byt D) := by rw [← HD.out]; exact sumD_byt _
    clear L4 D4 O4 B4 rT4 hu26 hi26 HO2 HL2 HDR HBW Hone Hnews Hnl HGC HGF hne hneT hi0 hz0 hz1 hz2 hc1 hcs
    go_wp2_with fail
    go_region_law (first | (go_simp; go_at_call 114; refine (extend_any (regs es r) D _ (regs_byt _ _) hDB.out (by exact R4.out) hX0).mono ?_; rintro e w3 ⟨rfl, hb3⟩; have hst3 := stV_of (w := w3) (b := B) (o := r * 32) (cs := arr 32 (b8 (sumD (dl (regs es r) ++ dl D)))) (by simp [arr]) (LG.there (HL4.out.drew.below hb3 HL4.out.lt) r hr) (arr_one _)))
    all_goals
      have B5 : Below base w (w3.setCells B (r * 32) (arr 32 (b8 (sumD (dl (regs es r) ++ dl D)))).toList) := Below.setAll hbB _ _ _ (HB4.out.drew.trans (hb3.mono (by have := HL4.out.lt; show base ≤ X.heap.size; omega)))
      have L5 := LG.reg (HL4.out.drew.below hb3 HL4.out.lt) r hr (sumD (dl (regs es r) ++ dl D))
      have O5 := own_set (own_below (w := X.drew) HO4.out.drew hb3 (Nat.le_refl _)) (HL4.out.drew.below hb3 HL4.out.lt) (by decide) (w3.setCells B (r * 32) (arr 32 (b8 (sumD (dl (regs es r) ++ dl D)))).toList) (Ch.setAll (C := fun b => b = B) rfl _ _ _ (Ch.refl _ _))
      have hfin : Hid (LOG (w3.setCells B (r * 32) (arr 32 (b8 (sumD (dl (regs es r) ++ dl D)))).toList) base B (es ++ [⟨r, sumD s.data.toList, t⟩])) := by
        refine ⟨hbB, .slice (some ⟨g, 0, none⟩) (es.length + 1) cap, ?_, ?_⟩
        · rw [regs_snoc]
          have e : reg1 (regs es) ⟨r, sumD s.data.toList, t⟩ = fun q => if q = r then sumD (dl (regs es r) ++ dl D) else regs es q := by
            funext q
            unfold reg1
            by_cases hq : q = r
            · subst hq; rw [if_pos rfl, if_pos rfl, HD.out]
            · rw [if_neg (by show ¬ (q : Int) = (r : Int); omega), if_neg hq]
          rw [e]
          exact L5
        · rw [evs_snoc, List.length_append]
          rw [Hcsd.out] at O5
          have e : evc ⟨r, sumD s.data.toList, t⟩ = Value.int .i64 (r : Int) :: ((arr 32 (b8 D)).toList ++ [.string t]) := by rw [← HD.out]; rfl
          rw [e]
          exact O5
      clear L5 O5 hb3 hst3 hl2 hl3
      have HB5 := Lib.hid B5
      clear B5
      generalize w3.setCells B (r * 32) (arr 32 (b8 (sumD (dl (regs es r) ++ dl D)))).toList = Z at hfin HB5 ⊢
      go_wp2_with fail
      go_ret
      exact ⟨rfl, hfin.out, HB5.out⟩
end Go.Proofs.YtdinbpdpalgohaaGreatDoor.Ms
namespace Go.Proofs.YtdinbpdpalgohaaGreatDoor.Ms
open Go.RowKit

theorem or_add {a b i : Nat} (h : b < 2 ^ i) : a * 2 ^ i ||| b = a * 2 ^ i + b := by
  rw [← Nat.shiftLeft_eq, Nat.shiftLeft_add_eq_or_of_lt h]
theorem wd_add (s : List UInt8) (k : Nat) : wd s k = (bt s (4 * k) * 16777216 + bt s (4 * k + 1) * 65536 + bt s (4 * k + 2) * 256 + bt s (4 * k + 3)) % 4294967296 := by
  unfold wd or3 bt
  have l0 := (s.getD (4 * k) 0).toNat_lt
  have l1 := (s.getD (4 * k + 1) 0).toNat_lt
  have l2 := (s.getD (4 * k + 2) 0).toNat_lt
  have l3 := (s.getD (4 * k + 3) 0).toNat_lt
  generalize (s.getD (4 * k) 0).toNat = a at *
  generalize (s.getD (4 * k + 1) 0).toNat = b at *
  generalize (s.getD (4 * k + 2) 0).toNat = c at *
  generalize (s.getD (4 * k + 3) 0).toNat = d at *
  have e1 : (a : Int) * 16777216 = ((a * 16777216 : Nat) : Int) := by omega
  have e2 : (b : Int) * 65536 = ((b * 65536 : Nat) : Int) := by omega
  have e3 : (c : Int) * 256 = ((c * 256 : Nat) : Int) := by omega
  rw [e1, e2, e3, u32_or_nat _ _ (by omega) (by omega)]
  have o1 : a * 16777216 ||| b * 65536 = a * 16777216 + b * 65536 := or_add (i := 24) (by omega)
  rw [o1, u32_or_nat _ _ (by omega) (by omega)]
  have o2 : (a * 16777216 + b * 65536) ||| c * 256 = a * 16777216 + b * 65536 + c * 256 := by
    have := or_add (a := a * 256 + b) (b := c * 256) (i := 16) (by omega)
    rw [show (a * 256 + b) * 2 ^ 16 = a * 16777216 + b * 65536 by omega] at this
    exact this
  rw [o2, u32_or_nat _ _ (by omega) (by omega)]
  have o3 : (a * 16777216 + b * 65536 + c * 256) ||| d = a * 16777216 + b * 65536 + c * 256 + d := by
    have := or_add (a := a * 65536 + b * 256 + c) (b := d) (i := 8) (by omega)
    rw [show (a * 65536 + b * 256 + c) * 2 ^ 8 = a * 16777216 + b * 65536 + c * 256 by omega] at this
    exact this
  rw [o3]
  omega
theorem wdr_eq (s : ByteArray) (k : Nat) (h0 : 4 * k < s.size) (h1 : 4 * k + 1 < s.size) (h2 : 4 * k + 2 < s.size) (h3 : 4 * k + 3 < s.size) :
    ((((s[4 * k].toNat : Nat) : Int) % 4294967296 * 16777216 % 4294967296) + (((s[4 * k + 1].toNat : Nat) : Int) % 4294967296 * 65536 % 4294967296) + (((s[4 * k + 2].toNat : Nat) : Int) % 4294967296 * 256 % 4294967296) + (((s[4 * k + 3].toNat : Nat) : Int) % 4294967296)) % 4294967296 = wd s.data.toList k := by
  rw [byte_at s _ h0, byte_at s _ h1, byte_at s _ h2, byte_at s _ h3, wd_add]
  have b0 := bt_bd s.data.toList (4 * k)
  have b1 := bt_bd s.data.toList (4 * k + 1)
  have b2 := bt_bd s.data.toList (4 * k + 2)
  have b3 := bt_bd s.data.toList (4 * k + 3)
  omega

set_option maxRecDepth 100000 in
theorem stl {f : FuncId} {args : Array Value} {w : World} {v : Value} (h : Calls Tryz.prog f args w fun e w' => e = .returned v ∧ w = w') : Calls Tryz.prog f args w fun e w' => e = .returned v ∧ w' = w := h.mono fun _ _ ⟨a, b⟩ => ⟨a, b.symm⟩

/-- One operation, its run known. -/
theorem wpList_run {P : Program} {ops : Array Oper} {rest : List Oper} {o : Oper} {a : Act} {w : World} {Q : Exit → Act → World → Prop} (hg : o.guard = none) (v : Value) (w' : World)
    (h : (execOp a.eval o).run P w = .ok (.value v) w') (hK : wpList P ops Q rest (a.put o.dst v) w') : wpList P ops Q (o :: rest) a w :=
  wpList_plain hg fun K hk => by unfold Oper.wp; rw [h]; exact hk _ _ hK
set_option maxRecDepth 100000 in
theorem zz64 (w : World) : Sem.run Tryz.prog (zeroValue 184) w = .ok (.agg (arr 64 (uc fun _ => 0))) w := by kernel_rfl
set_option maxRecDepth 100000 in
set_option maxHeartbeats 1000000 in
theorem words_any (w : World) : Calls Tryz.prog 151 #[] w fun e w' => e = .returned (.agg (arr 64 (uc rc))) ∧ Below w.heap.size w w' := by
  have hT : (w.alloc (.cells (arr 64 (uc fun _ => 0)) 184)).there w.heap.size 0 64 := (Row.ofList w 184 _ _ 64 rfl).there
  have hrow := Row.setWhole (u := uc rc) (Row.ofList w 184 (arr 64 (uc fun _ => 0)) (uc fun _ => 0) 64 rfl)
  have HT := Lib.hid hT
  have HRow := Lib.hid hrow
  clear hT hrow
  go_enter Tryz.func151, Tryz.ntmps151
  iterate 3 go_step

  refine wpList_run (by rfl) (.pointer (some ⟨w.heap.size, 0, none⟩)) (w.alloc (.cells (arr 64 (uc fun _ => 0)) 184)) (by kernel_rfl) ?_
  go_wp2_with (first | (refine wpList_run (by rfl) (.agg (arr 64 (uc rc))) _ (by kernel_rfl) ?_) | (refine wpList_store_mid rfl 184 _ _ rfl w.heap.size 0 (arr 64 (uc rc)) rfl rfl (by exact HT.out) (by kernel_rfl) (by kernel_rfl) ?_))

  exact bodyPost_ret (v := .agg (arr 64 (uc rc))) (results_cell_row rfl _ _ w.heap.size 184 (arr 64 (uc rc)) (0, 0) _ rfl HRow.out.arr Tryz.underlying184 rfl (by kernel_rfl)) rfl ⟨rfl, Below.setAll (Nat.le_refl _) _ _ _ ((Below.refl _ _).alloc (Nat.le_refl _) _)⟩
end Go.Proofs.YtdinbpdpalgohaaGreatDoor.Ms
namespace Go.Proofs.YtdinbpdpalgohaaGreatDoor.Ms
open Go.RowKit
attribute [local go_sem ↓] alloc26 alloc63 alloc77 load63n store63n load77n store77n
attribute [local go_sem] stN_uc set_new

theorem Row.range0 {w : World} {B t N : Nat} {v : Nat → Value} (h : Row w B t N v) : w.rangeAt B 0 (Ms.arr N v).toList := fun j u hu => by
  have hj : j < N := by have := (List.getElem?_eq_some_iff.1 hu).1; simpa [Ms.arr] using this
  have : u = v j := by simpa [Ms.arr, hj] using hu.symm
  rw [this, Nat.zero_add, Row.cell h hj]
theorem t1_w (rk wk : Int) (x : S8) : IntKind.u32.wrap (IntKind.u32.wrap (IntKind.u32.wrap (IntKind.u32.wrap (x.h + bits BinOp.xor IntKind.u32 (bits BinOp.xor IntKind.u32 (rr 64 67108864 x.e) (rr 2048 2097152 x.e)) (rr 33554432 128 x.e)) +
    bits BinOp.xor IntKind.u32 (bits BinOp.and IntKind.u32 x.e x.f) (bits BinOp.and IntKind.u32 (bits BinOp.xor IntKind.u32 IntKind.u32.max x.e) x.g)) + rk) + wk) = t1 rk wk x := by
  simp only [IntKind.wrap_u32']; rfl
theorem t2_w (x : S8) : IntKind.u32.wrap (bits BinOp.xor IntKind.u32 (bits BinOp.xor IntKind.u32 (rr 4 1073741824 x.a) (rr 8192 524288 x.a)) (rr 4194304 1024 x.a) +
    bits BinOp.xor IntKind.u32 (bits BinOp.xor IntKind.u32 (bits BinOp.and IntKind.u32 x.a x.b) (bits BinOp.and IntKind.u32 x.a x.c)) (bits BinOp.and IntKind.u32 x.b x.c)) = t2 x := by
  simp only [IntKind.wrap_u32']; rfl
def pr (hv : Nat → Int) (x : S8) (j q : Nat) : Int := if q < j then ad3 (x.get q) (hv q) else x.get q
theorem pr_hi (hv : Nat → Int) (x : S8) (j q : Nat) (h : j ≤ q) : pr hv x j q = x.get q := if_neg (by omega)
theorem pr_lo (hv : Nat → Int) (x : S8) (j q : Nat) (h : q < j) : pr hv x j q = ad3 (x.get q) (hv q) := if_pos h
theorem pr_step (hv : Nat → Int) (x : S8) (j : Nat) : upd (pr hv x j) j (ad3 (x.get j) (hv j)) = pr hv x (j + 1) := by
  funext q
  by_cases e : q = j
  · subst e; rw [upd_hit, pr_lo _ _ _ _ (by omega)]
  · rw [upd_miss _ _ e]
    by_cases h : q < j
    · rw [pr_lo _ _ _ _ h, pr_lo _ _ _ _ (by omega)]
    · rw [pr_hi _ _ _ _ (by omega), pr_hi _ _ _ _ (by omega)]
structure BI (w wr : World) (Kb Sb : Nat) (hv f g : Nat → Int) : Prop where
  rW : Row wr (Kb + 1) 184 64 (uc f)
  rK : Row wr Kb 184 64 (uc rc)
  rH : Row wr w.heap.size 111 8 (uc hv)
  rO : Row wr (w.heap.size + 1) 111 8 (uc fun _ => 0)
  rS : Row wr Sb 111 8 (uc g)
  bel : Below w.heap.size w wr
theorem BI.drew {w wr : World} {Kb Sb : Nat} {hv f g : Nat → Int} (h : BI w wr Kb Sb hv f g) : BI w wr.drew Kb Sb hv f g := ⟨h.rW.drew, h.rK.drew, h.rH.drew, h.rO.drew, h.rS.drew, h.bel.drew⟩
theorem stp_row {W : World} {Sb t : Nat} {g : Nat → Int} (h : Row W Sb t 8 (uc g)) (y : S8) : Row (W.setCells Sb 0 [.int .u32 y.a, .int .u32 y.b, .int .u32 y.c, .int .u32 y.d, .int .u32 y.e, .int .u32 y.f, .int .u32 y.g, .int .u32 y.h]) Sb t 8 (uc y.get) := by
  refine Row.congr (Row.setAll _ 0 W _ h (by simp)) fun i hi => ?_
  match i, hi with
  | 0, _ => rfl
  | 1, _ => rfl
  | 2, _ => rfl
  | 3, _ => rfl
  | 4, _ => rfl
  | 5, _ => rfl
  | 6, _ => rfl
  | 7, _ => rfl
theorem Row.farAll {B t N : Nat} {v : Nat → Value} {b : Nat} (hb : B ≠ b) : ∀ (vs : List Value) (o : Nat) (w : World), Row w B t N v → Row (w.setCells b o vs) B t N v
  | [], _, _, h => h
  | u :: r, o, _, h => Row.farAll hb r (o + 1) _ (h.far (p := ⟨b, o, none⟩) hb u)
set_option maxRecDepth 100000 in
set_option maxHeartbeats 4000000 in
theorem block_any (hv : Nat → Int) (s : ByteArray) (w : World) (hs : s.size = 64) (hu : ∀ i, U (hv i)) :
    Calls Tryz.prog 119 #[.agg (arr 8 (uc hv)), .string s] w fun e w' => e = .returned (.agg (arr 8 (uc (blk hv s.data.toList)))) ∧ Below w.heap.size w w' := by
  have HZ := Lib.hid hs
  have HU := Lib.hid hu
  have hz1 : s.size ≤ 64 := by omega
  have hz2 : 64 ≤ s.size := by omega
  clear hs hu
  go_enter Tryz.func119, Tryz.ntmps119
  go_wp2_with (first | (go_at_call 151; refine (words_any _).mono ?_; rintro e w1 ⟨rfl, hb⟩))
  have hbs := hb.size
  simp at hbs
  have r1 : Row (w.alloc (.cells (arr 8 (uc hv)) 111)) w.heap.size 111 8 (uc hv) := Row.ofList w 111 _ _ 8 rfl
  have r2 : Row ((w.alloc (.cells (arr 8 (uc hv)) 111)).alloc (.cells (arr 8 (uc fun _ => 0)) 111)) (w.heap.size + 1) 111 8 (uc fun _ => 0) := Row.ofListAt _ _ 111 (by simp) _ _ 8 rfl
  have q1 := ((r1.alloc _).below hb (by simp; omega)).alloc (.cells (arr 64 (uc rc)) 184) |>.alloc (.cells (arr 64 (uc fun _ => 0)) 184)
  have q2 := (r2.below hb (by simp)).alloc (.cells (arr 64 (uc rc)) 184) |>.alloc (.cells (arr 64 (uc fun _ => 0)) 184)
  have q3 := (Row.ofList w1 184 (arr 64 (uc rc)) (uc rc) 64 rfl).alloc (.cells (arr 64 (uc fun _ => 0)) 184)
  have q4 : Row ((w1.alloc (.cells (arr 64 (uc rc)) 184)).alloc (.cells (arr 64 (uc fun _ => 0)) 184)) (w1.heap.size + 1) 184 64 (uc fun _ => 0) := Row.ofListAt _ _ 184 (by simp) _ _ 64 rfl
  have hbW : Below w.heap.size w ((w1.alloc (.cells (arr 64 (uc rc)) 184)).alloc (.cells (arr 64 (uc fun _ => 0)) 184)) := (((((Below.refl _ _).alloc (Nat.le_refl _) _).alloc (by simp) _).trans (hb.mono (by simp; omega))).alloc (by omega) _).alloc (by simp; omega) _
  clear hb r1 r2
  have HQ1 := Lib.hid q1
  have HQ2 := Lib.hid q2
  have HQ3 := Lib.hid q3
  have HQ4 := Lib.hid q4
  clear q1 q2 q3 q4
  generalize hG : (w1.alloc (.cells (arr 64 (uc rc)) 184)).alloc (.cells (arr 64 (uc fun _ => 0)) 184) = W at HQ1 HQ2 HQ3 HQ4 hbW ⊢
  generalize w1.heap.size = Kb at hbs HQ3 HQ4 ⊢
  clear hG w1
  have hne1 : w.heap.size ≠ Kb + 1 := by omega
  have hne2 : w.heap.size + 1 ≠ Kb + 1 := by omega
  have hne3 : Kb ≠ Kb + 1 := by omega
  have hle : w.heap.size ≤ Kb + 1 := by omega
  go_loopw [7] (fun i wr => ∃ (k : Nat) (f : Nat → Int), k ≤ 64 ∧ i = .int .i64 k ∧ Hid (Row wr (Kb + 1) 184 64 (uc f)) ∧ Hid (∀ j, j < k → f j = sw s.data.toList j) ∧ Hid (Row wr Kb 184 64 (uc rc)) ∧ Hid (Row wr w.heap.size 111 8 (uc hv)) ∧ Hid (Row wr (w.heap.size + 1) 111 8 (uc fun _ => 0)) ∧ Below w.heap.size w wr) (fun i _ => 64 - (intOf i).toNat)
  case atStart => exact ⟨0, fun _ => 0, by omega, rfl, HQ4, fun j hj => by omega, HQ3, HQ1, HQ2, hbW⟩
  case round =>
    clear HQ1 HQ2 HQ3 HQ4 hbW
    obtain ⟨k, f, hk, rfl, hrow, hf, hK, hH, hO, hbel⟩ := hrel
    have hsz := hrow.out.lt
    by_cases hlt : k < 64
    · have k1 : (k : Int) < 64 := by omega
      by_cases hlt6 : k < 16
      · have k2 : (k : Int) < 16 := by omega
        have fr := Row.frozen hrow.out k
        have ce := Row.cell hrow.out (show k < 64 by omega)
        unfold uc at ce
        have i0 : (0 : Int) ≤ 4 * k ∧ (4 : Int) * k < s.size := by omega
        have i1 : (0 : Int) ≤ 4 * k + 1 ∧ (4 : Int) * k + 1 < s.size := by omega
        have i2 : (0 : Int) ≤ 4 * k + 2 ∧ (4 : Int) * k + 2 < s.size := by omega
        have i3 : (0 : Int) ≤ 4 * k + 3 ∧ (4 : Int) * k + 3 < s.size := by omega
        have w0 : IntKind.i64.wrap (4 * (k : Int)) = 4 * k := IntWalk.i64_in _ (by omega)
        have w1 : IntKind.i64.wrap (4 * (k : Int) + 1) = 4 * k + 1 := IntWalk.i64_in _ (by omega)
        have w2 : IntKind.i64.wrap (4 * (k : Int) + 2) = 4 * k + 2 := IntWalk.i64_in _ (by omega)
        have w3 : IntKind.i64.wrap (4 * (k : Int) + 3) = 4 * k + 3 := IntWalk.i64_in _ (by omega)
        go_wp2
        go_still_tail 31, (by kernel_rfl)
        change wpList _ _ _ _ _ wr.drew
        go_wp2
        have HE := Lib.hid (wdr_eq s k (by omega) (by omega) (by omega) (by omega))
        go_roundw
        case rel =>
          have ev : ((((s[4 * k].toNat : Nat) : Int) % 4294967296 * 16777216) + (((s[4 * k + 1].toNat : Nat) : Int) % 4294967296 * 65536) + (((s[4 * k + 2].toNat : Nat) : Int) % 4294967296 * 256) + ((s[4 * k + 3].toNat : Nat) : Int)) % 4294967296 = wd s.data.toList k := by rw [← HE.out]; omega
          rw [ev]
          refine ⟨k + 1, upd f k (wd s.data.toList k), by omega, by go_num, ?_, fun j hj => ?_, hK.out.far hne3 _, hH.out.far hne1 _, hO.out.far hne2 _, (hbel.setCell hle _).drew⟩
          · have := Row.set hrow.out (i := k) (by omega) (.int .u32 (wd s.data.toList k))
            rw [uc_upd] at this
            exact this
          · by_cases e : j = k
            · subst e; rw [upd_hit, sw_last _ _ (by omega), if_pos hlt6]
            · rw [upd_miss _ _ e]; exact hf.out j (by omega)
        case measure => simp [intOf]; omega
      · have k2 : ¬ (k : Int) < 16 := by omega
        have c15 := Row.cell hrow.out (show k - 15 < 64 by omega)
        have c2 := Row.cell hrow.out (show k - 2 < 64 by omega)
        have c16 := Row.cell hrow.out (show k - 16 < 64 by omega)
        have c7 := Row.cell hrow.out (show k - 7 < 64 by omega)
        have ck := Row.cell hrow.out (show k < 64 by omega)
        have fr := Row.frozen hrow.out k
        unfold uc at c15 c2 c16 c7 ck
        rw [hf.out _ (by omega)] at c15 c2 c16 c7
        have u15 := sw_u s.data.toList (k - 15) (by omega)
        have u2 := sw_u s.data.toList (k - 2) (by omega)
        have u16 := sw_u s.data.toList (k - 16) (by omega)
        have u7 := sw_u s.data.toList (k - 7) (by omega)
        have e15 : IntKind.i64.wrap ((k : Int) - 15) = (k : Int) - 15 := IntWalk.i64_in _ (by omega)
        have e2 : IntKind.i64.wrap ((k : Int) - 2) = (k : Int) - 2 := IntWalk.i64_in _ (by omega)
        have e16 : IntKind.i64.wrap ((k : Int) - 16) = (k : Int) - 16 := IntWalk.i64_in _ (by omega)
        have e7 : IntKind.i64.wrap ((k : Int) - 7) = (k : Int) - 7 := IntWalk.i64_in _ (by omega)
        have HN := Lib.hid (sw_last s.data.toList k hlt)
        generalize sw s.data.toList (k - 15) = x15 at c15 u15 HN
        generalize sw s.data.toList (k - 2) = x2 at c2 u2 HN
        generalize sw s.data.toList (k - 16) = x16 at c16 u16 HN
        generalize sw s.data.toList (k - 7) = x7 at c7 u7 HN
        have U15 := Lib.hid u15
        have U2 := Lib.hid u2
        clear u15 u2
        have b16 : (k : Int) - 16 < 64 := by omega
        have b7 : (k : Int) - 7 < 64 := by omega
        have b7' : (7 : Int) ≤ k := by omega
        have b16' : (16 : Int) ≤ k := by omega
        go_wp2_with fail
        go_quiet (fail)
        go_wp2_with fail
        have t16 : (wr.drewN nq).cell? ⟨Kb + 1, ((k : Int) - 16).toNat, none⟩ = some (.int .u32 x16) := by rw [show ((k : Int) - 16).toNat = k - 16 by omega]; exact c16
        have t7 : (wr.drewN nq).cell? ⟨Kb + 1, ((k : Int) - 7).toNat, none⟩ = some (.int .u32 x7) := by rw [show ((k : Int) - 7).toNat = k - 7 by omega]; exact c7
        have tk : (wr.drewN nq).cell? ⟨Kb + 1, k, none⟩ = some (.int .u32 (f k)) := ck
        have tf : (wr.drewN nq).frozen? ⟨Kb + 1, k, none⟩ = false := fr
        have hrow2 := Lib.hid (hrow.out.drewN nq)
        have hK2 := Lib.hid (hK.out.drewN nq)
        have hH2 := Lib.hid (hH.out.drewN nq)
        have hO2 := Lib.hid (hO.out.drewN nq)
        have hbel2 := below_drewN hbel nq
        have hsz2 := hrow2.out.lt
        clear hrow hK hH hO hbel c15 c2 c16 c7 ck fr hsz
        generalize wr.drewN nq = W2 at t16 t7 tk tf hrow2 hK2 hH2 hO2 hbel2 hsz2 ⊢
        go_still_tail 29, (by kernel_rfl)
        still_call (stl (ref7 _ _ U15.out))
        repeat still_step
        still_call (stl (ref18 _ _ U15.out))
        repeat still_step
        still_call (stl (ref17 _ _ U2.out))
        repeat still_step
        still_call (stl (ref19 _ _ U2.out))
        repeat still_step
        refine wpStill_nil ?_
        change wpList _ _ _ _ _ W2.drew
        go_wp2_with fail
        go_roundw
        case rel =>
          have ev : sw s.data.toList k = nx x16 x15 x7 x2 := by rw [HN.out, if_neg (by omega)]
          rw [nx_eq, ← ev]
          refine ⟨k + 1, upd f k (sw s.data.toList k), by omega, by go_num, ?_, fun j hj => ?_, hK2.out.far hne3 _, hH2.out.far hne1 _, hO2.out.far hne2 _, (hbel2.setCell hle _).drew⟩
          · have := Row.set hrow2.out (i := k) (by omega) (.int .u32 (sw s.data.toList k))
            rw [uc_upd] at this
            exact this
          · by_cases e : j = k
            · subst e; rw [upd_hit]
            · rw [upd_miss _ _ e]; exact hf.out j (by omega)
        case measure => simp [intOf]; omega
    · have k1 : ¬ (k : Int) < 64 := by omega
      have hk64 : Hid (k = 64) := (by omega : k = 64)
      have hAH := Lib.hid hH.out.arr
      have hld : ldN 8 wr (.pointer (some ⟨w.heap.size, 0, none⟩)) = some (arr 8 (uc hv)) := ldN_of (Row.range0 hH.out) (by simp [arr])
      go_wp2_with fail
      have hI0 : Hid (BI w (wr.alloc (.cells (arr 8 (uc hv)) 111)) Kb wr.heap.size hv f (S8.of hv).get) := ⟨hrow.out.alloc _, hK.out.alloc _, hH.out.alloc _, hO.out.alloc _, Row.congr (Row.ofList wr 111 (arr 8 (uc hv)) (uc hv) 8 rfl) (fun i hi => by
        match i, hi with
        | 0, _ => rfl
        | 1, _ => rfl
        | 2, _ => rfl
        | 3, _ => rfl
        | 4, _ => rfl
        | 5, _ => rfl
        | 6, _ => rfl
        | 7, _ => rfl), hbel.alloc hbel.size _⟩
      have hS1 : Kb + 1 < wr.heap.size := hsz
      clear hld hAH hrow hK hH hO hbel hsz
      generalize wr.alloc (.cells (arr 8 (uc hv)) 111) = W0 at hI0 ⊢
      generalize wr.heap.size = Sb at hI0 hS1 ⊢
      have hx0 : (S8.of hv).u := ⟨HU.out 0, HU.out 1, HU.out 2, HU.out 3, HU.out 4, HU.out 5, HU.out 6, HU.out 7⟩
      have HX0 := Lib.hid hx0
      clear hx0
      have hf64 : Hid (∀ j, j < 64 → f j = sw s.data.toList j) := by have := hf.out; rw [hk64.out] at this; exact this
      have ne1 : Kb + 1 ≠ Sb := by omega
      have ne2 : Kb ≠ Sb := by omega
      have ne3 : w.heap.size ≠ Sb := by omega
      have ne4 : w.heap.size + 1 ≠ Sb := by omega
      have hleS : w.heap.size ≤ Sb := by omega
      clear hk64 hf hlt k1 hk
      go_loopw [11] (fun i wr => ∃ (k : Nat) (x : S8), k ≤ 64 ∧ i = .int .i64 k ∧ Hid (x = rnds rc (sw s.data.toList) (S8.of hv) k) ∧ Hid (BI w wr Kb Sb hv f x.get)) (fun i _ => 64 - (intOf i).toNat)
      case atStart => exact ⟨0, S8.of hv, by omega, rfl, rfl, hI0⟩
      case round =>
        clear hI0
        obtain ⟨k, x, hk, rfl, hx, hI⟩ := hrel
        by_cases hlt : k < 64
        · have k1 : (k : Int) < 64 := by omega
          have hxu : x.u := by rw [hx.out]; exact rnds_u HX0.out k
          obtain ⟨ua, ub, uc', ud, ue, uf, ug, uh⟩ := hxu
          have UA := Lib.hid ua
          have UE := Lib.hid ue
          obtain ⟨ue0, ue1⟩ := ue
          have kc := rc_u k
          have kw := sw_u s.data.toList k hlt
          have HST : Hid (rnds rc (sw s.data.toList) (S8.of hv) (k + 1) = stp (rc k) (sw s.data.toList k) x) := (by rw [hx.out]; rfl : rnds rc (sw s.data.toList) (S8.of hv) (k + 1) = stp (rc k) (sw s.data.toList k) x)
          have HCK : Hid (∀ V, BI w V Kb Sb hv f x.get → V.cell? ⟨Kb, k, none⟩ = some (.int .u32 (rc k)) ∧ V.cell? ⟨Kb + 1, k, none⟩ = some (.int .u32 (sw s.data.toList k)) ∧ V.cell? ⟨Sb, 0, none⟩ = some (.int .u32 x.a) ∧ V.cell? ⟨Sb, 1, none⟩ = some (.int .u32 x.b) ∧ V.cell? ⟨Sb, 2, none⟩ = some (.int .u32 x.c) ∧ V.cell? ⟨Sb, 3, none⟩ = some (.int .u32 x.d) ∧ V.cell? ⟨Sb, 4, none⟩ = some (.int .u32 x.e) ∧ V.cell? ⟨Sb, 5, none⟩ = some (.int .u32 x.f) ∧ V.cell? ⟨Sb, 6, none⟩ = some (.int .u32 x.g) ∧ V.cell? ⟨Sb, 7, none⟩ = some (.int .u32 x.h)) := fun V h =>
            ⟨Row.cell h.rK hlt, by rw [Row.cell h.rW hlt]; unfold uc; rw [hf64.out k hlt], Row.cell h.rS (i := 0) (by omega), Row.cell h.rS (i := 1) (by omega), Row.cell h.rS (i := 2) (by omega), Row.cell h.rS (i := 3) (by omega), Row.cell h.rS (i := 4) (by omega), Row.cell h.rS (i := 5) (by omega), Row.cell h.rS (i := 6) (by omega), Row.cell h.rS (i := 7) (by omega)⟩
          generalize rc k = rk at kc HST HCK
          generalize sw s.data.toList k = wk at kw HST HCK
          obtain ⟨ck, cw, c0, c1, c2, c3, c4, c5, c6, c7⟩ := HCK.out _ hI.out
          go_wp2_with fail
          refine wp_region_still_lit (by kernel_rfl) (by kernel_rfl) ?_
          repeat still_step
          refine wpStill_nil ?_
          change Exit.then _ _ _ _ wr.drew
          have hI1 := Lib.hid hI.out.drew
          clear ck cw c0 c1 c2 c3 c4 c5 c6 c7 hI
          generalize wr.drew = V1 at hI1 ⊢
          obtain ⟨ck, cw, c0, c1, c2, c3, c4, c5, c6, c7⟩ := HCK.out _ hI1.out
          go_wp2_with fail
          refine wp_region_still_lit (by kernel_rfl) (by kernel_rfl) ?_
          repeat still_step
          still_call (stl (ref6 _ _ UE.out))
          repeat still_step
          still_call (stl (ref11 _ _ UE.out))
          repeat still_step
          still_call (stl (ref25 _ _ UE.out))
          repeat still_step
          refine wpStill_nil ?_
          change Exit.then _ _ _ _ V1.drew
          have hI2 := Lib.hid hI1.out.drew
          clear ck cw c0 c1 c2 c3 c4 c5 c6 c7 hI1
          generalize V1.drew = V2 at hI2 ⊢
          obtain ⟨ck, cw, c0, c1, c2, c3, c4, c5, c6, c7⟩ := HCK.out _ hI2.out
          go_wp2_with fail
          refine wp_region_still_lit (by kernel_rfl) (by kernel_rfl) ?_
          repeat still_step
          still_call (stl (ref2 _ _ UA.out))
          repeat still_step
          still_call (stl (ref13 _ _ UA.out))
          repeat still_step
          still_call (stl (ref22 _ _ UA.out))
          repeat still_step
          refine wpStill_nil ?_
          change Exit.then _ _ _ _ V2.drew
          have hI3 := Lib.hid hI2.out.drew
          clear ck cw c0 c1 c2 c3 c4 c5 c6 c7 hI2
          generalize V2.drew = V3 at hI3 ⊢
          obtain ⟨ck, cw, c0, c1, c2, c3, c4, c5, c6, c7⟩ := HCK.out _ hI3.out
          rw [t1_w, t2_w]
          have hU1 : U (t1 rk wk x) := ad3_u _ _
          have hU2 : U (t2 x) := ad3_u _ _
          generalize hT1 : t1 rk wk x = T1 at hU1 ⊢
          generalize hT2 : t2 x = T2 at hU2 ⊢
          have HT1 := Lib.hid hT1
          have HT2 := Lib.hid hT2
          clear hT1 hT2
          have hst : ∀ a0 a1 a2 a3 a4 a5 a6 a7 : Int, stN 8 V3 (.pointer (some ⟨Sb, 0, none⟩)) (.agg #[.int .u32 a0, .int .u32 a1, .int .u32 a2, .int .u32 a3, .int .u32 a4, .int .u32 a5, .int .u32 a6, .int .u32 a7]) = some (Sb, 0, #[.int .u32 a0, .int .u32 a1, .int .u32 a2, .int .u32 a3, .int .u32 a4, .int .u32 a5, .int .u32 a6, .int .u32 a7]) := fun _ _ _ _ _ _ _ _ => stN_of rfl hI3.out.rS.there (by kernel_rfl)
          go_wp2_with fail
          refine ⟨⟨k + 1, stp rk wk x, by omega, by go_num, HST.out.symm, ?_⟩, by simp [intOf]; omega⟩
          have hr := stp_row hI3.out.rS (stp rk wk x)
          have e : stp rk wk x = ⟨(T1 + T2) % 4294967296, x.a, x.b, x.c, (x.d + T1) % 4294967296, x.e, x.f, x.g⟩ := by rw [← HT1.out, ← HT2.out]; rfl
          rw [e] at hr ⊢
          exact ⟨Row.farAll ne1 _ _ _ hI3.out.rW, Row.farAll ne2 _ _ _ hI3.out.rK, Row.farAll ne3 _ _ _ hI3.out.rH, Row.farAll ne4 _ _ _ hI3.out.rO, hr, Below.setAll hleS _ _ _ hI3.out.bel⟩
        · have k1 : ¬ (k : Int) < 64 := by omega
          have hk64 : Hid (k = 64) := (by omega : k = 64)
          have hxe : Hid (x = rnds rc (sw s.data.toList) (S8.of hv) 64) := by have := hx.out; rw [hk64.out] at this; exact this
          go_wp2_with fail
          obtain ⟨wq, rfl⟩ : ∃ wq : World, wq = wr := ⟨_, rfl⟩
          go_loopw [16] (fun i wr => ∃ (j : Nat), j ≤ 8 ∧ i = .int .i64 j ∧ Hid (BI w wr Kb Sb hv f (pr hv x j))) (fun i _ => 8 - (intOf i).toNat)
          case atStart => exact ⟨0, by omega, rfl, hI⟩
          case round =>
            clear hI
            obtain ⟨j, hj, rfl, hI⟩ := hrel
            by_cases hj8 : j < 8
            · have j1 : (j : Int) < 8 := by omega
              have cj := Row.cell hI.out.rS hj8
              have ch := Row.cell hI.out.rH hj8
              unfold uc at cj ch
              rw [pr_hi _ _ _ _ (Nat.le_refl _)] at cj
              have fj := Row.frozen hI.out.rS j
              go_wp2_with fail
              go_still_tail 9, (by kernel_rfl)
              change wpList _ _ _ _ _ wr.drew
              go_wp2_with fail
              refine ⟨⟨j + 1, by omega, by go_num, ?_⟩, by simp [intOf]; omega⟩
              have hr := Row.set hI.out.rS (i := j) hj8 (.int .u32 (ad3 (x.get j) (hv j)))
              rw [uc_upd, pr_step] at hr
              exact BI.drew ⟨hI.out.rW.far ne1 _, hI.out.rK.far ne2 _, hI.out.rH.far ne3 _, hI.out.rO.far ne4 _, hr, hI.out.bel.setCell hleS _⟩
            · have j1 : ¬ (j : Int) < 8 := by omega
              have hlR : ldN 8 wr (.pointer (some ⟨Sb, 0, none⟩)) = some (arr 8 (uc (pr hv x j))) := ldN_of (Row.range0 hI.out.rS) (by simp [arr])
              have hsR : stN 8 wr (.pointer (some ⟨w.heap.size + 1, 0, none⟩)) (.agg (arr 8 (uc (pr hv x j)))) = some (w.heap.size + 1, 0, arr 8 (uc (pr hv x j))) := stN_of (by simp [arr]) hI.out.rO.there (all_one _ _ (fun _ => rfl))
              have hrow := Lib.hid (Row.setWhole (u := uc (pr hv x j)) hI.out.rO)
              go_wp2_with fail
              refine bodyPost_ret (v := .agg (arr 8 (uc (pr hv x j)))) (results_cell_row rfl _ _ (w.heap.size + 1) 111 (arr 8 (uc (pr hv x j))) (0, 0) _ rfl hrow.out.arr Tryz.underlying111 rfl (by kernel_rfl)) rfl ⟨?_, Below.setAll (by omega) _ _ _ hI.out.bel⟩
              have hj : j = 8 := by omega
              rw [hj]
              have e : arr 8 (uc (pr hv x 8)) = arr 8 (uc (blk hv s.data.toList)) := by
                unfold arr
                congr 1
                apply List.map_congr_left
                intro i hi
                unfold uc blk
                rw [pr_lo _ _ _ _ (by have := List.mem_range.1 hi; omega), ← hxe.out]
                unfold ad3
                rw [Int.add_comm]
              rw [e]
end Go.Proofs.YtdinbpdpalgohaaGreatDoor.Ms
