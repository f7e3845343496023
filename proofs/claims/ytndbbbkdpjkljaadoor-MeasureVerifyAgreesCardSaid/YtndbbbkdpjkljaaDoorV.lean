/- Arrays and structs loaded, stored and made whole, as rules of the walk. No condition. -/
import Derived.Test.YtndbbbkdpjkljaaDoorE
import Derived.StillTailTactics
import Derived.Deep.DrawnRows
namespace Go.Proofs.YtndbbbkdpjkljaaDoor
open Go.RowKit

open Classical in
/-- The n cells that a pointer points to. -/
noncomputable def ldN (n : Nat) (w : World) (v : Value) : Option (Array Value) := match v with
  | .pointer (some ⟨b, o, none⟩) => if ∃ cs : Array Value, cs.size = n ∧ w.rangeAt b o cs.toList then some (arr n fun j => (w.cell? ⟨b, o + j, none⟩).getD undef) else none
  | _ => none
theorem ldN_of {n : Nat} {w : World} {b o : Nat} {cs : Array Value} (h : w.rangeAt b o cs.toList) (hs : cs.size = n) : ldN n w (.pointer (some ⟨b, o, none⟩)) = some cs := by
  have h1 : ∃ cs : Array Value, cs.size = n ∧ w.rangeAt b o cs.toList := ⟨cs, hs, h⟩
  simp only [ldN]
  rw [if_pos h1]
  congr 1
  apply Array.ext
  · simp [arr, hs]
  · intro i h1 h2
    have := h i cs[i] (by simp [h2])
    simp [arr, this]
theorem load_n (T n : Nat) (dd : TypeDesc) (hu : Tryd.prog.underlying T = some dd) (hd : dd.isRow = true) (hi : (Tryd.prog.info? T).map (·.size) = some n)
    (ρ : Operand → Value) (d : Option Tmp) (x : Operand) (ty : TypeId) (p : String) (af : Array Edge) (g : Option (Nat × Bool)) (w : World) :
    Sem.run Tryd.prog (execOp ρ { dst := d, op := .load T x, type := ty, pos := p, after := af, guard := g }) w =
      match ldN n w (ρ x) with
      | some cs => .ok (.value (.agg cs)) w
      | none => Sem.run Tryd.prog (Instr.loadAt T (ρ x) >>= fun v => pure (Next.value v)) w := by
  show Sem.run Tryd.prog (Instr.loadAt T (ρ x) >>= fun v => pure (Next.value v)) w = _
  generalize ρ x = X
  split
  · next cs h =>
    have h' := h
    unfold ldN at h'
    split at h'
    · split at h'
      · next b o hc =>
        obtain ⟨cs2, hs, hr⟩ := hc
        rw [ldN_of hr hs] at h
        injection h with h
        subst h
        rw [Sem.run_bind, run_loadAt_mid w b o T cs2.toList _ hr hu hd (by rw [Array.length_toList, hs]; exact hi)]
        simp [Result.andThen]
      · cases h'
    · cases h'
  · rfl
open Classical in
/-- Where n cells are stored to, and what. -/
noncomputable def stN (n : Nat) (w : World) (x y : Value) : Option (Nat × Nat × Array Value) := match x, y with
  | .pointer (some ⟨b, o, none⟩), .agg cs => if cs.size = n ∧ w.there b o n ∧ cs.all (·.oneCell') = true then some (b, o, cs) else none
  | _, _ => none
theorem stN_of {n : Nat} {w : World} {b o : Nat} {cs : Array Value} (hs : cs.size = n) (ht : w.there b o n) (h1 : cs.all (·.oneCell') = true) : stN n w (.pointer (some ⟨b, o, none⟩)) (.agg cs) = some (b, o, cs) := if_pos ⟨hs, ht, h1⟩
theorem store_n (T n : Nat) (hi : (Tryd.prog.info? T).map (·.size) = some n) (ρ : Operand → Value) (d : Option Tmp) (x y : Operand) (ty : TypeId) (p : String) (af : Array Edge) (g : Option (Nat × Bool)) (w : World) :
    Sem.run Tryd.prog (execOp ρ { dst := d, op := .store T x y, type := ty, pos := p, after := af, guard := g }) w =
      match stN n w (ρ x) (ρ y) with
      | some (b, o, cs) => .ok .skip (w.setCells b o cs.toList)
      | none => Sem.run Tryd.prog (Instr.storeAt T (ρ x) (ρ y) >>= fun _ => pure Next.skip) w := by
  show Sem.run Tryd.prog (Instr.storeAt T (ρ x) (ρ y) >>= fun _ => pure Next.skip) w = _
  generalize ρ x = X, ρ y = Y
  split
  · next b o cs h =>
    unfold stN at h
    split at h
    · split at h
      · next b' o' cs' hc =>
        injection h with h
        injection h with h1 h2
        injection h2 with h2 h3
        subst h1 h2 h3
        rw [Sem.run_bind, run_storeAt_mid w _ _ T _ (by rw [hc.1]; exact hc.2.1) (by rw [hc.1]; exact hi) hc.2.2]
        rfl
      · cases h
    · cases h
  · rfl

theorem all_one (n : Nat) (f : Nat → Value) (h : ∀ i, (f i).oneCell' = true) : (arr n f).all (·.oneCell') = true := by
  unfold arr
  apply all_oneCell_toArray
  intro v hv
  obtain ⟨i, _, rfl⟩ := List.mem_map.1 hv
  exact h i
theorem stN_new (n t : Nat) (w : World) (f g : Nat → Value) (h : ∀ i, (g i).oneCell' = true) : stN n (w.alloc (.cells (arr n f) t)) (.pointer (some ⟨w.heap.size, 0, none⟩)) (.agg (arr n g)) = some (w.heap.size, 0, arr n g) :=
  stN_of (by simp [arr]) ((Row.ofList w t (arr n f) f n rfl).there) (all_one n g h)
theorem stN_b8 (t : Nat) (w : World) (f : Nat → Value) (D : Nat → Int) : stN 32 (w.alloc (.cells (arr 32 f) t)) (.pointer (some ⟨w.heap.size, 0, none⟩)) (.agg (arr 32 (b8 D))) = some (w.heap.size, 0, arr 32 (b8 D)) := stN_new _ _ _ _ _ (fun _ => rfl)
theorem stN_uc (n t : Nat) (w : World) (f : Nat → Value) (D : Nat → Int) : stN n (w.alloc (.cells (arr n f) t)) (.pointer (some ⟨w.heap.size, 0, none⟩)) (.agg (arr n (uc D))) = some (w.heap.size, 0, arr n (uc D)) := stN_new _ _ _ _ _ (fun _ => rfl)
theorem setCells_heap (b : Nat) : ∀ (vs : List Value) (o : Nat) (w : World), ∃ h, w.setCells b o vs = { w with heap := h } ∧ h.size = w.heap.size ∧ ∀ k, k ≠ b → h[k]? = w.heap[k]?
  | [], _, w => ⟨w.heap, rfl, rfl, fun _ _ => rfl⟩
  | u :: r, o, w => by
    obtain ⟨h, e, hs, hk⟩ := setCells_heap b r (o + 1) (w.setCell ⟨b, o, none⟩ u)
    refine ⟨h, e, ?_, fun k hkb => ?_⟩
    · rw [hs]; simp [World.setCell]
    · rw [hk k hkb, Below.heap_setCell w ⟨b, o, none⟩ u k hkb]
theorem set_new (n t : Nat) (w : World) (f g : Nat → Value) : (w.alloc (.cells (arr n f) t)).setCells w.heap.size 0 (arr n g).toList = w.alloc (.cells (arr n g) t) := by
  obtain ⟨h, e, hs, hk⟩ := setCells_heap w.heap.size (arr n g).toList 0 (w.alloc (.cells (arr n f) t))
  have hr := (Row.setWhole (u := g) (Row.ofList w t (arr n f) f n rfl)).arr
  rw [e] at hr ⊢
  have : h = (w.alloc (.cells (arr n g) t)).heap := by
    apply Array.ext_getElem?
    intro k
    by_cases hkb : k = w.heap.size
    · subst hkb
      rw [heap_alloc_new w _]
      exact hr
    · rw [hk k hkb]
      rcases Nat.lt_or_ge k w.heap.size with hl | hl
      · rw [Below.heap_alloc w _ k hl, Below.heap_alloc w _ k hl]
      · rw [Array.getElem?_eq_none (by simp; omega), Array.getElem?_eq_none (by simp; omega)]
  rw [this]
  rfl
theorem alloc26 (ρ : Operand → Value) (d : Option Tmp) (ty : TypeId) (p : String) (af : Array Edge) (g : Option (Nat × Bool)) (w : World) :
    Sem.run Tryd.prog (execOp ρ { dst := d, op := .alloc 26, type := ty, pos := p, after := af, guard := g }) w = .ok (.value (.pointer (some ⟨w.heap.size, 0, none⟩))) (w.alloc (.cells (arr 32 zb) 26)) := by kernel_rfl
theorem alloc63 (ρ : Operand → Value) (d : Option Tmp) (ty : TypeId) (p : String) (af : Array Edge) (g : Option (Nat × Bool)) (w : World) :
    Sem.run Tryd.prog (execOp ρ { dst := d, op := .alloc 63, type := ty, pos := p, after := af, guard := g }) w = .ok (.value (.pointer (some ⟨w.heap.size, 0, none⟩))) (w.alloc (.cells (arr 8 (uc fun _ => 0)) 63)) := by kernel_rfl
theorem alloc68 (ρ : Operand → Value) (d : Option Tmp) (ty : TypeId) (p : String) (af : Array Edge) (g : Option (Nat × Bool)) (w : World) :
    Sem.run Tryd.prog (execOp ρ { dst := d, op := .alloc 68, type := ty, pos := p, after := af, guard := g }) w = .ok (.value (.pointer (some ⟨w.heap.size, 0, none⟩))) (w.alloc (.cells (arr 64 zb) 68)) := by kernel_rfl
theorem alloc77 (ρ : Operand → Value) (d : Option Tmp) (ty : TypeId) (p : String) (af : Array Edge) (g : Option (Nat × Bool)) (w : World) :
    Sem.run Tryd.prog (execOp ρ { dst := d, op := .alloc 77, type := ty, pos := p, after := af, guard := g }) w = .ok (.value (.pointer (some ⟨w.heap.size, 0, none⟩))) (w.alloc (.cells (arr 64 (uc fun _ => 0)) 77)) := by kernel_rfl
theorem load26n (ρ : Operand → Value) (d : Option Tmp) (x : Operand) (ty : TypeId) (p : String) (af : Array Edge) (g : Option (Nat × Bool)) (w : World) :
    Sem.run Tryd.prog (execOp ρ { dst := d, op := .load 26 x, type := ty, pos := p, after := af, guard := g }) w =
      match ldN 32 w (ρ x) with
      | some cs => .ok (.value (.agg cs)) w
      | none => Sem.run Tryd.prog (Instr.loadAt 26 (ρ x) >>= fun v => pure (Next.value v)) w := load_n 26 32 _ Tryd.underlying26 rfl (by kernel_rfl) ρ d x ty p af g w
theorem store26n (ρ : Operand → Value) (d : Option Tmp) (x y : Operand) (ty : TypeId) (p : String) (af : Array Edge) (g : Option (Nat × Bool)) (w : World) :
    Sem.run Tryd.prog (execOp ρ { dst := d, op := .store 26 x y, type := ty, pos := p, after := af, guard := g }) w =
      match stN 32 w (ρ x) (ρ y) with
      | some (b, o, cs) => .ok .skip (w.setCells b o cs.toList)
      | none => Sem.run Tryd.prog (Instr.storeAt 26 (ρ x) (ρ y) >>= fun _ => pure Next.skip) w := store_n 26 32 (by kernel_rfl) ρ d x y ty p af g w
theorem load63n (ρ : Operand → Value) (d : Option Tmp) (x : Operand) (ty : TypeId) (p : String) (af : Array Edge) (g : Option (Nat × Bool)) (w : World) :
    Sem.run Tryd.prog (execOp ρ { dst := d, op := .load 63 x, type := ty, pos := p, after := af, guard := g }) w =
      match ldN 8 w (ρ x) with
      | some cs => .ok (.value (.agg cs)) w
      | none => Sem.run Tryd.prog (Instr.loadAt 63 (ρ x) >>= fun v => pure (Next.value v)) w := load_n 63 8 _ Tryd.underlying63 rfl (by kernel_rfl) ρ d x ty p af g w
theorem store63n (ρ : Operand → Value) (d : Option Tmp) (x y : Operand) (ty : TypeId) (p : String) (af : Array Edge) (g : Option (Nat × Bool)) (w : World) :
    Sem.run Tryd.prog (execOp ρ { dst := d, op := .store 63 x y, type := ty, pos := p, after := af, guard := g }) w =
      match stN 8 w (ρ x) (ρ y) with
      | some (b, o, cs) => .ok .skip (w.setCells b o cs.toList)
      | none => Sem.run Tryd.prog (Instr.storeAt 63 (ρ x) (ρ y) >>= fun _ => pure Next.skip) w := store_n 63 8 (by kernel_rfl) ρ d x y ty p af g w
theorem load77n (ρ : Operand → Value) (d : Option Tmp) (x : Operand) (ty : TypeId) (p : String) (af : Array Edge) (g : Option (Nat × Bool)) (w : World) :
    Sem.run Tryd.prog (execOp ρ { dst := d, op := .load 77 x, type := ty, pos := p, after := af, guard := g }) w =
      match ldN 64 w (ρ x) with
      | some cs => .ok (.value (.agg cs)) w
      | none => Sem.run Tryd.prog (Instr.loadAt 77 (ρ x) >>= fun v => pure (Next.value v)) w := load_n 77 64 _ Tryd.underlying77 rfl (by kernel_rfl) ρ d x ty p af g w
theorem store77n (ρ : Operand → Value) (d : Option Tmp) (x y : Operand) (ty : TypeId) (p : String) (af : Array Edge) (g : Option (Nat × Bool)) (w : World) :
    Sem.run Tryd.prog (execOp ρ { dst := d, op := .store 77 x y, type := ty, pos := p, after := af, guard := g }) w =
      match stN 64 w (ρ x) (ρ y) with
      | some (b, o, cs) => .ok .skip (w.setCells b o cs.toList)
      | none => Sem.run Tryd.prog (Instr.storeAt 77 (ρ x) (ρ y) >>= fun _ => pure Next.skip) w := store_n 77 64 (by kernel_rfl) ρ d x y ty p af g w
end Go.Proofs.YtndbbbkdpjkljaaDoor
