/- Variables in memory: a map from strings to strings, sorted. No condition. -/
import Derived.Test.YtfglopkglnpokaaN
import Derived.Test.YtfglopkglnpokaaSm
import Derived.Maps.OwnSet
namespace Go.Proofs.Ytfglopkglnpokaa
open Go.RowKit
abbrev Vars := List (Str × Str)
def getV (V : Vars) (k : Str) : Option Str := (V.find? fun p => p.1 == k).map (·.2)
def setV : Vars → Str → Str → Vars
  | [], k, v => [(k, v)]
  | p :: r, k, v => if k < p.1 then (k, v) :: p :: r else if k = p.1 then (k, v) :: r else p :: setV r k v
def delV (V : Vars) (k : Str) : Vars := V.filter fun p => !(p.1 == k)
def Srt (V : Vars) : Prop := V.Pairwise fun a b => a.1 < b.1
theorem getV_set (V : Vars) (k v j : Str) : getV (setV V k v) j = if j = k then some v else getV V j := by
  induction V with
  | nil =>
    by_cases e : j = k
    · subst e; simp [getV, setV]
    · have : (k == j) = false := by simpa using fun h => e h.symm
      simp [getV, setV, this, e]
  | cons p r ih =>
    unfold setV
    split
    · by_cases e : j = k
      · subst e; simp [getV]
      · have : (k == j) = false := by simpa using fun h => e h.symm
        simp [getV, this, e]
    · split
      · rename_i h1 h2
        by_cases e : j = k
        · subst e; simp [getV]
        · have h3 : (k == j) = false := by simpa using fun h => e h.symm
          have h4 : (p.1 == j) = false := by rw [← h2]; exact h3
          simp [getV, h3, h4, e]
      · rename_i h1 h2
        by_cases e : p.1 = j
        · have : ¬ j = k := fun h => h2 (by rw [← h, e])
          have h5 : (p.1 == j) = true := by simpa using e
          simp [getV, h5, this]
        · have h5 : (p.1 == j) = false := by simpa using e
          have h6 : getV (p :: setV r k v) j = getV (setV r k v) j := by simp [getV, h5]
          have h7 : getV (p :: r) j = getV r j := by simp [getV, h5]
          rw [h6, h7, ih]
theorem getV_del (V : Vars) (k j : Str) : getV (delV V k) j = if j = k then none else getV V j := by
  induction V with
  | nil => simp [getV, delV]
  | cons p r ih =>
    unfold delV at *
    by_cases e : p.1 = k
    · have h1 : (p.1 == k) = true := by simpa using e
      rw [List.filter_cons, h1]
      simp only [Bool.not_true, Bool.false_eq_true, if_false]
      rw [ih]
      by_cases e2 : j = k
      · rw [if_pos e2, if_pos e2]
      · have h5 : (p.1 == j) = false := by rw [e]; simpa using fun h => e2 h.symm
        rw [if_neg e2, if_neg e2]
        simp [getV, h5]
    · have h1 : (p.1 == k) = false := by simpa using e
      rw [List.filter_cons, h1]
      simp only [Bool.not_false, if_true]
      by_cases e3 : p.1 = j
      · have h5 : (p.1 == j) = true := by simpa using e3
        have e4 : ¬ j = k := fun h => e (by rw [e3, h])
        simp [getV, h5, e4]
      · have h5 : (p.1 == j) = false := by simpa using e3
        have h6 : ∀ l : Vars, getV (p :: l) j = getV l j := fun l => by simp [getV, h5]
        rw [h6, h6, ih]
theorem mem_setV {V : Vars} {k v : Str} {q : Str × Str} (h : q ∈ setV V k v) : q = (k, v) ∨ q ∈ V := by
  induction V with
  | nil => left; simpa [setV] using h
  | cons p r ih =>
    unfold setV at h
    split at h
    · rcases List.mem_cons.1 h with h | h
      · exact .inl h
      · exact .inr h
    · split at h
      · rcases List.mem_cons.1 h with h | h
        · exact .inl h
        · exact .inr (List.mem_cons_of_mem _ h)
      · rcases List.mem_cons.1 h with h | h
        · exact .inr (by rw [h]; simp)
        · exact (ih h).imp id (List.mem_cons_of_mem _)
theorem lt_tri (a b : Str) (h1 : ¬ a < b) (h2 : ¬ a = b) : b < a := by
  rcases List.le_total a b with h | h
  · exact absurd (List.le_antisymm h (List.not_lt.1 h1)) h2
  · rcases Classical.em (b < a) with h3 | h3
    · exact h3
    · exact absurd (List.le_antisymm (List.not_lt.1 h3) h) h2
theorem Srt.set {V : Vars} (h : Srt V) (k v : Str) : Srt (setV V k v) := by
  induction V with
  | nil => simp [setV, Srt]
  | cons p r ih =>
    have h' := List.pairwise_cons.1 h
    unfold setV
    split
    · rename_i h1
      refine List.pairwise_cons.2 ⟨fun q hq => ?_, h⟩
      rcases List.mem_cons.1 hq with e | e
      · rw [e]; exact h1
      · exact List.lt_trans h1 (h'.1 q e)
    · split
      · rename_i h1 h2
        refine List.pairwise_cons.2 ⟨fun q hq => ?_, h'.2⟩
        show k < q.1
        rw [h2]; exact h'.1 q hq
      · rename_i h1 h2
        refine List.pairwise_cons.2 ⟨fun q hq => ?_, ih h'.2⟩
        rcases mem_setV hq with e | e
        · rw [e]; exact lt_tri k p.1 h1 h2
        · exact h'.1 q e
theorem Srt.del {V : Vars} (h : Srt V) (k : Str) : Srt (delV V k) := h.filter _
theorem Srt.nodup {V : Vars} (h : Srt V) : (V.map (·.1)).Nodup := by
  refine List.pairwise_map.2 (h.imp fun {a b} hab e => ?_)
  rw [e] at hab
  exact List.lt_irrefl _ hab
theorem getV_mem {V : Vars} (h : Srt V) {q : Str × Str} (hq : q ∈ V) : getV V q.1 = some q.2 := by
  induction V with
  | nil => cases hq
  | cons p r ih =>
    have h' := List.pairwise_cons.1 h
    rcases List.mem_cons.1 hq with e | e
    · rw [← e]; simp [getV]
    · have : (p.1 == q.1) = false := by
        rw [beq_eq_false_iff_ne]; intro e2
        have := h'.1 q e
        rw [e2] at this
        exact List.lt_irrefl _ this
      have h6 : getV (p :: r) q.1 = getV r q.1 := by simp [getV, this]
      rw [h6]; exact ih h'.2 e
theorem getV_isSome {V : Vars} {k : Str} : (getV V k).isSome = true ↔ k ∈ V.map (·.1) := by
  unfold getV
  rw [Option.isSome_map, List.find?_isSome]
  simp
def RVs (v : Value) : Option (DataW Value × List MemPlace) := some (.held v, [])
/-- Block b is a map that holds these variables. -/
def SM (w : World) (b n : Nat) (V : Vars) : Prop :=
  ∃ D : DataW Value, w.ownsMap Try.prog 9 RVs b n D ∧ (∀ k, Maps.has D (.string k) = (getV V k).isSome) ∧ ∀ k, D.atKey (.string k) (.held (str [])) = .held (str ((getV V k).getD []))
theorem kS : Maps.Keyed Try.prog 9 := Maps.string_keyed Try.underlying9
theorem zS (w : World) : (zeroValue 9).run Try.prog w = .ok (str []) w := by kernel_rfl
section
variable {w w' : World} {b n : Nat} {V : Vars}
theorem SM.lt (h : SM w b n V) : b < w.heap.size := by obtain ⟨D, h, _⟩ := h; exact h.lt
theorem SM.mono (h : SM w b n V) {n' : Nat} (hn : n ≤ n') : SM w b n' V := by
  obtain ⟨D, h, g⟩ := h
  exact ⟨D, h.mono hn, g⟩
theorem SM.ch {C : Nat → Prop} (h : SM w b n V) (c : Ch C w w') (hb : ¬ C b) : SM w' b n V := by
  have hlt := h.lt
  obtain ⟨D, ⟨es, clock, h1, r⟩, g⟩ := h
  exact ⟨D, ⟨es, clock, (c.block b hlt hb).trans h1, r⟩, g⟩
theorem SM.made (w : World) : SM (w.alloc (.map #[] 0)) w.heap.size 0 [] :=
  ⟨_, World.ownsMap_made w Try.prog 9 RVs, fun _ => rfl, fun _ => rfl⟩
theorem SM.look (h : SM w b n V) {s : ByteArray} (hs : s.size ≤ maxLen) : (Instr.lookup 66 (.map (some b)) (.string s) true).run Try.prog w = .ok (.tuple #[str ((getV V s.data.toList).getD []), .bool (getV V s.data.toList).isSome]) w := by
  obtain ⟨D, h, g1, g2⟩ := h
  obtain ⟨v, ps, hr, hv⟩ := h.look_ok kS Try.underlying66 (zS w) (zd := .held (str [])) (zp := []) rfl (WideMaps.keyOf_string_mk Try.underlying9 hs)
  rw [g2] at hv
  simp only [RVs, Option.some.injEq, Prod.mk.injEq, DataW.held.injEq] at hv
  rw [hr, g1, hv.1]
theorem SM.look1 (h : SM w b n V) {s : ByteArray} (hs : s.size ≤ maxLen) : (Instr.lookup 66 (.map (some b)) (.string s) false).run Try.prog w = .ok (str ((getV V s.data.toList).getD [])) w := by
  obtain ⟨D, h, g1, g2⟩ := h
  obtain ⟨v, ps, hr, hv⟩ := h.lookup kS Try.underlying66 (zS w) (zd := .held (str [])) (zp := []) rfl (WideMaps.keyOf_string_mk Try.underlying9 hs)
  rw [g2] at hv
  simp only [RVs, Option.some.injEq, Prod.mk.injEq, DataW.held.injEq] at hv
  rw [hr, hv.1]
theorem SM.store (h : SM w b n V) (hn : n < 1000000) {s : ByteArray} (hs : s.size ≤ maxLen) (v : ByteArray) :
    ∃ w', (Instr.mapUpdate 66 (.map (some b)) (.string s) (.string v)).run Try.prog w = .ok () w' ∧ SM w' b (n + 1) (setV V s.data.toList v.data.toList) ∧ Ch (fun x => x = b) w w' := by
  obtain ⟨D, h, g1, g2⟩ := h
  have hm := h.isMap
  obtain ⟨w', hr, h', hg⟩ := h.store kS Try.underlying66 (show n < maxLen by unfold maxLen; omega) (WideMaps.keyOf_string_mk Try.underlying9 hs) (val := .string v) (d := .held (.string v)) (ps := []) rfl
  refine ⟨w', hr, ⟨_, h', fun j => ?_, fun j => ?_⟩, Ch.of_grown hg.grown (fun x hx _ => (Option.some.inj hx).symm)⟩
  · rw [getV_set]
    by_cases e : j = s.data.toList
    · subst e
      rw [if_pos rfl, Maps.has_put_same hm (show WideAt.IsKeyLit (Lit.string s.data.toList) from trivial)]; rfl
    · rw [if_neg e, Maps.has_put_other (by intro h; injection h with h; exact e h), g1]
  · rw [getV_set]
    by_cases e : j = s.data.toList
    · subst e
      rw [if_pos rfl, Maps.atKey_put_same hm (show WideAt.IsKeyLit (Lit.string s.data.toList) from trivial)]; rfl
    · rw [if_neg e, Maps.atKey_put_other (by intro h; injection h with h; exact e h), g2]
theorem SM.drop (h : SM w b n V) {s : ByteArray} (hs : s.size ≤ maxLen) (ty : TypeId) :
    ∃ w', (Builtin.delete_ #[66, 9] ty #[.map (some b), .string s]).run Try.prog w = .ok (.tuple #[]) w' ∧ SM w' b n (delV V s.data.toList) ∧ Ch (fun x => x = b) w w' := by
  obtain ⟨D, h, g1, g2⟩ := h
  obtain ⟨w', hr, h', hg⟩ := h.drop kS Try.underlying66 (WideMaps.keyOf_string_mk Try.underlying9 hs) ty
  refine ⟨w', hr, ⟨_, h', fun j => ?_, fun j => ?_⟩, Ch.of_grown hg.grown (fun x hx _ => (Option.some.inj hx).symm)⟩
  · rw [getV_del]
    by_cases e : j = s.data.toList
    · subst e; rw [if_pos rfl, Maps.has_del_same]; rfl
    · rw [if_neg e, Maps.has_del_other (by intro h; injection h with h; exact e h), g1]
  · rw [getV_del]
    by_cases e : j = s.data.toList
    · subst e; rw [if_pos rfl, Maps.atKey_del_same]; rfl
    · rw [if_neg e, Maps.atKey_del_other (by intro h; injection h with h; exact e h), g2]
theorem SM.clone (h : SM w b n V) : Calls Try.prog 68 #[.map (some b)] w fun e w' => e = .returned (.map (some w.heap.size)) ∧ SM w' w.heap.size n V ∧ Below w.heap.size w w' := by
  obtain ⟨D, h, g⟩ := h
  exact (AnyW.maps_Clone_owns Try.cloneM 9 RVs b n D w h).mono fun e w' ⟨he, h1, _, h3⟩ => ⟨he, ⟨D, h1, g⟩, h3⟩
end
end Go.Proofs.Ytfglopkglnpokaa
