/- A store in memory; Generation, Get. No condition but that it lies there. -/
import Derived.Test.YtfglopkglnpokaaP
namespace Go.Proofs.Ytfglopkglnpokaa
open Go.RowKit
structure ST where
  V : Vars
  blk : Nat
  gen : Nat
  nxt : Nat
  clo : Bool
def stc (st : ST) (X m j : Nat) : Value := if j = 0 then fptr X else if j = 1 then .map (some m) else if j = 2 then .int .i64 st.blk else if j = 3 then .int .u64 st.gen else if j = 4 then .int .i64 st.nxt else .bool st.clo
/-- The store lies at S; its flash is at X, its variables in map m. -/
structure SW (w : World) (D : Nat → Prop) (S X m n : Nat) (st : ST) : Prop where
  top : Rg w S 68 6 (stc st X m)
  map : SM w m n st.V
  dS : D S
  dm : D m
  fin : ∀ k, D k → k < w.heap.size
  srt : Srt st.V
  hv : ∀ p ∈ st.V, p.1.length ≤ 24 ∧ p.2.length ≤ 128
  hg : st.gen ≤ 18446744073709551615
  hn : st.nxt ≤ 1000
  hb : st.blk ≤ 1000
section
variable {w w' : World} {D : Nat → Prop} {S X m n : Nat} {st : ST}
theorem SW.ch {C : Nat → Prop} (h : SW w D S X m n st) (c : Ch C w w') (hC : ∀ k, D k → ¬ C k) : SW w' D S X m n st :=
  { h with top := h.top.ch c (hC _ h.dS), map := h.map.ch c (hC _ h.dm), fin := fun k hk => Nat.lt_of_lt_of_le (h.fin k hk) c.size }
theorem SW.below (h : SW w D S X m n st) (c : Below w.heap.size w w') : SW w' D S X m n st := h.ch (Ch.of_below c (fun _ => False)) (fun _ _ h => h)
theorem SW.mono (h : SW w D S X m n st) {n' : Nat} (hn : n ≤ n') : SW w D S X m n' st := { h with map := h.map.mono hn }
theorem SW.c0 (h : SW w D S X m n st) : w.cell? ⟨S, 0, none⟩ = some (fptr X) := h.top.cell (i := 0) (by omega)
theorem SW.c1 (h : SW w D S X m n st) : w.cell? ⟨S, 1, none⟩ = some (.map (some m)) := h.top.cell (i := 1) (by omega)
theorem SW.c2 (h : SW w D S X m n st) : w.cell? ⟨S, 2, none⟩ = some (.int .i64 st.blk) := h.top.cell (i := 2) (by omega)
theorem SW.c3 (h : SW w D S X m n st) : w.cell? ⟨S, 3, none⟩ = some (.int .u64 st.gen) := h.top.cell (i := 3) (by omega)
theorem SW.c4 (h : SW w D S X m n st) : w.cell? ⟨S, 4, none⟩ = some (.int .i64 st.nxt) := h.top.cell (i := 4) (by omega)
theorem SW.c5 (h : SW w D S X m n st) : w.cell? ⟨S, 5, none⟩ = some (.bool st.clo) := h.top.cell (i := 5) (by omega)
/-- A map is no row. -/
theorem SM.ne {w : World} {b n : Nat} {V : Vars} (h : SM w b n V) {B t N : Nat} {v : Nat → Value} (hr : Rg w B t N v) : b ≠ B := fun e => by
  obtain ⟨D, ⟨es, clock, h1, _⟩, _⟩ := h
  obtain ⟨cs, h2, _⟩ := hr
  rw [e, h2] at h1
  cases h1
theorem SW.mS (h : SW w D S X m n st) : m ≠ S := h.map.ne h.top
theorem gen_any (h : SW w D S X m n st) : Calls Try.prog 12 #[fptr S] w fun e w' => e = .returned (.int .u64 st.gen) ∧ w = w' := by
  have c3 := h.c3
  clear h
  go_enter Try.func12, Try.ntmps12
  go_wp2_with fail
  go_ret
  exact ⟨rfl, rfl⟩
def getS (V : Vars) (k : Str) : Str × Int := match getV V k with
  | some v => (v, 0)
  | none => ([], 6)
theorem get_any (h : SW w D S X m n st) {k : ByteArray} (hk : k.size ≤ 1000000) : Calls Try.prog 20 #[fptr S, .string k] w fun e w' => e = .returned (.tuple #[str (getS st.V k.data.toList).1, .int .i64 (getS st.V k.data.toList).2]) ∧ w = w' := by
  have c1 := h.c1
  have hl := h.map.look (s := k) (by unfold maxLen; omega)
  unfold getS
  clear h
  rcases hg : getV st.V k.data.toList with _ | v
  · rw [hg] at hl
    have hl2 : (Instr.lookup 66 (.map (some m)) (.string k) true).run Try.prog w = .ok (.tuple #[.string ⟨#[]⟩, .bool false]) w := hl
    clear hl
    go_enter Try.func20, Try.ntmps20
    go_wp2_with fail
    go_ret2
    exact ⟨rfl, rfl⟩
  · rw [hg] at hl
    obtain ⟨vb, hvb⟩ : ∃ vb : ByteArray, str v = .string vb := ⟨_, rfl⟩
    have hl2 : (Instr.lookup 66 (.map (some m)) (.string k) true).run Try.prog w = .ok (.tuple #[.string vb, .bool true]) w := by
      rw [← hvb]; exact hl
    show Calls Try.prog 20 #[fptr S, .string k] w fun e w' => e = .returned (.tuple #[str v, .int .i64 0]) ∧ w = w'
    rw [hvb]
    clear hl hvb
    go_enter Try.func20, Try.ntmps20
    go_wp2_with fail
    go_ret2
    exact ⟨rfl, rfl⟩
end
end Go.Proofs.Ytfglopkglnpokaa
