/- A store in memory, for the laws; open, awake. No condition. -/
import Derived.Test.YtfglopkglnpokaaSH
import Derived.Test.YtfglopkglnpokaaPH
namespace Go.Proofs.Ytfglopkglnpokaa
open Go.RowKit
/-- Store and flash lie apart in memory, from N on. -/
structure AT (w : World) (N S X : Nat) (y : FLay) (D : Nat → Prop) (n : Nat) (fl : FL) (st : ST) : Prop where
  f : FW w D X y fl
  dN : ∀ k, D k → N ≤ k
  s : ∃ DS m, SW w DS S X m n st ∧ (∀ k, D k → ¬ DS k) ∧ ∀ k, DS k → N ≤ k
section
variable {w w' : World} {N S X n : Nat} {y : FLay} {D : Nat → Prop} {fl : FL} {st : ST}
theorem AT.N_le (h : AT w N S X y D n fl st) : N ≤ w.heap.size := Nat.le_trans (h.dN X h.f.dX) (Nat.le_of_lt (h.f.fin X h.f.dX))
theorem AT.below (h : AT w N S X y D n fl st) (b : Below w.heap.size w w') : AT w' N S X y D n fl st := by
  obtain ⟨DS, m, h1, h2, h3⟩ := h.s
  exact ⟨h.f.below b, h.dN, DS, m, h1.below b, h2, h3⟩
theorem AT.mono (h : AT w N S X y D n fl st) {n' : Nat} (hn : n ≤ n') : AT w N S X y D n' fl st := by
  obtain ⟨DS, m, h1, h2, h3⟩ := h.s
  exact ⟨h.f, h.dN, DS, m, h1.mono hn, h2, h3⟩
structure CV where
  kd : Int
  nm : Int
  ln : Int
  fi : UInt8
def cva (c : CV) : Value := .agg #[.int .i64 c.kd, .int .i64 c.nm, .int .i64 c.ln, .int .u8 (c.fi.toNat : Int)]
def doC (fl : FL) (st : ST) (c : CV) : Int × FL × ST := doF fl st c.kd c.nm c.ln c.fi
theorem AT.do (h : AT w N S X y D n fl st) (hb : st.blk < fl.B) (hn : n < 1000) (c : CV) :
    Calls Try.prog 13 #[fptr S, cva c] w fun e w' => e = .returned (.int .i64 (doC fl st c).1) ∧ AT w' N S X y D (n + 1) (doC fl st c).2.1 (doC fl st c).2.2 ∧ Below N w w' := by
  obtain ⟨DS, m, h1, h2, h3⟩ := h.s
  refine (do_any h1 h.f h2 hb hn c.kd c.nm c.ln c.fi).mono ?_
  rintro e w' ⟨he, k1, k2, D', m', k3, k4⟩
  have hN := h.N_le
  refine ⟨he, ⟨k1, h.dN, D', m', k4, fun i hi hD => ?_, fun i hi => ?_⟩, k2.below hN (fun i hi => hi.elim (h.dN i) (h3 i))⟩
  · rcases k3 i hD with e | e
    · exact h2 i hi e
    · have := h.f.fin i hi; omega
  · rcases k3 i hi with e | e
    · exact h3 i e
    · omega
theorem AT.gen (h : AT w N S X y D n fl st) : Calls Try.prog 12 #[fptr S] w fun e w' => e = .returned (.int .u64 st.gen) ∧ w = w' := by
  obtain ⟨DS, m, h1, h2, h3⟩ := h.s
  exact gen_any h1
theorem AT.get (h : AT w N S X y D n fl st) {k : ByteArray} (hk : k.size ≤ 1000000) : Calls Try.prog 20 #[fptr S, .string k] w fun e w' => e = .returned (.tuple #[str (getS st.V k.data.toList).1, .int .i64 (getS st.V k.data.toList).2]) ∧ w = w' := by
  obtain ⟨DS, m, h1, h2, h3⟩ := h.s
  exact get_any h1 hk
theorem AT.list (h : AT w N S X y D n fl st) (hn : n ≤ 1000) : Calls Try.prog 17 #[fptr S] w fun e w' => ∃ g, e = .returned (.slice (some ⟨g, 0, none⟩) st.V.length st.V.length) ∧ w.heap.size ≤ g ∧ VS w' (some ⟨g, 0, none⟩) st.V.length st.V ∧ Below w.heap.size w w' := by
  obtain ⟨DS, m, h1, h2, h3⟩ := h.s
  exact list_any h1 hn
/-- A store opened on a flash. -/
theorem at_open (h : FW w D X y fl) (dN : ∀ k, D k → N ≤ k) (hI : Inv fl st) : Calls Try.prog 23 #[fptr X] w fun e w' => ∃ S, e = .returned (.tuple #[fptr S, .int .i64 0]) ∧ AT w' N S X y D 32 fl st ∧ Below w.heap.size w w' := by
  have hN : N ≤ w.heap.size := Nat.le_trans (dN X h.dX) (Nat.le_of_lt (h.fin X h.dX))
  refine (open_any h).mono ?_
  rintro e w' ⟨b, ⟨c, h1, _⟩ | ⟨st', S, m, DS, h1, h2, h3, h4, _⟩⟩
  · rw [hI.opens] at h1; cases h1
  · rw [hI.opens] at h1
    injection h1 with _ h1
    injection h1 with h1
    subst h1
    exact ⟨S, h2, ⟨h.below b, dN, DS, m, h4, fun k hk hD => by have := h3 k hD; have := h.fin k hk; omega, fun k hk => Nat.le_trans hN (h3 k hk)⟩, b⟩
end
set_option maxRecDepth 100000 in
set_option maxHeartbeats 1000000 in
/-- A new flash, formatted and opened. -/
theorem open_law (w : World) (B P E : Nat) (hB : 2 ≤ B ∧ B ≤ 32) (hP : 2 ≤ P ∧ P ≤ 32) (hE : E ≤ 1048576) : Calls Try.prog 11 #[fsV B P E] w fun e w' => ∃ S X y D f1, e = .returned (.tuple #[fptr X, fptr S, .bool true]) ∧
    AT w' w.heap.size S X y D 32 f1 st0 ∧ Inv f1 st0 ∧ Same (newF B P E) f1 ∧ (∀ b, f1.er b = 0) ∧ f1.cut = false ∧ (∀ b, b ≠ 0 → blankP (pgsF f1 b) = true) ∧ Below w.heap.size w w' := by
  obtain ⟨f1, q1, q2, q3, q4, q5, q6⟩ := fmt_new (B := B) (P := P) (E := E) hB.1 hP.1
  have HQ : Hid (Inv f1 st0 ∧ Same (newF B P E) f1 ∧ (∀ b, f1.er b = 0) ∧ f1.cut = false ∧ ∀ b, b ≠ 0 → blankP (pgsF f1 b) = true) := ⟨q2, q3, q4, q5, q6⟩
  have HQ1 := Lib.hid q1
  clear q1 q2 q3 q4 q5 q6
  have z0 : (w.alloc (.cells #[.int .i64 B, .int .i64 P, .int .i64 E] 23)).cell? ⟨w.heap.size, 0, none⟩ = some (.int .i64 B) := (Row.ofList w _ #[.int .i64 B, .int .i64 P, .int .i64 E] (fsc B P E) 3 rfl).cell (i := 0) (by omega)
  have z1 : (w.alloc (.cells #[.int .i64 B, .int .i64 P, .int .i64 E] 23)).cell? ⟨w.heap.size, 1, none⟩ = some (.int .i64 P) := (Row.ofList w _ #[.int .i64 B, .int .i64 P, .int .i64 E] (fsc B P E) 3 rfl).cell (i := 1) (by omega)
  have z2 : (w.alloc (.cells #[.int .i64 B, .int .i64 P, .int .i64 E] 23)).cell? ⟨w.heap.size, 2, none⟩ = some (.int .i64 E) := (Row.ofList w _ #[.int .i64 B, .int .i64 P, .int .i64 E] (fsc B P E) 3 rfl).cell (i := 2) (by omega)
  have HB0 : Hid (Below w.heap.size w (w.alloc (.cells #[.int .i64 B, .int .i64 P, .int .i64 E] 23))) := (Below.refl _ _).alloc (Nat.le_refl _) _
  have HNW := Lib.hid (new_any (w.alloc (.cells #[.int .i64 B, .int .i64 P, .int .i64 E] 23)) B P E ⟨by omega, by omega⟩ ⟨by omega, by omega⟩ hE)
  go_enter Try.func11, Try.ntmps11
  go_wp2_with fail
  refine HNW.out.mono ?_
  rintro e w1 ⟨X, y, rfl, hf, b1⟩
  have HF1 := Lib.hid hf
  have HB1 : Hid (Below w.heap.size w w1) := HB0.out.trans (b1.mono HB0.out.size)
  have HFM : Hid (Calls Try.prog 28 #[fptr X] w1 fun e w' => e = .returned (.int .i64 0) ∧ FW w' (fun k => (w.alloc (.cells #[.int .i64 B, .int .i64 P, .int .i64 E] 23)).heap.size ≤ k ∧ k < w1.heap.size) X y f1 ∧ Ch (fun k => (w.alloc (.cells #[.int .i64 B, .int .i64 P, .int .i64 E] 23)).heap.size ≤ k ∧ k < w1.heap.size) w1 w') := by
    have := format_any hf
    rw [HQ1.out] at this
    exact this
  have hsz : w.heap.size ≤ (w.alloc (.cells #[.int .i64 B, .int .i64 P, .int .i64 E] 23)).heap.size := by simp
  clear hf b1 z0 z1 z2 HNW HB0
  generalize (w.alloc (.cells #[.int .i64 B, .int .i64 P, .int .i64 E] 23)).heap.size = w0 at *
  go_wp2_with fail
  refine HFM.out.mono ?_
  rintro e w2 ⟨rfl, hf, c2⟩
  have HOP := Lib.hid (at_open (N := w.heap.size) hf (fun k hk => Nat.le_trans hsz hk.1) HQ.out.1)
  have HB2 : Hid (Below w.heap.size w w2) := HB1.out.trans (c2.below HB1.out.size (fun i hi => Nat.le_trans hsz hi.1))
  clear hf c2 HFM HB1
  go_wp2_with fail
  refine HOP.out.mono ?_
  rintro e w3 ⟨S, rfl, ha, b3⟩
  have HA := Lib.hid ha
  have HB3 : Hid (Below w.heap.size w w3) := HB2.out.trans (b3.mono HB2.out.size)
  clear ha b3 HOP HB2
  go_wp2_with fail
  go_ret3
  exact ⟨S, X, y, _, f1, rfl, HA.out, HQ.out.1, HQ.out.2.1, HQ.out.2.2.1, HQ.out.2.2.2.1, HQ.out.2.2.2.2, HB3.out⟩
end Go.Proofs.Ytfglopkglnpokaa
