/- How a flash lies in memory; its small operations. No condition but that it lies so. -/
import Derived.Test.YtfglopkglnpokaaB
namespace Go.Proofs.Ytfglopkglnpokaa
open Go.RowKit
abbrev str (l : Str) : Value := .string ⟨l.toArray⟩
/-- The first N cells of a row. -/
def Rg (w : World) (B t N : Nat) (v : Nat → Value) : Prop := ∃ cs : Array Value, w.heap[B]? = some (.cells cs t (0, 0)) ∧ ∀ i, i < N → cs[i]? = some (v i)
section
variable {w w' : World} {B t N : Nat} {v v' : Nat → Value}
theorem Rg.lt (h : Rg w B t N v) : B < w.heap.size := by obtain ⟨_, hh, _⟩ := h; exact heap_lt hh
theorem Rg.cell (h : Rg w B t N v) {i : Nat} (hi : i < N) : w.cell? ⟨B, i, none⟩ = some (v i) := by
  obtain ⟨cs, hh, h2⟩ := h
  rw [cell_of_row _ _ _ _ _ _ hh, h2 i hi]
theorem Rg.frozen (h : Rg w B t N v) (i : Nat) : w.frozen? ⟨B, i, none⟩ = false := by
  obtain ⟨cs, hh, _⟩ := h
  simp [World.frozen?, hh]
theorem Rg.congr (h : Rg w B t N v) (e : ∀ i, i < N → v i = v' i) : Rg w B t N v' := by
  obtain ⟨cs, hh, h2⟩ := h
  exact ⟨cs, hh, fun i hi => by rw [h2 i hi, e i hi]⟩
theorem Rg.set (h : Rg w B t N v) {i : Nat} (hi : i < N) (u : Value) : Rg (w.setCell ⟨B, i, none⟩ u) B t N (upd v i u) := by
  obtain ⟨cs, hh, h2⟩ := h
  refine ⟨_, heap_set hh u, fun j hj => ?_⟩
  by_cases e : j = i
  · subst e
    rw [upd_hit, set_hit (Array.getElem?_eq_some_iff.1 (h2 j hj)).1]
  · rw [upd_miss _ _ e, set_miss (Ne.symm e)]
    exact h2 j hj
theorem Rg.ch {C : Nat → Prop} (h : Rg w B t N v) (k : Ch C w w') (hB : ¬ C B) : Rg w' B t N v := by
  have hl := h.lt
  obtain ⟨cs, hh, h2⟩ := h
  exact ⟨cs, (k.block B hl hB).trans hh, h2⟩
theorem Rg.far (h : Rg w B t N v) {p : Addr} (hp : p.block ≠ B) (u : Value) : Rg (w.setCell p u) B t N v :=
  h.ch ((Ch.refl (fun k => k = p.block) w).setCell (fun _ => rfl) u) (fun e => hp e.symm)
theorem Rg.ty {t' N' : Nat} {v' : Nat → Value} {B' : Nat} (h : Rg w B t N v) (h' : Rg w B' t' N' v') (ht : t ≠ t') : B ≠ B' := fun e => by
  obtain ⟨cs, hh, _⟩ := h
  obtain ⟨cs', hh', _⟩ := h'
  rw [e, hh'] at hh
  injection hh with hh
  injection hh with _ h2 _
  exact ht h2.symm
end
structure FL where
  B : Nat
  P : Nat
  E : Nat
  pg : Nat → Nat → Str
  er : Nat → Nat
  off : Bool
  cut : Bool
  left : Int
  torn : Nat
structure FLay where
  gb : Nat
  cb : Nat
  g : Nat → Nat
  cp : Nat → Nat
def flc (fl : FL) (y : FLay) (j : Nat) : Value := if j = 0 then .int .i64 fl.B else if j = 1 then .int .i64 fl.P else if j = 2 then .int .i64 fl.E else if j = 3 then .slice (some ⟨y.gb, 0, none⟩) fl.B y.cb else if j = 4 then .bool fl.off else if j = 5 then .bool fl.cut else if j = 6 then .int .i64 fl.left else .int .u64 fl.torn
def blc (fl : FL) (y : FLay) (j : Nat) : Value := if j % 2 = 0 then .slice (some ⟨y.g (j / 2), 0, none⟩) fl.P (y.cp (j / 2)) else .int .i64 (fl.er (j / 2))
def pgc (fl : FL) (b p : Nat) : Value := str (fl.pg b p)
/-- The flash lies at X; all its blocks meet D. -/
structure FW (w : World) (D : Nat → Prop) (X : Nat) (y : FLay) (fl : FL) : Prop where
  top : Rg w X 76 8 (flc fl y)
  blk : Rg w y.gb 73 (fl.B * 2) (blc fl y)
  pag : ∀ b, b < fl.B → Rg w (y.g b) 9 fl.P (pgc fl b)
  inj : ∀ b c, b < fl.B → c < fl.B → y.g b = y.g c → b = c
  dX : D X
  db : D y.gb
  dg : ∀ b, b < fl.B → D (y.g b)
  cb : fl.B ≤ y.cb ∧ y.cb ≤ maxLen
  cp : ∀ b, b < fl.B → fl.P ≤ y.cp b ∧ y.cp b ≤ maxLen
  hB : 1 ≤ fl.B ∧ fl.B ≤ 32
  hP : 1 ≤ fl.P ∧ fl.P ≤ 32
  hE : fl.E ≤ 1048576
  her : ∀ b, b < fl.B → fl.er b ≤ fl.E
  hl : -9223372036854775808 ≤ fl.left ∧ fl.left ≤ 9223372036854775807
  ht : fl.torn ≤ 18446744073709551615
  len : ∀ b p, b < fl.B → p < fl.P → (fl.pg b p).length = 64
  fin : ∀ k, D k → k < w.heap.size
section
variable {w w' : World} {D : Nat → Prop} {X : Nat} {y : FLay} {fl : FL}
theorem FW.ch {C : Nat → Prop} (h : FW w D X y fl) (c : Ch C w w') (hC : ∀ k, D k → ¬ C k) : FW w' D X y fl :=
  { h with top := h.top.ch c (hC _ h.dX), blk := h.blk.ch c (hC _ h.db), pag := fun b hb => (h.pag b hb).ch c (hC _ (h.dg b hb)), fin := fun k hk => Nat.lt_of_lt_of_le (h.fin k hk) c.size }
theorem FW.below (h : FW w D X y fl) (c : Below w.heap.size w w') : FW w' D X y fl := h.ch (Ch.of_below c (fun _ => False)) (fun _ _ h => h)
theorem FW.drew (h : FW w D X y fl) : FW w.drew D X y fl := h.below ((Below.refl _ _).drew)
theorem FW.Xb (h : FW w D X y fl) : X ≠ y.gb := h.top.ty h.blk (by decide)
theorem FW.Xg (h : FW w D X y fl) {b : Nat} (hb : b < fl.B) : X ≠ y.g b := h.top.ty (h.pag b hb) (by decide)
theorem FW.bg (h : FW w D X y fl) {b : Nat} (hb : b < fl.B) : y.gb ≠ y.g b := h.blk.ty (h.pag b hb) (by decide)
/-- A field of the flash's own row. -/
theorem FW.fld (h : FW w D X y fl) {fl' : FL} {j : Nat} {u : Value} (hj : j < 8) (e : ∀ k, k < 8 → upd (flc fl y) j u k = flc fl' y k) (eB : fl'.B = fl.B) (eP : fl'.P = fl.P) (eE : fl'.E = fl.E) (ep : fl'.pg = fl.pg) (ee : fl'.er = fl.er)
    (hl : -9223372036854775808 ≤ fl'.left ∧ fl'.left ≤ 9223372036854775807) (ht : fl'.torn ≤ 18446744073709551615) : FW (w.setCell ⟨X, j, none⟩ u) D X y fl' := by
  refine ⟨(h.top.set hj u).congr e, ?_, fun b hb => ?_, fun b c hb hc => ?_, h.dX, h.db, fun b hb => h.dg b (by omega), by rw [eB]; exact h.cb, fun b hb => by rw [eP]; exact h.cp b (by omega), by rw [eB]; exact h.hB, by rw [eP]; exact h.hP, by rw [eE]; exact h.hE, fun b hb => by rw [ee, eE]; exact h.her b (by omega), hl, ht, fun b p hb hp => by rw [ep]; exact h.len b p (by omega) (by omega), fun k hk => by simpa [World.setCell] using h.fin k hk⟩
  · rw [eB]
    exact (h.blk.far (p := ⟨X, j, none⟩) h.Xb u).congr (fun i _ => by unfold blc; rw [eP, ee])
  · rw [eP]
    exact ((h.pag b (by omega)).far (p := ⟨X, j, none⟩) (h.Xg (by omega)) u).congr (fun i _ => by unfold pgc; rw [ep])
  · exact h.inj b c (by omega) (by omega)
theorem FW.setOff (h : FW w D X y fl) (a : Bool) : FW (w.setCell ⟨X, 4, none⟩ (.bool a)) D X y { fl with off := a } :=
  h.fld (by omega) (fun k hk => by rcases (by omega : k = 0 ∨ k = 1 ∨ k = 2 ∨ k = 3 ∨ k = 4 ∨ k = 5 ∨ k = 6 ∨ k = 7) with rfl | rfl | rfl | rfl | rfl | rfl | rfl | rfl <;> rfl) rfl rfl rfl rfl rfl h.hl h.ht
theorem FW.setCut (h : FW w D X y fl) (a : Bool) : FW (w.setCell ⟨X, 5, none⟩ (.bool a)) D X y { fl with cut := a } :=
  h.fld (by omega) (fun k hk => by rcases (by omega : k = 0 ∨ k = 1 ∨ k = 2 ∨ k = 3 ∨ k = 4 ∨ k = 5 ∨ k = 6 ∨ k = 7) with rfl | rfl | rfl | rfl | rfl | rfl | rfl | rfl <;> rfl) rfl rfl rfl rfl rfl h.hl h.ht
theorem FW.setLeft (h : FW w D X y fl) (a : Int) (ha : -9223372036854775808 ≤ a ∧ a ≤ 9223372036854775807) : FW (w.setCell ⟨X, 6, none⟩ (.int .i64 a)) D X y { fl with left := a } :=
  h.fld (by omega) (fun k hk => by rcases (by omega : k = 0 ∨ k = 1 ∨ k = 2 ∨ k = 3 ∨ k = 4 ∨ k = 5 ∨ k = 6 ∨ k = 7) with rfl | rfl | rfl | rfl | rfl | rfl | rfl | rfl <;> rfl) rfl rfl rfl rfl rfl ha h.ht
theorem FW.setTorn (h : FW w D X y fl) (a : Nat) (ha : a ≤ 18446744073709551615) : FW (w.setCell ⟨X, 7, none⟩ (.int .u64 a)) D X y { fl with torn := a } :=
  h.fld (by omega) (fun k hk => by rcases (by omega : k = 0 ∨ k = 1 ∨ k = 2 ∨ k = 3 ∨ k = 4 ∨ k = 5 ∨ k = 6 ∨ k = 7) with rfl | rfl | rfl | rfl | rfl | rfl | rfl | rfl <;> rfl) rfl rfl rfl rfl rfl h.hl ha
def up2 (f : Nat → Nat → Str) (b p : Nat) (s : Str) : Nat → Nat → Str := fun c q => if c = b ∧ q = p then s else f c q
def FL.put (fl : FL) (b p : Nat) (s : Str) : FL := { fl with pg := up2 fl.pg b p s }
theorem FW.setPg (h : FW w D X y fl) {b p : Nat} (hb : b < fl.B) (hp : p < fl.P) {s : Str} (hs : s.length = 64) : FW (w.setCell ⟨y.g b, p, none⟩ (str s)) D X y (fl.put b p s) := by
  refine ⟨(h.top.far (p := ⟨y.g b, p, none⟩) (Ne.symm (h.Xg hb)) _), (h.blk.far (p := ⟨y.g b, p, none⟩) (Ne.symm (h.bg hb)) _), fun c hc => ?_, h.inj, h.dX, h.db, h.dg, h.cb, h.cp, h.hB, h.hP, h.hE, h.her, h.hl, h.ht, fun c q hc hq => ?_, fun k hk => by simpa [World.setCell] using h.fin k hk⟩
  · by_cases e : c = b
    · subst e
      refine ((h.pag c hc).set hp _).congr fun q hq => ?_
      by_cases e2 : q = p
      · subst e2; rw [upd_hit]; simp [pgc, FL.put, up2]
      · rw [upd_miss _ _ e2]; simp [pgc, FL.put, up2, e2]
    · exact ((h.pag c hc).far (p := ⟨y.g b, p, none⟩) (fun e2 => e (h.inj c b hc hb e2.symm)) _).congr fun q _ => by simp [pgc, FL.put, up2, e]
  · show (up2 fl.pg b p s c q).length = 64
    unfold up2
    split
    · exact hs
    · exact h.len c q hc hq
def FL.erd (fl : FL) (b v : Nat) : FL := { fl with er := fun c => if c = b then v else fl.er c }
theorem FW.setEr (h : FW w D X y fl) {b v : Nat} (hb : b < fl.B) (hv : v ≤ fl.E) : FW (w.setCell ⟨y.gb, b * 2 + 1, none⟩ (.int .i64 v)) D X y (fl.erd b v) := by
  refine ⟨(h.top.far (p := ⟨y.gb, b * 2 + 1, none⟩) (Ne.symm h.Xb) _), (h.blk.set (i := b * 2 + 1) (by omega) _).congr fun k hk => ?_, fun c hc => (h.pag c hc).far (p := ⟨y.gb, b * 2 + 1, none⟩) (h.bg hc) _, h.inj, h.dX, h.db, h.dg, h.cb, h.cp, h.hB, h.hP, h.hE, fun c hc => ?_, h.hl, h.ht, h.len, fun k hk => by simpa [World.setCell] using h.fin k hk⟩
  · by_cases e : k = b * 2 + 1
    · subst e
      rw [upd_hit]
      have e1 : (b * 2 + 1) % 2 = 1 := by omega
      have e2 : (b * 2 + 1) / 2 = b := by omega
      simp [blc, FL.erd, e1, e2]
    · rw [upd_miss _ _ e]
      unfold blc
      by_cases e2 : k % 2 = 0
      · rw [if_pos e2, if_pos e2]; rfl
      · rw [if_neg e2, if_neg e2]
        have : k / 2 ≠ b := by omega
        simp [FL.erd, this]
  · show (if c = b then v else fl.er c) ≤ fl.E
    split
    · exact hv
    · exact h.her c hc
/- What a walk reads. -/
theorem FW.c0 (h : FW w D X y fl) : w.cell? ⟨X, 0, none⟩ = some (.int .i64 fl.B) := h.top.cell (i := 0) (by omega)
theorem FW.c1 (h : FW w D X y fl) : w.cell? ⟨X, 1, none⟩ = some (.int .i64 fl.P) := h.top.cell (i := 1) (by omega)
theorem FW.c2 (h : FW w D X y fl) : w.cell? ⟨X, 2, none⟩ = some (.int .i64 fl.E) := h.top.cell (i := 2) (by omega)
theorem FW.c3 (h : FW w D X y fl) : w.cell? ⟨X, 3, none⟩ = some (.slice (some ⟨y.gb, 0, none⟩) fl.B y.cb) := h.top.cell (i := 3) (by omega)
theorem FW.c4 (h : FW w D X y fl) : w.cell? ⟨X, 4, none⟩ = some (.bool fl.off) := h.top.cell (i := 4) (by omega)
theorem FW.c5 (h : FW w D X y fl) : w.cell? ⟨X, 5, none⟩ = some (.bool fl.cut) := h.top.cell (i := 5) (by omega)
theorem FW.c6 (h : FW w D X y fl) : w.cell? ⟨X, 6, none⟩ = some (.int .i64 fl.left) := h.top.cell (i := 6) (by omega)
theorem FW.c7 (h : FW w D X y fl) : w.cell? ⟨X, 7, none⟩ = some (.int .u64 fl.torn) := h.top.cell (i := 7) (by omega)
theorem FW.cs (h : FW w D X y fl) {b : Nat} (hb : b < fl.B) : w.cell? ⟨y.gb, b * 2, none⟩ = some (.slice (some ⟨y.g b, 0, none⟩) fl.P (y.cp b)) := by
  rw [h.blk.cell (i := b * 2) (by omega)]
  have e1 : b * 2 % 2 = 0 := by omega
  have e2 : b * 2 / 2 = b := by omega
  simp [blc, e1, e2]
theorem FW.ce (h : FW w D X y fl) {b : Nat} (hb : b < fl.B) : w.cell? ⟨y.gb, b * 2 + 1, none⟩ = some (.int .i64 (fl.er b)) := by
  rw [h.blk.cell (i := b * 2 + 1) (by omega)]
  have e1 : (b * 2 + 1) % 2 = 1 := by omega
  have e2 : (b * 2 + 1) / 2 = b := by omega
  simp [blc, e1, e2]
theorem FW.cg (h : FW w D X y fl) {b p : Nat} (hb : b < fl.B) (hp : p < fl.P) : w.cell? ⟨y.g b, p, none⟩ = some (str (fl.pg b p)) := (h.pag b hb).cell hp
end
end Go.Proofs.Ytfglopkglnpokaa
