/- The reference's flash. Conditions: those that each theorem names. -/
import Derived.Deep.AppendLies
import Derived.Test.YtfglopkglnpokaaGreatM3
import Derived.Test.YtfglopkglnpokaaGreatM7
import Derived.Test.YtfglopkglnpokaaGreatM8
namespace Go.Proofs.YtfglopkglnpokaaGreat
open Go.RowKit
/-- Since w: a row v of n elements of the call's own, its cells xs. -/
structure OB (w wr : World) (t sz : Nat) (v : Value) (n : Nat) (xs : List Value) : Prop where
  row : wr.ownsRow 0 t sz v n xs
  new : ∀ g, v.ownBlock = some g → w.heap.size ≤ g
  bel : Below w.heap.size w wr
section
variable {w wr w' w3 : World} {t sz n m g cap : Nat} {v : Value} {xs news : List Value}
theorem own_rg (h : wr.ownsRow 0 t sz v n xs) (e : v.ownBlock = some g) : Rg wr g t 0 (fun _ => .bool false) := by
  rcases h.2 with ⟨rfl, _⟩ | ⟨g', cap, cur, rfl, _, hh, _⟩
  · cases e
  · have e : g' = g := by simpa [Value.ownBlock] using e
    subst e
    exact ⟨cur, hh, fun i hi => by omega⟩
theorem own_lt (h : wr.ownsRow 0 t sz v n xs) (e : v.ownBlock = some g) : g < wr.heap.size := (own_rg h e).lt
theorem own_ch {C : Nat → Prop} (h : wr.ownsRow 0 t sz v n xs) (c : Ch C wr w') (hC : ∀ g, v.ownBlock = some g → ¬ C g) : w'.ownsRow 0 t sz v n xs := by
  refine ⟨h.1, ?_⟩
  rcases h.2 with h1 | ⟨g', cap, cur, rfl, h2, hh, r⟩
  · exact .inl h1
  · exact .inr ⟨g', cap, cur, rfl, h2, (c.block g' (heap_lt hh) (hC g' rfl)).trans hh, r⟩
theorem own_form (h : wr.ownsRow 0 t sz v n xs) (hn : 0 < n) : ∃ g cap, v = .slice (some ⟨g, 0, none⟩) n cap ∧ n ≤ cap ∧ cap ≤ maxLen ∧ Rg wr g t (n * sz) (fun i => xs.getD i (.bool false)) := by
  obtain ⟨hl, h1 | ⟨g, cap, cur, rfl, _, hh, hn1, hm1, _, ht⟩⟩ := h
  · omega
  · refine ⟨g, cap, rfl, hn1, hm1, cur, hh, fun i hi => ?_⟩
    have h2 : xs[i]? = cur[i]? := by rw [← ht, List.getElem?_take_of_lt hi, Array.getElem?_toList]
    rw [← h2]
    show _ = some (xs.getD i (.bool false))
    rw [List.getD_eq_getElem?_getD, List.getElem?_eq_getElem (by omega)]
    rfl
theorem OB.nil (b : Below w.heap.size w wr) : OB w wr t sz (.slice none 0 0) 0 [] := ⟨⟨by simp, .inl ⟨rfl, rfl⟩⟩, (fun _ hg => (by cases hg)), b⟩
theorem OB.below (h : OB w wr t sz v n xs) (b : Below wr.heap.size wr w') : OB w w' t sz v n xs :=
  ⟨own_ch h.row (Ch.of_below b (fun _ => False)) (fun _ _ h => h), h.new, h.bel.trans (b.mono h.bel.size)⟩
/-- Behind an append; the new elements were laid into wz ahead of it. -/
theorem OB.take {wz : World} (h : OB w wr t sz v n xs) (hz : Below w.heap.size w wz) (ho : w3.ownsRow 0 t sz (.slice (some ⟨g, 0, none⟩) (n + m) cap) (n + m) (xs ++ news)) (hg3 : wz.grownBy w3 v.ownBlock) (hat : v.ownBlock = some g ∨ w.heap.size ≤ g) :
    OB w w3 t sz (.slice (some ⟨g, 0, none⟩) (n + m) cap) (n + m) (xs ++ news) := by
  refine ⟨ho, fun k hk => ?_, Below.grown hz hg3 hz.size (fun k hk => h.new k hk)⟩
  have e : g = k := by simpa [Value.ownBlock] using hk
  subst e
  rcases hat with h1 | h1
  · exact h.new g h1
  · exact h1
/-- What an append to it changes. -/
theorem grown_ch {wz : World} (hg : wz.grownBy w3 v.ownBlock) : Ch (fun x => v.ownBlock = some x) wz w3 := Ch.of_grown hg fun _ hx _ => hx
/-- A row just laid holds what is to be appended. -/
theorem news_new (w : World) (t : Nat) (cs : Array Value) (xs : List Value) (e : cs.toList = xs) : ∀ j u, xs[j]? = some u → (w.alloc (.cells cs t)).cell? ((⟨w.heap.size, 0, none⟩ : Addr).add j) = some u := by
  rw [← e]
  exact World.news_of_block (heap_alloc_new w _)
/-- A row that can be read holds what is to be appended. -/
theorem news_rg {B N : Nat} {f : Nat → Value} (h : Rg w B t N f) (xs : List Value) (hx : ∀ j, j < xs.length → j < N ∧ xs[j]? = some (f j)) : ∀ j u, xs[j]? = some u → w.cell? ((⟨B, 0, none⟩ : Addr).add j) = some u := fun j u hu => by
  have hj : j < xs.length := by
    rcases Nat.lt_or_ge j xs.length with h1 | h1
    · exact h1
    · rw [List.getElem?_eq_none h1] at hu; cases hu
  obtain ⟨h1, h2⟩ := hx j hj
  have hadd : (⟨B, 0, none⟩ : Addr).add j = ⟨B, j, none⟩ := by unfold Addr.add; split <;> simp_all
  rw [hadd, h.cell h1, ← h2, hu]
theorem one_str (l : List Str) : ∀ u ∈ l.map str, u.oneCell' = true := fun u hu => by
  obtain ⟨x, _, rfl⟩ := List.mem_map.1 hu
  rfl
end
/-- Strings that are the elements of a row. -/
theorem OB.ps {w wr : World} {t : Nat} {v : Value} {n : Nat} {ps : List Str} (h : OB w wr t 1 v n (ps.map str)) (hn : 0 < n) : ∃ g cap, v = .slice (some ⟨g, 0, none⟩) n cap ∧ w.heap.size ≤ g ∧ n ≤ cap ∧ cap ≤ maxLen ∧ Rg wr g t n (fun i => str (ps.getD i [])) := by
  have hl : ps.length = n := by have := h.row.1; simpa using this
  obtain ⟨g, cap, rfl, h1, h2, h3⟩ := own_form h.row hn
  refine ⟨g, cap, rfl, h.new g rfl, h1, h2, ?_⟩
  rw [Nat.mul_one] at h3
  refine h3.congr fun i hi => ?_
  rw [List.getD_eq_getElem?_getD, List.getD_eq_getElem?_getD, List.getElem?_map, List.getElem?_eq_getElem (by omega)]
  rfl
end Go.Proofs.YtfglopkglnpokaaGreat
namespace Go.Proofs.YtfglopkglnpokaaGreat
open Go.RowKit
/-- The reference's plan. -/
def planF (fl : FL) : Int := if fl.cut = true then fl.left else -1
structure RLay where
  pb : Nat
  pc : Nat
  nb : Nat
  nc : Nat
  g : Nat → Nat
  cp : Nat → Nat
def rfc (fl : FL) (y : RLay) (j : Nat) : Value := if j = 0 then .int .i64 fl.B else if j = 1 then .int .i64 fl.P else if j = 2 then .int .i64 fl.E else if j = 3 then .slice (some ⟨y.pb, 0, none⟩) fl.B y.pc else if j = 4 then .slice (some ⟨y.nb, 0, none⟩) fl.B y.nc else if j = 5 then .bool fl.off else if j = 6 then .int .i64 (planF fl) else .int .u64 fl.torn
def rob (fl : FL) (y : RLay) (b : Nat) : Value := .slice (some ⟨y.g b, 0, none⟩) fl.P (y.cp b)
def rnb (fl : FL) (b : Nat) : Value := .int .i64 (fl.er b)
/-- The reference's flash lies at X; all its blocks meet D. -/
structure RW (w : World) (D : Nat → Prop) (X : Nat) (y : RLay) (fl : FL) : Prop where
  top : Rg w X 74 8 (rfc fl y)
  out : Rg w y.pb 25 fl.B (rob fl y)
  num : Rg w y.nb 3 fl.B (rnb fl)
  pag : ∀ b, b < fl.B → Rg w (y.g b) 9 fl.P (pgc fl b)
  inj : ∀ b c, b < fl.B → c < fl.B → y.g b = y.g c → b = c
  dX : D X
  dp : D y.pb
  dn : D y.nb
  dg : ∀ b, b < fl.B → D (y.g b)
  pc : fl.B ≤ y.pc ∧ y.pc ≤ maxLen
  nc : fl.B ≤ y.nc ∧ y.nc ≤ maxLen
  cp : ∀ b, b < fl.B → fl.P ≤ y.cp b ∧ y.cp b ≤ maxLen
  hB : 1 ≤ fl.B ∧ fl.B ≤ 32
  hP : 1 ≤ fl.P ∧ fl.P ≤ 32
  hE : fl.E ≤ 1048576
  her : ∀ b, b < fl.B → fl.er b ≤ fl.E
  hl : fl.cut = true → 0 ≤ fl.left ∧ fl.left ≤ 9223372036854775807
  ht : fl.torn ≤ 18446744073709551615
  len : ∀ b p, b < fl.B → p < fl.P → (fl.pg b p).length = 64
  fin : ∀ k, D k → k < w.heap.size
section
variable {w w' : World} {D : Nat → Prop} {X : Nat} {y : RLay} {fl : FL}
theorem RW.ch {C : Nat → Prop} (h : RW w D X y fl) (c : Ch C w w') (hC : ∀ k, D k → ¬ C k) : RW w' D X y fl :=
  { h with top := h.top.ch c (hC _ h.dX), out := h.out.ch c (hC _ h.dp), num := h.num.ch c (hC _ h.dn), pag := fun b hb => (h.pag b hb).ch c (hC _ (h.dg b hb)), fin := fun k hk => Nat.lt_of_lt_of_le (h.fin k hk) c.size }
theorem RW.below (h : RW w D X y fl) (c : Below w.heap.size w w') : RW w' D X y fl := h.ch (Ch.of_below c (fun _ => False)) (fun _ _ h => h)
theorem RW.drew (h : RW w D X y fl) : RW w.drew D X y fl := h.below ((Below.refl _ _).drew)
theorem RW.Xp (h : RW w D X y fl) : X ≠ y.pb := h.top.ty h.out (by decide)
theorem RW.Xn (h : RW w D X y fl) : X ≠ y.nb := h.top.ty h.num (by decide)
theorem RW.Xg (h : RW w D X y fl) {b : Nat} (hb : b < fl.B) : X ≠ y.g b := h.top.ty (h.pag b hb) (by decide)
theorem RW.pn (h : RW w D X y fl) : y.pb ≠ y.nb := h.out.ty h.num (by decide)
theorem RW.pg (h : RW w D X y fl) {b : Nat} (hb : b < fl.B) : y.pb ≠ y.g b := h.out.ty (h.pag b hb) (by decide)
theorem RW.ng (h : RW w D X y fl) {b : Nat} (hb : b < fl.B) : y.nb ≠ y.g b := h.num.ty (h.pag b hb) (by decide)
theorem RW.plan (h : RW w D X y fl) : -1 ≤ planF fl ∧ planF fl ≤ 9223372036854775807 := by
  unfold planF
  split
  · rename_i e; have := h.hl e; omega
  · omega
/-- A field of the flash's own row. -/
theorem RW.fld (h : RW w D X y fl) {fl' : FL} {j : Nat} {u : Value} (hj : j < 8) (e : ∀ k, k < 8 → upd (rfc fl y) j u k = rfc fl' y k) (eB : fl'.B = fl.B) (eP : fl'.P = fl.P) (eE : fl'.E = fl.E) (ep : fl'.pg = fl.pg) (ee : fl'.er = fl.er)
    (hl : fl'.cut = true → 0 ≤ fl'.left ∧ fl'.left ≤ 9223372036854775807) (ht : fl'.torn ≤ 18446744073709551615) : RW (w.setCell ⟨X, j, none⟩ u) D X y fl' := by
  refine ⟨(h.top.set hj u).congr e, ?_, ?_, fun b hb => ?_, fun b c hb hc => ?_, h.dX, h.dp, h.dn, fun b hb => h.dg b (by omega), by rw [eB]; exact h.pc, by rw [eB]; exact h.nc, fun b hb => by rw [eP]; exact h.cp b (by omega), by rw [eB]; exact h.hB, by rw [eP]; exact h.hP, by rw [eE]; exact h.hE, fun b hb => by rw [ee, eE]; exact h.her b (by omega), hl, ht, fun b p hb hp => by rw [ep]; exact h.len b p (by omega) (by omega), fun k hk => by simpa [World.setCell] using h.fin k hk⟩
  · rw [eB]
    exact (h.out.far (p := ⟨X, j, none⟩) h.Xp u).congr (fun i _ => by unfold rob; rw [eP])
  · rw [eB]
    exact (h.num.far (p := ⟨X, j, none⟩) h.Xn u).congr (fun i _ => by unfold rnb; rw [ee])
  · rw [eP]
    exact ((h.pag b (by omega)).far (p := ⟨X, j, none⟩) (h.Xg (by omega)) u).congr (fun i _ => by unfold pgc; rw [ep])
  · exact h.inj b c (by omega) (by omega)
theorem RW.setOff (h : RW w D X y fl) (a : Bool) : RW (w.setCell ⟨X, 5, none⟩ (.bool a)) D X y { fl with off := a } :=
  h.fld (by omega) (fun k hk => by rcases (by omega : k = 0 ∨ k = 1 ∨ k = 2 ∨ k = 3 ∨ k = 4 ∨ k = 5 ∨ k = 6 ∨ k = 7) with rfl | rfl | rfl | rfl | rfl | rfl | rfl | rfl <;> rfl) rfl rfl rfl rfl rfl h.hl h.ht
theorem RW.setPlan (h : RW w D X y fl) (c : Bool) (l : Int) (hl : c = true → 0 ≤ l ∧ l ≤ 9223372036854775807) : RW (w.setCell ⟨X, 6, none⟩ (.int .i64 (planF { fl with cut := c, left := l }))) D X y { fl with cut := c, left := l } :=
  h.fld (by omega) (fun k hk => by rcases (by omega : k = 0 ∨ k = 1 ∨ k = 2 ∨ k = 3 ∨ k = 4 ∨ k = 5 ∨ k = 6 ∨ k = 7) with rfl | rfl | rfl | rfl | rfl | rfl | rfl | rfl <;> rfl) rfl rfl rfl rfl rfl hl h.ht
theorem RW.setTorn (h : RW w D X y fl) (a : Nat) (ha : a ≤ 18446744073709551615) : RW (w.setCell ⟨X, 7, none⟩ (.int .u64 a)) D X y { fl with torn := a } :=
  h.fld (by omega) (fun k hk => by rcases (by omega : k = 0 ∨ k = 1 ∨ k = 2 ∨ k = 3 ∨ k = 4 ∨ k = 5 ∨ k = 6 ∨ k = 7) with rfl | rfl | rfl | rfl | rfl | rfl | rfl | rfl <;> rfl) rfl rfl rfl rfl rfl h.hl ha
theorem RW.setPg (h : RW w D X y fl) {b p : Nat} (hb : b < fl.B) (hp : p < fl.P) {s : Str} (hs : s.length = 64) : RW (w.setCell ⟨y.g b, p, none⟩ (str s)) D X y (fl.put b p s) := by
  refine ⟨(h.top.far (p := ⟨y.g b, p, none⟩) (Ne.symm (h.Xg hb)) _), (h.out.far (p := ⟨y.g b, p, none⟩) (Ne.symm (h.pg hb)) _), (h.num.far (p := ⟨y.g b, p, none⟩) (Ne.symm (h.ng hb)) _), fun c hc => ?_, h.inj, h.dX, h.dp, h.dn, h.dg, h.pc, h.nc, h.cp, h.hB, h.hP, h.hE, h.her, h.hl, h.ht, fun c q hc hq => ?_, fun k hk => by simpa [World.setCell] using h.fin k hk⟩
  · by_cases e : c = b
    · subst e
      refine ((h.pag c hc).set hp _).congr fun q hq => ?_
      by_cases e2 : q = p
      · subst e2; rw [upd_hit]; simp [pgc, FL.put, up2]
      · rw [upd_miss _ _ e2]; simp [pgc, FL.put, up2, e2]
    · exact ((h.pag c hc).far (p := ⟨y.g b, p, none⟩) (fun e2 => e (h.inj c b hc hb e2.symm)) _).congr fun q _ => by simp [pgc, FL.put, up2, e]
  · show (up2 fl.pg b p s c q).length = 64
    unfold up2
    split
    · exact hs
    · exact h.len c q hc hq
theorem RW.setEr (h : RW w D X y fl) {b v : Nat} (hb : b < fl.B) (hv : v ≤ fl.E) : RW (w.setCell ⟨y.nb, b, none⟩ (.int .i64 v)) D X y (fl.erd b v) := by
  refine ⟨(h.top.far (p := ⟨y.nb, b, none⟩) (Ne.symm h.Xn) _), (h.out.far (p := ⟨y.nb, b, none⟩) (Ne.symm h.pn) _), (h.num.set (i := b) hb _).congr fun k hk => ?_, fun c hc => (h.pag c hc).far (p := ⟨y.nb, b, none⟩) (h.ng hc) _, h.inj, h.dX, h.dp, h.dn, h.dg, h.pc, h.nc, h.cp, h.hB, h.hP, h.hE, fun c hc => ?_, h.hl, h.ht, h.len, fun k hk => by simpa [World.setCell] using h.fin k hk⟩
  · by_cases e : k = b
    · subst e
      rw [upd_hit]
      simp [rnb, FL.erd]
    · rw [upd_miss _ _ e]
      simp [rnb, FL.erd, e]
  · show (if c = b then v else fl.er c) ≤ fl.E
    split
    · exact hv
    · exact h.her c hc
/- What a walk reads. -/
theorem RW.c0 (h : RW w D X y fl) : w.cell? ⟨X, 0, none⟩ = some (.int .i64 fl.B) := h.top.cell (i := 0) (by omega)
theorem RW.c1 (h : RW w D X y fl) : w.cell? ⟨X, 1, none⟩ = some (.int .i64 fl.P) := h.top.cell (i := 1) (by omega)
theorem RW.c2 (h : RW w D X y fl) : w.cell? ⟨X, 2, none⟩ = some (.int .i64 fl.E) := h.top.cell (i := 2) (by omega)
theorem RW.c3 (h : RW w D X y fl) : w.cell? ⟨X, 3, none⟩ = some (.slice (some ⟨y.pb, 0, none⟩) fl.B y.pc) := h.top.cell (i := 3) (by omega)
theorem RW.c4 (h : RW w D X y fl) : w.cell? ⟨X, 4, none⟩ = some (.slice (some ⟨y.nb, 0, none⟩) fl.B y.nc) := h.top.cell (i := 4) (by omega)
theorem RW.c5 (h : RW w D X y fl) : w.cell? ⟨X, 5, none⟩ = some (.bool fl.off) := h.top.cell (i := 5) (by omega)
theorem RW.c6 (h : RW w D X y fl) : w.cell? ⟨X, 6, none⟩ = some (.int .i64 (planF fl)) := h.top.cell (i := 6) (by omega)
theorem RW.c7 (h : RW w D X y fl) : w.cell? ⟨X, 7, none⟩ = some (.int .u64 fl.torn) := h.top.cell (i := 7) (by omega)
theorem RW.cs (h : RW w D X y fl) {b : Nat} (hb : b < fl.B) : w.cell? ⟨y.pb, b, none⟩ = some (.slice (some ⟨y.g b, 0, none⟩) fl.P (y.cp b)) := h.out.cell hb
theorem RW.ce (h : RW w D X y fl) {b : Nat} (hb : b < fl.B) : w.cell? ⟨y.nb, b, none⟩ = some (.int .i64 (fl.er b)) := h.num.cell hb
theorem RW.cg (h : RW w D X y fl) {b p : Nat} (hb : b < fl.B) (hp : p < fl.P) : w.cell? ⟨y.g b, p, none⟩ = some (str (fl.pg b p)) := (h.pag b hb).cell hp
theorem rin_any (h : RW w D X y fl) {b p : Nat} (hb : b < fl.B) (hp : p < fl.P) : Calls Tryz.prog 49 #[fptr X, .int .i64 b, .int .i64 p] w fun e w' => e = .returned (.bool true) ∧ w = w' := by
  have c0 := h.c0
  have c1 := h.c1
  have hB := h.hB
  have hP := h.hP
  have hbI : (b : Int) < fl.B := by omega
  have hpI : (p : Int) < fl.P := by omega
  clear h
  go_enter Tryz.func49, Tryz.ntmps49
  go_wp2_with fail
  go_ret
  exact ⟨by simp, rfl⟩
theorem rcut_any (h : RW w D X y fl) : Calls Tryz.prog 50 #[fptr X] w fun e w' => e = .returned (.bool (intF fl).1) ∧ RW w' D X y (intF fl).2 ∧ Ch D w w' := by
  have c5 := h.c5
  have c6 := h.c6
  have f5 := h.top.frozen 5
  have f6 := h.top.frozen 6
  have hpl := h.plan
  cases hc : fl.cut
  · have e : intF fl = (false, fl) := by unfold intF; rw [hc]; rfl
    have hp : planF fl = -1 := by unfold planF; rw [hc]; rfl
    rw [hp] at c6
    rw [e]
    have H := Lib.hid h
    clear h hc hp hpl e
    go_enter Tryz.func50, Tryz.ntmps50
    go_wp2_with fail
    go_ret
    exact ⟨rfl, H.out, Ch.refl _ _⟩
  · have hll := h.hl hc
    have hp : planF fl = fl.left := by unfold planF; rw [hc]; rfl
    rw [hp] at c6
    by_cases hl : 0 < fl.left
    · have e : intF fl = (false, { fl with left := fl.left - 1 }) := by unfold intF; rw [hc, if_neg (by simp), if_pos hl]
      rw [e]
      have hfl : ({ fl with cut := true, left := fl.left - 1 } : FL) = { fl with left := fl.left - 1 } := by rw [← hc]
      have h2 := h.setPlan true (fl.left - 1) (fun _ => by omega)
      have hq : planF { fl with cut := true, left := fl.left - 1 } = fl.left - 1 := rfl
      rw [hq, hfl] at h2
      have H2 := Lib.hid h2
      have HC : Hid (Ch D w (w.setCell ⟨X, 6, none⟩ (.int .i64 (fl.left - 1)))) := (Ch.refl D w).setCell (p := ⟨X, 6, none⟩) (fun _ => h.dX) _
      have hd0 : ¬ fl.left = 0 := by omega
      have hd : decide (fl.left > 0) = true := by simpa using hl
      have hb0 : (fl.left == 0) = false := by rw [beq_eq_false_iff_ne]; omega
      clear h h2 hc e hp hq hfl hpl
      generalize fl.left = lf at *
      go_enter Tryz.func50, Tryz.ntmps50
      go_wp2_with fail
      go_ret
      exact ⟨rfl, H2.out, HC.out⟩
    · have e : intF fl = (true, loseF fl) := by unfold intF; rw [hc, if_neg (by simp), if_neg hl]
      rw [e]
      have h0 : fl.left = 0 := by omega
      rw [h0] at c6
      have h2 := (h.setOff true).setPlan false fl.left (fun e => by cases e)
      have hq : planF { ({ fl with off := true } : FL) with cut := false, left := fl.left } = -1 := rfl
      rw [hq] at h2
      have H2 : Hid (RW ((w.setCell ⟨X, 5, none⟩ (.bool true)).setCell ⟨X, 6, none⟩ (.int .i64 (-1))) D X y (loseF fl)) := h2
      have HC : Hid (Ch D w ((w.setCell ⟨X, 5, none⟩ (.bool true)).setCell ⟨X, 6, none⟩ (.int .i64 (-1)))) := (((Ch.refl D w).setCell (p := ⟨X, 5, none⟩) (fun _ => h.dX) _).setCell (p := ⟨X, 6, none⟩) (fun _ => h.dX) _)
      clear h h2 hc e hp hq hpl
      go_enter Tryz.func50, Tryz.ntmps50
      go_wp2_with fail
      go_ret
      exact ⟨rfl, H2.out, HC.out⟩
theorem rcutAfter_any (h : RW w D X y fl) (n : Int) (t : Nat) (hn : -1 ≤ n ∧ n ≤ 9223372036854775807) (ht : t ≤ 18446744073709551615) : Calls Tryz.prog 37 #[fptr X, .int .i64 n, .int .u64 t] w fun e w' => e = .returned (.tuple #[]) ∧ RW w' D X y (cutF fl n t) ∧ Ch D w w' := by
  have c6 := h.c6
  have c7 := h.c7
  have f6 := h.top.frozen 6
  have f7 := h.top.frozen 7
  have h2 := (h.setPlan (decide (0 ≤ n)) n (fun e => by simp at e; omega)).setTorn t ht
  have hq : planF { fl with cut := decide (0 ≤ n), left := n } = n := by
    unfold planF
    by_cases e : 0 ≤ n
    · simp [e]
    · have : n = -1 := by omega
      subst this; rfl
  rw [hq] at h2
  have H2 : Hid (RW ((w.setCell ⟨X, 6, none⟩ (.int .i64 n)).setCell ⟨X, 7, none⟩ (.int .u64 t)) D X y (cutF fl n t)) := h2
  have HC : Hid (Ch D w ((w.setCell ⟨X, 6, none⟩ (.int .i64 n)).setCell ⟨X, 7, none⟩ (.int .u64 t))) := (((Ch.refl D w).setCell (p := ⟨X, 6, none⟩) (fun _ => h.dX) _).setCell (p := ⟨X, 7, none⟩) (fun _ => h.dX) _)
  have hm : max n (-1) = n := by omega
  clear h h2 hq
  go_enter Tryz.func37, Tryz.ntmps37
  go_wp2_with fail
  go_end0
  exact ⟨rfl, H2.out, HC.out⟩
theorem ron_any (h : RW w D X y fl) : Calls Tryz.prog 39 #[fptr X] w fun e w' => e = .returned (.int .i64 (onF fl).1) ∧ RW w' D X y (onF fl).2 ∧ Ch D w w' := by
  have c5 := h.c5
  have f5 := h.top.frozen 5
  have H := Lib.hid h
  have H2 := Lib.hid (h.setOff false)
  have HC : Hid (Ch D w (w.setCell ⟨X, 5, none⟩ (.bool false))) := (Ch.refl D w).setCell (p := ⟨X, 5, none⟩) (fun _ => h.dX) _
  unfold onF
  clear h
  cases ho : fl.off
  · rw [ho] at c5
    go_enter Tryz.func39, Tryz.ntmps39
    go_wp2_with fail
    go_ret
    exact ⟨rfl, H.out, Ch.refl _ _⟩
  · rw [ho] at c5
    go_enter Tryz.func39, Tryz.ntmps39
    go_wp2_with fail
    go_ret
    exact ⟨rfl, H2.out, HC.out⟩
end
end Go.Proofs.YtfglopkglnpokaaGreat
namespace Go.Proofs.YtfglopkglnpokaaGreat
open Go.RowKit
def mrg1 (t i : Nat) (o d : UInt8) : UInt8 := (o &&& ~~~selB t i) ||| (d &&& selB t i)
def mrgS (t : Nat) (was tw : Str) : Str := (List.range was.length).map fun i => mrg1 t i (was.getD i 0) (tw.getD i 0)
theorem mrgS_len (t : Nat) (a b : Str) : (mrgS t a b).length = a.length := by simp [mrgS]
theorem mrg1_torn (t i : Nat) (o d : UInt8) (h : fits1 o d = true) : mrg1 t i o d = torn1 t i o d := by
  unfold mrg1 torn1
  unfold fits1 at h
  rw [beq_iff_eq] at h
  generalize selB t i = s
  apply UInt8.eq_of_toBitVec_eq
  apply BitVec.eq_of_getLsbD_eq
  intro k hk
  have h2 := congrArg (fun x => x.toBitVec.getLsbD k) h
  simp [hk] at h2 ⊢
  revert h2
  generalize o.toBitVec[k] = a, d.toBitVec[k] = b, s.toBitVec[k] = c
  cases a <;> cases b <;> cases c <;> decide
theorem mrg1_all (t i : Nat) (o : UInt8) : mrg1 t i o 255 = o ||| selB t i := by
  unfold mrg1
  generalize selB t i = s
  apply UInt8.eq_of_toBitVec_eq
  apply BitVec.eq_of_getLsbD_eq
  intro k hk
  have h255 : (255 : UInt8).toBitVec.getLsbD k = true := by
    rcases (by omega : k = 0 ∨ k = 1 ∨ k = 2 ∨ k = 3 ∨ k = 4 ∨ k = 5 ∨ k = 6 ∨ k = 7) with rfl | rfl | rfl | rfl | rfl | rfl | rfl | rfl <;> rfl
  simp only [UInt8.toBitVec_or, UInt8.toBitVec_and, UInt8.toBitVec_not, BitVec.getLsbD_or, BitVec.getLsbD_and, BitVec.getLsbD_not, h255]
  cases o.toBitVec.getLsbD k <;> cases s.toBitVec.getLsbD k <;> first | rfl | simp [hk]
theorem mrgS_torn (t : Nat) (was tw : Str) (h1 : was.length = 64) (h2 : tw.length = 64) (h : fitsB was tw = true) : mrgS t was tw = tornP t was tw := by
  unfold mrgS tornP
  apply List.map_congr_left
  intro i hi
  rw [List.mem_range] at hi
  apply mrg1_torn
  unfold fitsB at h
  rw [List.all_eq_true] at h
  have h3 : i < (List.zipWith fits1 was tw).length := by rw [List.length_zipWith]; omega
  have := h _ (List.getElem_mem h3)
  rw [List.getElem_zipWith] at this
  rw [List.getD_eq_getElem?_getD, List.getD_eq_getElem?_getD, List.getElem?_eq_getElem hi, List.getElem?_eq_getElem (by omega)]
  exact this
theorem mrgS_eras (t : Nat) (was : Str) (h1 : was.length = 64) : mrgS t was blank = tornE t was := by
  unfold mrgS tornE
  apply List.map_congr_left
  intro i hi
  rw [List.mem_range] at hi
  rw [show blank.getD i 0 = 255 by rw [List.getD_eq_getElem?_getD, blank, List.getElem?_replicate, if_pos (by omega)]; rfl]
  exact mrg1_all t i _
set_option maxRecDepth 100000 in
set_option maxHeartbeats 2000000 in
theorem rerased_any (w : World) : Calls Tryz.prog 44 #[] w fun e w' => e = .returned (str blank) ∧ Below w.heap.size w w' := by
  obtain ⟨i0, hi0, hx0, hx1, hx2⟩ := info_parts Tryz.infoU
  have hmk : (Instr.makeSlice 40 (.int .i64 64) (.int .i64 64)).run Tryz.prog w = .ok (.slice (some ⟨w.heap.size, 0, none⟩) 64 64) (w.alloc (.cells (madeCells (Value.int .u8 0).cells 64) 5)) := by
    have := run_make (P := Tryz.prog) w 40 5 i0 (.int .u8 0) Tryz.underlying40 hi0 hx0 .i64 .i64 64 64 (by omega) (by omega) (by rw [hx2]; omega) (by omega)
    rw [hx1] at this
    simpa using this
  have R1 : Bt (w.alloc (.cells (madeCells (Value.int .u8 0).cells 64) 5)) w.heap.size 64 (List.replicate 64 0) := Rg.bt ((Rg.made w 5 64 (.int .u8 0) rfl).congr fun i hi => by
    rw [List.getD_eq_getElem?_getD, List.getElem?_replicate, if_pos hi]; rfl) (by simp)
  have B1 : Below w.heap.size w (w.alloc (.cells (madeCells (Value.int .u8 0).cells 64) 5)) := (Below.refl _ _).alloc (Nat.le_refl _) _
  obtain ⟨w1, hw1⟩ : ∃ w1, w.alloc (.cells (madeCells (Value.int .u8 0).cells 64) 5) = w1 := ⟨_, rfl⟩
  obtain ⟨g, hg⟩ : ∃ g, w.heap.size = g := ⟨_, rfl⟩
  rw [hw1] at R1 B1 hmk
  rw [hg] at R1 hmk
  have HB := Lib.hid B1
  have HR : Hid (∃ c : Str, Bt w1 g 64 c ∧ ∀ j, j < 0 → c.getD j 0 = 255) := ⟨_, R1, fun j hj => by omega⟩
  clear R1 B1 hw1
  go_enter Tryz.func44, Tryz.ntmps44
  go_wp2_with fail
  clear hmk
  go_loopw [2] (fun z wr => ∃ i : Nat, i ≤ 64 ∧ z = .int .i64 (i : Int) ∧ Hid (∃ c : Str, Bt wr g 64 c ∧ ∀ j, j < i → c.getD j 0 = 255) ∧ Hid (Below w.heap.size w wr)) (fun z _ => 64 - (intOf z).toNat)
  case atStart => exact ⟨0, by omega, rfl, HR, HB⟩
  case round =>
    clear HR HB
    obtain ⟨i, hi, rfl, HR, HB⟩ := hrel
    by_cases hlt : i < 64
    · have y0 : (i : Int) < 64 := by omega
      obtain ⟨c, hbt, hcj⟩ := HR.out
      have cb := hbt.cell hlt
      have fb := hbt.frozen hlt
      have HR2 : Hid (∃ c : Str, Bt (wr.setCell ⟨g, i, none⟩ (.int .u8 255)) g 64 c ∧ ∀ j, j < i + 1 → c.getD j 0 = 255) := by
        refine ⟨_, hbt.set hlt 255, fun j hj => ?_⟩
        have hcl : c.length = 64 := by obtain ⟨_, _, _, h1, _⟩ := hbt; exact h1
        by_cases e : j = i
        · subst e
          rw [List.getD_eq_getElem?_getD, List.getElem?_set_self (by omega)]; rfl
        · rw [List.getD_eq_getElem?_getD, List.getElem?_set_ne (Ne.symm e), ← List.getD_eq_getElem?_getD, hcj j (by omega)]
      have HB2 : Hid (Below w.heap.size w (wr.setCell ⟨g, i, none⟩ (.int .u8 255))) := HB.out.setCell (p := ⟨g, i, none⟩) (by show w.heap.size ≤ g; omega) _
      clear hcj hbt HR HB
      go_wp2_with fail
      exact ⟨⟨i + 1, by omega, by go_num, HR2, HB2⟩, by simp [intOf]; omega⟩
    · have y0 : ¬ (i : Int) < 64 := by omega
      obtain ⟨c, hbt, hcj⟩ := HR.out
      have hcl : c.length = 64 := by obtain ⟨_, _, _, h1, _⟩ := hbt; exact h1
      have hce : c = blank := by
        apply List.ext_getElem
        · rw [blank, List.length_replicate, hcl]
        · intro j h1 h2
          have := hcj j (by omega)
          rw [List.getD_eq_getElem?_getD, List.getElem?_eq_getElem h1] at this
          simp only [Option.getD_some] at this
          rw [this]
          exact (List.eq_of_mem_replicate (List.getElem_mem h2)).symm
      subst hce
      have hcs := hbt.str 64
      clear hcj hbt HR hcl
      go_wp2_with fail
      go_ret
      exact ⟨rfl, by first | exact HB.out | (rw [← hg]; exact HB.out)⟩
set_option maxRecDepth 100000 in
set_option maxHeartbeats 4000000 in
theorem rmerge_any (was tw : ByteArray) (t : Nat) (w : World) (h1 : was.size = 64) (h2 : tw.size = 64) (_ : t ≤ 18446744073709551615) :
    Calls Tryz.prog 51 #[.string was, .string tw, .int .u64 t] w fun e w' => e = .returned (str (mrgS t was.data.toList tw.data.toList)) ∧ Below w.heap.size w w' := by
  obtain ⟨cap, w1, hcv, hc1, hc2, hbt, hbel⟩ := conv_bytes w was (by omega)
  rw [h1] at hcv hc1 hbt
  obtain ⟨g, hg⟩ : ∃ g, w.heap.size = g := ⟨_, rfl⟩
  rw [hg] at hcv hbt
  have HB := Lib.hid hbel
  have HR : Hid (∃ c : Str, Bt w1 g 64 c ∧ ∀ j, j < 64 → c.getD j 0 = if j < 0 then mrg1 t j (was.data.toList.getD j 0) (tw.data.toList.getD j 0) else was.data.toList.getD j 0) := ⟨_, hbt, fun j hj => by rw [if_neg (by omega)]⟩
  clear hbt hbel
  go_enter Tryz.func51, Tryz.ntmps51
  go_wp2_with fail
  clear hcv
  go_loopw [8] (fun z wr => ∃ i : Nat, i ≤ 64 ∧ z = .int .i64 (i : Int) ∧ Hid (∃ c : Str, Bt wr g 64 c ∧ ∀ j, j < 64 → c.getD j 0 = if j < i then mrg1 t j (was.data.toList.getD j 0) (tw.data.toList.getD j 0) else was.data.toList.getD j 0) ∧ Hid (Below w.heap.size w wr)) (fun z _ => 64 - (intOf z).toNat)
  case atStart => exact ⟨0, by omega, rfl, HR, HB⟩
  case round =>
    clear HR HB
    obtain ⟨i, hi, rfl, HR, HB⟩ := hrel
    by_cases hi7 : i < 64
    · have z0 : (i : Int) < 64 := by omega
      obtain ⟨c, hbt, hcj⟩ := HR.out
      have hoi : was.data.toList.getD i 0 = was[i]'(by omega) := by
        rw [List.getD_eq_getElem?_getD, List.getElem?_eq_getElem (by rw [Array.length_toList]; exact (by omega : i < was.size))]; rfl
      have hdi : tw.data.toList.getD i 0 = tw[i]'(by omega) := by
        rw [List.getD_eq_getElem?_getD, List.getElem?_eq_getElem (by rw [Array.length_toList]; exact (by omega : i < tw.size))]; rfl
      have cb := hbt.cell hi7
      have fb := hbt.frozen hi7
      obtain ⟨ss, hss⟩ : ∃ ss : UInt8, ss = selB t i := ⟨_, rfl⟩
      have hsn : ((t : Int) / 2 ^ (8 * (i % 8)) % 256) = (ss.toNat : Int) := by
        rw [hss]
        unfold selB
        rw [u8_of (by omega)]
        simp
      obtain ⟨a1, ha1⟩ : ∃ a : UInt8, a = (was[i]'(by omega)) &&& ~~~ss := ⟨_, rfl⟩
      obtain ⟨a2, ha2⟩ : ∃ a : UInt8, a = (tw[i]'(by omega)) &&& ss := ⟨_, rfl⟩
      obtain ⟨a3, ha3⟩ : ∃ a : UInt8, a = a1 ||| a2 := ⟨_, rfl⟩
      have ht1 : mrg1 t i (was[i]'(by omega)) (tw[i]'(by omega)) = a3 := by rw [ha3, ha2, ha1, hss]; rfl
      have e1 : bits .andNot .u8 ((was[i]'(by omega)).toNat : Int) (ss.toNat : Int) = (a1.toNat : Int) := by rw [ha1]; exact b_andNot _ _
      have e2 : bits .and .u8 ((tw[i]'(by omega)).toNat : Int) (ss.toNat : Int) = (a2.toNat : Int) := by rw [ha2]; exact b_and _ _
      have e3 : bits .or .u8 (a1.toNat : Int) (a2.toNat : Int) = (a3.toNat : Int) := by rw [ha3]; exact b_or _ _
      have HNX : Hid (∃ c : Str, Bt (wr.setCell ⟨g, i, none⟩ (.int .u8 (a3.toNat : Int))).drew g 64 c ∧ ∀ j, j < 64 → c.getD j 0 = if j < i + 1 then mrg1 t j (was.data.toList.getD j 0) (tw.data.toList.getD j 0) else was.data.toList.getD j 0) := by
        refine ⟨_, (hbt.ch (w' := wr.drew) ((Ch.refl (fun _ => False) wr).drew) id).set hi7 _, fun j hj => ?_⟩
        have hcl : c.length = 64 := by obtain ⟨_, _, _, h1, _⟩ := hbt; exact h1
        by_cases e : j = i
        · subst e
          rw [if_pos (by omega), List.getD_eq_getElem?_getD, List.getElem?_set_self (by omega), hoi, hdi]
          exact ht1.symm
        · rw [List.getD_eq_getElem?_getD, List.getElem?_set_ne (Ne.symm e), ← List.getD_eq_getElem?_getD, hcj j hj]
          by_cases e2 : j < i
          · rw [if_pos e2, if_pos (by omega)]
          · rw [if_neg e2, if_neg (by omega)]
      have K3n : Hid (Below w.heap.size w (wr.setCell ⟨g, i, none⟩ (.int .u8 (a3.toNat : Int))).drew) :=
        (HB.out.drew).setCell (p := ⟨g, i, none⟩) (by show w.heap.size ≤ g; omega) _
      have fb' : wr.drew.frozen? ⟨g, i, none⟩ = false := fb
      have cb' : wr.drew.cell? ⟨g, i, none⟩ = some (.int .u8 ((c.getD i 0).toNat : Int)) := cb
      clear hbt hcj hoi hdi cb fb ht1 HR HB ha1 ha2 ha3 hss
      go_wp2_with fail
      rw [hsn]
      clear hsn
      refine wp_region_pl (fun Y => Y.cell? ⟨g, i, none⟩ = some (.int .u8 ((c.getD i 0).toNat : Int))) ((0, 0) :: (1, 0) :: (2, 0) :: (3, 0) :: (4, 0) :: (5, 0) :: (6, 0) :: (7, 0) :: (8, 0) :: (9, 0) :: (10, 0) :: (11, 0) :: (12, 0) :: (13, 0) :: (14, 2) :: []) (by kernel_rfl) (by kernel_rfl) ?_
      iterate 14 (apply wpP_go; (focus rfl); (focus rfl); (focus exact cb'); (focus (rintro Z s0; go_simp; exact rfl)); intro K hK; go_simp; refine hK _ ?_; clear hK K)
      apply wpP_two
      focus rfl
      intro K hK
      go_simp
      refine hK _ _ ?_
      clear hK K
      refine wpP_done ?_
      clear cb' fb' e1 e2 e3
      generalize (wr.setCell ⟨g, i, none⟩ (.int .u8 (a3.toNat : Int))).drew = V at *
      go_wp2_with fail
      go_roundw
      case rel => exact ⟨i + 1, by omega, by go_num, HNX, K3n⟩
      case measure => simp [intOf]; omega
    · have z0 : ¬ (i : Int) < 64 := by omega
      obtain ⟨c, hbt, hcj⟩ := HR.out
      have hcl : c.length = 64 := by obtain ⟨_, _, _, h1, _⟩ := hbt; exact h1
      have hce : c = mrgS t was.data.toList tw.data.toList := by
        have hol : was.data.toList.length = 64 := by rw [Array.length_toList]; exact h1
        apply List.ext_getElem
        · rw [mrgS_len, hol, hcl]
        · intro j h1 h2
          have hj : j < 64 := by omega
          have := hcj j hj
          rw [if_pos (by omega), List.getD_eq_getElem?_getD, List.getElem?_eq_getElem h1] at this
          simp only [Option.getD_some] at this
          rw [this]
          have h3 : (mrgS t was.data.toList tw.data.toList)[j]? = some (mrg1 t j (was.data.toList.getD j 0) (tw.data.toList.getD j 0)) := by
            unfold mrgS
            rw [List.getElem?_map, List.getElem?_range (by omega)]
            rfl
          rw [List.getElem?_eq_getElem h2] at h3
          exact (Option.some.inj h3).symm
      subst hce
      have hcs := hbt.str cap
      clear hcj hbt HR hcl
      go_wp2_with fail
      go_ret
      exact ⟨rfl, by first | exact HB.out | (rw [← hg]; exact HB.out)⟩
end Go.Proofs.YtfglopkglnpokaaGreat
namespace Go.Proofs.YtfglopkglnpokaaGreat
open Go.RowKit
theorem Tryz.infoN : (Tryz.prog.info? 3).map (fun i => (i.zero, i.size, i.bytes)) = some (some (.int .i64 0), 1, 8) := by kernel_rfl
theorem Tryz.infoSS : (Tryz.prog.info? 25).map (fun i => (i.zero, i.size, i.bytes)) = some (some (.slice none 0 0), 1, 24) := by kernel_rfl
def outS (g cp : Nat → Nat) (P k : Nat) : List Value := (List.range k).map fun b => .slice (some ⟨g b, 0, none⟩) P (cp b)
theorem outS_len (g cp : Nat → Nat) (P k : Nat) : (outS g cp P k).length = k := by simp [outS]
theorem outS_get (g cp : Nat → Nat) (P k : Nat) {b : Nat} (hb : b < k) (d : Value) : (outS g cp P k).getD b d = .slice (some ⟨g b, 0, none⟩) P (cp b) := by
  unfold outS
  rw [List.getD_eq_getElem?_getD, List.getElem?_map, List.getElem?_range hb]
  rfl
theorem outS_succ {g g' cp cp' : Nat → Nat} {P k : Nat} (h : ∀ b, b < k → g' b = g b ∧ cp' b = cp b) : outS g' cp' P (k + 1) = outS g cp P k ++ [.slice (some ⟨g' k, 0, none⟩) P (cp' k)] := by
  unfold outS
  rw [List.range_succ, List.map_append]
  congr 1
  apply List.map_congr_left
  intro b hb
  rw [List.mem_range] at hb
  rw [(h b hb).1, (h b hb).2]
/-- A flash under construction: k blocks are made. -/
structure GN (w : World) (w0 Z X nb B P E k : Nat) (pv : Value) (g cp : Nat → Nat) : Prop where
  box : Rg w Z 23 3 (fun j => if j = 0 then .int .i64 B else if j = 1 then .int .i64 P else .int .i64 E)
  top : Rg w X 74 8 (fun j => if j = 3 then pv else rfc (newF B P E) ⟨0, 0, nb, B, g, cp⟩ j)
  num : Rg w nb 3 B (fun _ => .int .i64 0)
  row : w.ownsRow 0 25 1 pv k (outS g cp P k)
  rl : ∀ h, pv.ownBlock = some h → w0 ≤ h
  pag : ∀ b, b < k → Rg w (g b) 9 P (fun _ => str blank)
  cap : ∀ b, b < k → P ≤ cp b ∧ cp b ≤ maxLen
  inj : ∀ b c, b < k → c < k → g b = g c → b = c
  low : w0 ≤ Z ∧ w0 ≤ X ∧ w0 ≤ nb ∧ ∀ b, b < k → w0 ≤ g b
theorem GN.below {w w' : World} {w0 Z X nb B P E k : Nat} {pv : Value} {g cp : Nat → Nat} (h : GN w w0 Z X nb B P E k pv g cp) (b : Below w.heap.size w w') : GN w' w0 Z X nb B P E k pv g cp := by
  have c : Ch (fun _ => False) w w' := Ch.of_below b _
  exact ⟨h.box.ch c id, h.top.ch c id, h.num.ch c id, own_ch h.row c (fun _ _ h => h), h.rl, fun i hi => (h.pag i hi).ch c id, h.cap, h.inj, h.low⟩
theorem GN.next {w w2 w3 : World} {w0 Z X nb B P E k gi ci g2 c2 : Nat} {pv : Value} {g cp : Nat → Nat} {li : Nat} (h : GN w w0 Z X nb B P E k pv g cp) (hb : Below w.heap.size w w2) (hg : w.heap.size ≤ gi) (hr : Rg w2 gi 9 P (fun _ => str blank)) (hci : P ≤ ci ∧ ci ≤ maxLen)
    (hl : w2.heap.size ≤ li) (ho : w3.ownsRow 0 25 1 (.slice (some ⟨g2, 0, none⟩) (k + 1) c2) (k + 1) (outS g cp P k ++ [.slice (some ⟨gi, 0, none⟩) P ci])) (hg3 : (w2.alloc (.cells #[.slice (some ⟨gi, 0, none⟩) P ci] 25)).grownBy w3 pv.ownBlock) (hat : pv.ownBlock = some g2 ∨ g2 = li) :
    GN (w3.setCell ⟨X, 3, none⟩ (.slice (some ⟨g2, 0, none⟩) (k + 1) c2)) w0 Z X nb B P E (k + 1) (.slice (some ⟨g2, 0, none⟩) (k + 1) c2) (fun b => if b = k then gi else g b) (fun b => if b = k then ci else cp b) := by
  have h2 := h.below hb
  have c : Ch (fun x => pv.ownBlock = some x) w2 w3 := (Ch.alloc (Ch.refl _ w2) _).trans (Ch.of_grown hg3 fun _ hx _ => hx)
  have hw0 : w0 ≤ w.heap.size := Nat.le_trans h.low.1 (Nat.le_of_lt h.box.lt)
  have tX : pv.ownBlock ≠ some X := fun e => (h2.top.ty (own_rg h2.row e) (by decide)) rfl
  have tZ : pv.ownBlock ≠ some Z := fun e => (h2.box.ty (own_rg h2.row e) (by decide)) rfl
  have tn : pv.ownBlock ≠ some nb := fun e => (h2.num.ty (own_rg h2.row e) (by decide)) rfl
  have tg : ∀ b, b < k → pv.ownBlock ≠ some (g b) := fun b hb e => ((h2.pag b hb).ty (own_rg h2.row e) (by decide)) rfl
  have ti : pv.ownBlock ≠ some gi := fun e => (hr.ty (own_rg h2.row e) (by decide)) rfl
  have hX3 := h2.top.ch c tX
  have hrow3 : ∃ cs, w3.heap[g2]? = some (.cells cs 25 (0, 0)) := by
    obtain ⟨cs, hh, _⟩ := own_rg (g := g2) ho rfl
    exact ⟨cs, hh⟩
  have gX : ∀ {B1 t1 N1 : Nat} {f1 : Nat → Value}, Rg w3 B1 t1 N1 f1 → t1 ≠ 74 → Rg (w3.setCell ⟨X, 3, none⟩ (.slice (some ⟨g2, 0, none⟩) (k + 1) c2)) B1 t1 N1 f1 := fun hB ht => hB.far (p := ⟨X, 3, none⟩) (fun e => hX3.ty hB (Ne.symm ht) e) _
  refine ⟨gX (h2.box.ch c tZ) (by decide), (hX3.set (i := 3) (by omega) _).congr fun j hj8 => ?_, gX (h2.num.ch c tn) (by decide), ?_, fun x hx => ?_, fun b hbk => ?_, fun b hbk => ?_, fun b c' hb1 hc1 e => ?_, h.low.1, h.low.2.1, h.low.2.2.1, fun b hbk => ?_⟩
  · rcases (by omega : j = 0 ∨ j = 1 ∨ j = 2 ∨ j = 3 ∨ j = 4 ∨ j = 5 ∨ j = 6 ∨ j = 7) with rfl | rfl | rfl | rfl | rfl | rfl | rfl | rfl <;> rfl
  · have e : outS (fun b => if b = k then gi else g b) (fun b => if b = k then ci else cp b) P (k + 1) = outS g cp P k ++ [.slice (some ⟨gi, 0, none⟩) P ci] := by
      rw [outS_succ (g := g) (cp := cp) (fun b hb => by simp only [if_neg (by omega : ¬ b = k)]; exact ⟨trivial, trivial⟩)]
      simp
    rw [e]
    refine own_ch ho ((Ch.refl (fun x => x = X) w3).setCell (p := ⟨X, 3, none⟩) (fun _ => rfl) _) fun x hx e2 => ?_
    have hx : g2 = x := by simpa [Value.ownBlock] using hx
    obtain ⟨cs, hh⟩ := hrow3
    have : Rg w3 x 25 0 (fun _ => .bool false) := ⟨cs, by rw [← hx]; exact hh, fun i hi => by omega⟩
    exact hX3.ty this (by decide) e2.symm
  · have hx : g2 = x := by simpa [Value.ownBlock] using hx
    subst hx
    rcases hat with h1 | h1
    · exact h.rl _ h1
    · have := hb.size; omega
  · by_cases e : b = k
    · subst e
      simp only [if_true]
      exact gX (hr.ch c ti) (by decide)
    · simp only [if_neg e]
      exact gX ((h2.pag b (by omega)).ch c (tg b (by omega))) (by decide)
  · by_cases e : b = k
    · simp only [if_pos e]; exact hci
    · simp only [if_neg e]; exact h.cap b (by omega)
  · by_cases e1 : b = k <;> by_cases e2 : c' = k
    · omega
    · simp only [if_pos e1, if_neg e2] at e
      have := (h.pag c' (by omega)).lt
      omega
    · simp only [if_neg e1, if_pos e2] at e
      have := (h.pag b (by omega)).lt
      omega
    · simp only [if_neg e1, if_neg e2] at e
      exact h.inj b c' (by omega) (by omega) e
  · by_cases e : b = k
    · simp only [if_pos e]; omega
    · simp only [if_neg e]
      exact h.low.2.2.2 b (by omega)
theorem GN.done {w : World} {w0 Z X nb B P E : Nat} {pv : Value} {g cp : Nat → Nat} (h : GN w w0 Z X nb B P E B pv g cp) (hB : 1 ≤ B ∧ B ≤ 32) (hP : 1 ≤ P ∧ P ≤ 32) (hE : E ≤ 1048576) : ∃ y, RW w (fun k => w0 ≤ k ∧ k < w.heap.size) X y (newF B P E) := by
  obtain ⟨ph, pc, hv, h1, h2, h3⟩ := own_form h.row (by omega)
  rw [Nat.mul_one] at h3
  have htop := h.top
  rw [hv] at htop
  refine ⟨⟨ph, pc, nb, B, g, cp⟩, htop.congr fun j hj => ?_, h3.congr fun b hb => ?_, h.num.congr fun b _ => rfl, fun b hb => h.pag b hb, fun b c hb hc e => h.inj b c hb hc e, ⟨h.low.2.1, h.top.lt⟩, ⟨h.rl ph (by rw [hv]; rfl), h3.lt⟩, ⟨h.low.2.2.1, h.num.lt⟩, fun b hb => ⟨h.low.2.2.2 b hb, (h.pag b hb).lt⟩, ⟨h1, h2⟩, ⟨Nat.le_refl _, by unfold maxLen; show B ≤ _; omega⟩, fun b hb => h.cap b hb, hB, hP, hE, fun b _ => Nat.zero_le _, (fun e => by cases e), Nat.zero_le _, fun b p _ _ => by simp [newF, blank], fun k hk => hk.2⟩
  · rcases (by omega : j = 0 ∨ j = 1 ∨ j = 2 ∨ j = 3 ∨ j = 4 ∨ j = 5 ∨ j = 6 ∨ j = 7) with rfl | rfl | rfl | rfl | rfl | rfl | rfl | rfl <;> rfl
  · exact outS_get g cp P B hb _
set_option maxRecDepth 100000 in
set_option maxHeartbeats 8000000 in
theorem rnew_any (w : World) (B P E : Nat) (hB : 1 ≤ B ∧ B ≤ 32) (hP : 1 ≤ P ∧ P ≤ 32) (hE : E ≤ 1048576) :
    Calls Tryz.prog 10 #[.agg #[.int .i64 B, .int .i64 P, .int .i64 E]] w fun e w' => ∃ X y, e = .returned (.tuple #[fptr X, .int .i64 0]) ∧ RW w' (fun k => w.heap.size ≤ k ∧ k < w'.heap.size) X y (newF B P E) ∧ Below w.heap.size w w' := by
  obtain ⟨iS, hiS, hxS0, hxS1, hxS2⟩ := info_parts Tryz.infoS
  obtain ⟨iT, hiT, hxT0, hxT1, hxT2⟩ := info_parts Tryz.infoSS
  obtain ⟨i0, hi0, hx0, hx1, hx2⟩ := info_parts Tryz.infoN
  obtain ⟨w1, hw1⟩ : ∃ w1, w.alloc (.cells #[.int .i64 B, .int .i64 P, .int .i64 E] 23) = w1 := ⟨_, rfl⟩
  have R1 : Row w1 w.heap.size 23 3 (fun j => if j = 0 then .int .i64 B else if j = 1 then .int .i64 P else .int .i64 E) := by rw [← hw1]; exact Row.ofList w 23 _ _ 3 rfl
  obtain ⟨Z, hZ⟩ : ∃ Z, w.heap.size = Z := ⟨_, rfl⟩
  have hz1 : w1.heap.size = w.heap.size + 1 := by rw [← hw1]; simp
  have B1 : Below w.heap.size w w1 := by rw [← hw1]; exact (Below.refl _ _).alloc (Nat.le_refl _) _
  rw [hZ] at R1 hz1
  have b0 : w1.cell? ⟨Z, 0, none⟩ = some (.int .i64 B) := R1.cell (i := 0) (by omega)
  have b1 : w1.cell? ⟨Z, 1, none⟩ = some (.int .i64 P) := R1.cell (i := 1) (by omega)
  have b2 : w1.cell? ⟨Z, 2, none⟩ = some (.int .i64 E) := R1.cell (i := 2) (by omega)
  have hBI : (1 : Int) ≤ B ∧ (B : Int) ≤ 32 := by omega
  have hPI : (1 : Int) ≤ P ∧ (P : Int) ≤ 32 := by omega
  have hEI : (0 : Int) ≤ E ∧ (E : Int) ≤ 1048576 := by omega
  have S0 : Hid (w1.drew.cell? ⟨Z, 0, none⟩ = some (.int .i64 B) ∧ w1.drew.cell? ⟨Z, 1, none⟩ = some (.int .i64 P) ∧ w1.drew.cell? ⟨Z, 2, none⟩ = some (.int .i64 E)) := ⟨b0, b1, b2⟩
  have hmk : (Instr.makeSlice 72 (.int .i64 (B : Int)) (.int .i64 (B : Int))).run Tryz.prog w1.drew = .ok (.slice (some ⟨w1.heap.size, 0, none⟩) B B) (w1.drew.alloc (.cells (madeCells (Value.int .i64 0).cells B) 3)) := by
    have := run_make (P := Tryz.prog) w1.drew 72 3 i0 (.int .i64 0) Tryz.underlying72 hi0 hx0 .i64 .i64 (B : Int) (B : Int) (by omega) (by omega) (by rw [hx2]; omega) (by omega)
    rw [hx1] at this
    simpa using this
  obtain ⟨w2, hw2⟩ : ∃ w2, w1.drew.alloc (.cells (madeCells (Value.int .i64 0).cells B) 3) = w2 := ⟨_, rfl⟩
  have R2 : Rg w2 w1.heap.size 3 B (fun _ => .int .i64 0) := by rw [← hw2]; exact Rg.made w1.drew 3 B (.int .i64 0) rfl
  have B2 : Below w1.heap.size w1 w2 := by rw [← hw2]; exact ((Below.refl _ _).drew).alloc (Nat.le_refl _) _
  have hz2 : w2.heap.size = Z + 2 := by rw [← hw2]; simp [hz1]
  rw [hw2] at hmk
  rw [hz1] at R2 hmk
  have S2 : Hid (w2.cell? ⟨Z, 0, none⟩ = some (.int .i64 B) ∧ w2.cell? ⟨Z, 1, none⟩ = some (.int .i64 P) ∧ w2.cell? ⟨Z, 2, none⟩ = some (.int .i64 E)) :=
    ⟨(B2.cell (p := ⟨Z, 0, none⟩) (by show Z < _; omega)).trans b0, (B2.cell (p := ⟨Z, 1, none⟩) (by show Z < _; omega)).trans b1, (B2.cell (p := ⟨Z, 2, none⟩) (by show Z < _; omega)).trans b2⟩
  go_enter Tryz.func10, Tryz.ntmps10
  go_wp2_with fail
  refine wp_region_pl (fun Y => Y.cell? ⟨Z, 0, none⟩ = some (.int .i64 B) ∧ Y.cell? ⟨Z, 1, none⟩ = some (.int .i64 P) ∧ Y.cell? ⟨Z, 2, none⟩ = some (.int .i64 E)) ((0, 0) :: (1, 0) :: (2, 0) :: (3, 1) :: (4, 0) :: (5, 1) :: (6, 0) :: []) (by kernel_rfl) (by kernel_rfl) ?_
  iterate 3 (apply wpP_go; (focus rfl); (focus rfl); (focus exact S0.out); (focus (rintro Y ⟨s0, s1, s2⟩; go_simp; exact rfl)); intro K hK; go_simp; refine hK _ ?_; clear hK K)
  apply wpP_one
  focus rfl
  intro K hK
  go_simp
  refine hK _ _ S2.out ?_
  clear hK K
  iterate 1 (apply wpP_go; (focus rfl); (focus rfl); (focus exact S2.out); (focus (rintro Y ⟨s0, s1, s2⟩; go_simp; exact rfl)); intro K hK; go_simp; refine hK _ ?_; clear hK K)
  apply wpP_one
  focus rfl
  intro K hK
  go_simp
  have hz3 : (w2.alloc (.cells #[.int .i64 B, .int .i64 P, .int .i64 E, .slice none 0 0, .slice (some ⟨Z + 1, 0, none⟩) B B, .bool false, .int .i64 (-1), .int .u64 0] 74)).heap.size = Z + 3 := by simp [hz2]
  have B3 : Below w2.heap.size w2 (w2.alloc (.cells #[.int .i64 B, .int .i64 P, .int .i64 E, .slice none 0 0, .slice (some ⟨Z + 1, 0, none⟩) B B, .bool false, .int .i64 (-1), .int .u64 0] 74)) := (Below.refl _ _).alloc (Nat.le_refl _) _
  have R3 : Row (w2.alloc (.cells #[.int .i64 B, .int .i64 P, .int .i64 E, .slice none 0 0, .slice (some ⟨Z + 1, 0, none⟩) B B, .bool false, .int .i64 (-1), .int .u64 0] 74)) (Z + 2) 74 8 (fun j => if j = 3 then .slice none 0 0 else rfc (newF B P E) ⟨0, 0, Z + 1, B, fun _ => 0, fun _ => 0⟩ j) := by
    rw [← hz2]
    exact Row.ofList w2 74 _ _ 8 rfl
  have S3 : Hid ((w2.alloc (.cells #[.int .i64 B, .int .i64 P, .int .i64 E, .slice none 0 0, .slice (some ⟨Z + 1, 0, none⟩) B B, .bool false, .int .i64 (-1), .int .u64 0] 74)).cell? ⟨Z, 0, none⟩ = some (.int .i64 B) ∧ (w2.alloc (.cells #[.int .i64 B, .int .i64 P, .int .i64 E, .slice none 0 0, .slice (some ⟨Z + 1, 0, none⟩) B B, .bool false, .int .i64 (-1), .int .u64 0] 74)).cell? ⟨Z, 1, none⟩ = some (.int .i64 P) ∧ (w2.alloc (.cells #[.int .i64 B, .int .i64 P, .int .i64 E, .slice none 0 0, .slice (some ⟨Z + 1, 0, none⟩) B B, .bool false, .int .i64 (-1), .int .u64 0] 74)).cell? ⟨Z, 2, none⟩ = some (.int .i64 E)) :=
    ⟨(B3.cell (p := ⟨Z, 0, none⟩) (by show Z < _; omega)).trans S2.out.1, (B3.cell (p := ⟨Z, 1, none⟩) (by show Z < _; omega)).trans S2.out.2.1, (B3.cell (p := ⟨Z, 2, none⟩) (by show Z < _; omega)).trans S2.out.2.2⟩
  have row_rg : ∀ {W : World} {b t N : Nat} {v : Nat → Value}, Row W b t N v → Rg W b t N v := fun h => by obtain ⟨cs, h1, _, h2⟩ := h; exact ⟨cs, h1, h2⟩
  have HN : Hid (∃ pv g cp, GN (w2.alloc (.cells #[.int .i64 B, .int .i64 P, .int .i64 E, .slice none 0 0, .slice (some ⟨Z + 1, 0, none⟩) B B, .bool false, .int .i64 (-1), .int .u64 0] 74)) Z Z (Z + 2) (Z + 1) B P E 0 pv g cp) := by
    refine ⟨.slice none 0 0, fun _ => 0, fun _ => 0, ((row_rg R1).ch (Ch.of_below B2 (fun _ => False)) id).ch (Ch.of_below B3 (fun _ => False)) id, row_rg R3, R2.ch (Ch.of_below B3 (fun _ => False)) id, ⟨rfl, .inl ⟨rfl, rfl⟩⟩, (fun _ h => (by cases h)), fun b hb => by omega, fun b hb => by omega, fun b c hb => by omega, by omega, by omega, by omega, fun b hb => by omega⟩
  have HB : Hid (Below Z w (w2.alloc (.cells #[.int .i64 B, .int .i64 P, .int .i64 E, .slice none 0 0, .slice (some ⟨Z + 1, 0, none⟩) B B, .bool false, .int .i64 (-1), .int .u64 0] 74))) := by
    have := bthen B1 (bthen B2 B3)
    rw [hZ] at this
    exact this
  refine hK _ _ S3.out ?_
  clear hK K
  clear R1 R2 R3 B1 B2 B3 b0 b1 b2 hmk hw1 hw2
  iterate 1 (apply wpP_go; (focus rfl); (focus rfl); (focus exact S3.out); (focus (rintro Y ⟨s0, s1, s2⟩; go_simp; exact rfl)); intro K hK; go_simp; refine hK _ ?_; clear hK K)
  refine wpP_done ?_
  clear S0 S2 S3 hi0 hx0 hx1 hx2
  generalize (w2.alloc (.cells #[.int .i64 B, .int .i64 P, .int .i64 E, .slice none 0 0, .slice (some ⟨Z + 1, 0, none⟩) B B, .bool false, .int .i64 (-1), .int .u64 0] 74)) = w3 at *
  go_wp2_with fail
  go_loopw [5] (fun z wr => ∃ k : Nat, k ≤ B ∧ z = .int .i64 (k : Int) ∧ Hid (∃ pv g cp, GN wr Z Z (Z + 2) (Z + 1) B P E k pv g cp) ∧ Hid (Below Z w wr)) (fun z _ => B - (intOf z).toNat)
  case atStart => exact ⟨0, by omega, rfl, HN, HB⟩
  case round =>
    clear HN HB hz3
    obtain ⟨k, hk, rfl, HN, HB⟩ := hrel
    obtain ⟨pv, g, cp, hn⟩ := HN.out
    obtain ⟨wo, hwo⟩ : ∃ wo : World, wo = wr := ⟨_, rfl⟩
    subst hwo
    have b0 : wo.cell? ⟨Z, 0, none⟩ = some (.int .i64 B) := hn.box.cell (i := 0) (by omega)
    by_cases hlt : k < B
    · have y0 : (k : Int) < B := by omega
      have HG := Lib.hid hn
      have HO : Hid (OB wo wo 9 1 (.slice none 0 0) 0 (List.replicate 0 (str blank))) := OB.nil (Below.refl _ _)
      clear HN hn
      go_wp2_with fail
      clear b0
      go_loopw [6, 7] (fun l z wi => ∃ (j : Nat) (vl : Value), j ≤ P ∧ vl = l ∧ z = .int .i64 (j : Int) ∧ Hid (OB wo wi 9 1 vl j (List.replicate j (str blank)))) (fun _ z _ => P - (intOf z).toNat)
      case atStart => exact ⟨0, _, by omega, rfl, rfl, HO⟩
      case round =>
        clear HO
        obtain ⟨j, vl, hj, hvl, rfl, HO⟩ := hrel
        subst hvl
        have b1 : wr.cell? ⟨Z, 1, none⟩ = some (.int .i64 P) := (HG.out.below HO.out.bel).box.cell (i := 1) (by omega)
        by_cases hltj : j < P
        · have y1 : (j : Int) < P := by omega
          obtain ⟨be, hbe⟩ : ∃ be : ByteArray, str blank = .string be := ⟨_, rfl⟩
          have HER := Lib.hid (rerased_any wr)
          rw [hbe] at HER
          have HBE := Lib.hid hbe
          clear hbe
          go_wp2_with fail
          refine HER.out.mono ?_
          rintro e w4 ⟨rfl, b4⟩
          have HO4 := Lib.hid (HO.out.below b4)
          have HOW := Lib.hid (HO4.out.below ((Below.refl _ _).alloc (Nat.le_refl _) (.cells #[.string be] 9)))
          clear b4 HER HO b1
          go_wp2_with (at_builtin; refine wpList_append_lies _ rfl _ _ 25 rfl 0 9 iS _ 1 16 Tryz.underlying25 hiS hxS0 hxS1 hxS2 rfl (by omega) vl j (List.replicate j (str blank)) rfl (by exact HOW.out.row) ⟨w4.heap.size, 0, none⟩ 1 1 [.string be] rfl rfl (by exact news_new w4 9 #[.string be] _ rfl) (by intro u hu; rw [List.mem_singleton.1 hu]; rfl) (by omega) (by simp only [maxLen]; omega) (by omega) (Nat.zero_le _) (w4.heap.size + 1) (by simp) ?_)
          intro g1 cap1 w6 ho hg hat hbel
          have O2 := HO4.out.take (m := 1) (news := [.string be]) HOW.out.bel ho hg (by
            rcases hat with h | h
            · exact .inl h
            · right; have := HO4.out.bel.size; omega)
          rw [← HBE.out, ← List.replicate_succ'] at O2
          have HO6 := Lib.hid O2
          clear ho hg hat hbel O2 HO4 HOW
          go_wp2_with fail
          go_roundw
          case rel => exact ⟨j + 1, _, by omega, rfl, by go_num, HO6⟩
          case measure => simp [intOf]; omega
        · have y1 : ¬ (j : Int) < P := by omega
          have hjP : j = P := by omega
          subst hjP
          have hps : List.replicate j (str blank) = (List.replicate j blank).map str := by simp
          have ho := HO.out
          rw [hps] at ho
          obtain ⟨gi, ci, rfl, hgi, hc1, hc2, hr0⟩ := ho.ps (by omega)
          have hr : Rg wr gi 9 j (fun _ => str blank) := hr0.congr fun i hi => by
            rw [List.getD_eq_getElem?_getD, List.getElem?_replicate, if_pos hi]; rfl
          have HRI := Lib.hid hr
          have HGI := Lib.hid hgi
          have hn2 := HG.out.below HO.out.bel
          have x3 : wr.cell? ⟨Z + 2, 3, none⟩ = some pv := hn2.top.cell (i := 3) (by omega)
          have HOW := Lib.hid ((hn2.below ((Below.refl _ _).alloc (Nat.le_refl _) (.cells #[.slice (some ⟨gi, 0, none⟩) j ci] 25))).row)
          have HN2 := Lib.hid hn2
          have HBE := Lib.hid HO.out.bel
          clear hr hr0 hgi ho hps HO hn2
          go_wp2_with (at_builtin; refine wpList_append_lies _ rfl _ _ 71 rfl 0 25 iT _ 1 24 Tryz.underlying71 hiT hxT0 hxT1 hxT2 rfl (by omega) pv k (outS g cp j k) rfl (by exact HOW.out) ⟨wr.heap.size, 0, none⟩ 1 1 [.slice (some ⟨gi, 0, none⟩) j ci] rfl rfl (by exact news_new wr 25 #[.slice (some ⟨gi, 0, none⟩) j ci] _ rfl) (by intro u hu; rw [List.mem_singleton.1 hu]; rfl) (by omega) (by simp only [maxLen]; omega) (by omega) (Nat.zero_le _) (wr.heap.size + 1) (by simp) ?_)
          intro g2 c2 w6 ho hg hat hbel
          have hnx := HG.out.next HBE.out HGI.out HRI.out ⟨hc1, hc2⟩ (Nat.le_succ wr.heap.size) ho hg hat
          have c6 := (Ch.alloc (Ch.refl (fun x => pv.ownBlock = some x) wr) (.cells #[.slice (some ⟨gi, 0, none⟩) j ci] 25)).trans (grown_ch hg)
          have tX : pv.ownBlock ≠ some (Z + 2) := fun e => (HN2.out.top.ty (own_rg HN2.out.row e) (by decide)) rfl
          have x36 := (HN2.out.top.ch c6 tX).cell (i := 3) (by omega)
          have f36 := (HN2.out.top.ch c6 tX).frozen 3
          simp only [if_true] at x36
          have hbz : Below Z w wr := HB.out.trans (HBE.out.mono (by rw [← hZ]; exact HB.out.size))
          have hb6 : Below Z w w6 := hbz.trans ((c6.below (B := Z) (by rw [← hZ]; exact hbz.size) (fun x hx => HG.out.rl x hx)))
          have HN6 := Lib.hid hnx
          have HB6 : Hid (Below Z w (w6.setCell ⟨Z + 2, 3, none⟩ (.slice (some ⟨g2, 0, none⟩) (k + 1) c2))) := hb6.setCell (p := ⟨Z + 2, 3, none⟩) (by show Z ≤ Z + 2; omega) _
          clear ho hg hat hbel hnx c6 tX hbz hb6 x3 HOW HN2 HRI HGI HBE HG HB b1
          go_wp2_with fail
          go_roundw
          case rel => exact ⟨k + 1, by omega, by go_num, ⟨_, _, _, HN6.out⟩, HB6⟩
          case measure => simp [intOf]; omega
    · have y0 : ¬ (k : Int) < B := by omega
      have hkB : k = B := by omega
      subst hkB
      obtain ⟨y, hy⟩ := hn.done hB hP hE
      have HY := Lib.hid hy
      clear HN hn hy
      go_wp2_with fail
      go_ret2
      exact ⟨Z + 2, rfl, ⟨y, HY.out⟩, HB.out⟩
end Go.Proofs.YtfglopkglnpokaaGreat
namespace Go.Proofs.YtfglopkglnpokaaGreat
open Go.RowKit
/-- Zero bits among the first k of a byte. -/
def zk (b : UInt8) (k : Nat) : Nat := ((List.range k).filter fun j => b.toNat / 2 ^ j % 2 == 0).length
theorem zk_succ (b : UInt8) (k : Nat) : zk b (k + 1) = zk b k + if b.toNat / 2 ^ k % 2 = 0 then 1 else 0 := by
  unfold zk
  rw [List.range_succ, List.filter_append, List.length_append]
  by_cases h : b.toNat / 2 ^ k % 2 = 0
  · have hb : (b.toNat / 2 ^ k % 2 == 0) = true := by simpa using h
    rw [if_pos h, List.filter_cons, hb]; rfl
  · have hb : (b.toNat / 2 ^ k % 2 == 0) = false := by simpa using h
    rw [if_neg h, List.filter_cons, hb]; rfl
theorem zk_all : ∀ x : Fin 256, ((List.range 8).filter fun j => x.val / 2 ^ j % 2 == 0).length = 8 - Lib.onesCount x.val := by decide +kernel
theorem zk_eight (b : UInt8) : zk b 8 = zbit b := zk_all ⟨b.toNat, b.toNat_lt⟩
theorem zk_le (b : UInt8) (k : Nat) : zk b k ≤ k := by
  unfold zk
  have := List.length_filter_le (fun j => b.toNat / 2 ^ j % 2 == 0) (List.range k)
  rw [List.length_range] at this
  exact this
theorem b_bit (b : UInt8) (k : Nat) : bits .and .u8 ((b.toNat : Int) / 2 ^ k) 1 = ((b.toNat / 2 ^ k % 2 : Nat) : Int) := by
  have hb : b.toNat < 256 := b.toNat_lt
  have hq : b.toNat / 2 ^ k ≤ 255 := Nat.le_trans (Nat.div_le_self _ _) (by omega)
  have h := b_and (UInt8.ofNat (b.toNat / 2 ^ k)) 1
  rw [u8_of hq] at h
  rw [UInt8.toNat_and, u8_of hq] at h
  have h1 : ((1 : UInt8).toNat : Int) = 1 := rfl
  have h2 : b.toNat / 2 ^ k &&& (1 : UInt8).toNat = b.toNat / 2 ^ k % 2 := Nat.and_one_is_mod _
  rw [h1, h2] at h
  rw [← h]
  congr 1
set_option maxHeartbeats 2000000 in
theorem rzeros_any (s : ByteArray) (w : World) (hs : s.size ≤ 1000000) :
    Calls Tryz.prog 45 #[.string s] w fun e w' => e = .returned (.int .i64 (zeros s.data.toList : Nat)) ∧ w = w' := by
  have hsz : s.data.toList.length = s.size := Array.length_toList
  go_enter Tryz.func45, Tryz.ntmps45
  go_wp2_with fail
  go_loop [3, 4] (fun x z => ∃ i : Nat, i ≤ s.size ∧ z = .int .i64 (i : Int) ∧ x = .int .i64 (zeros (s.data.toList.take i) : Nat)) (fun _ z => s.size - (intOf z).toNat)
  case atStart => exact ⟨0, by omega, rfl, rfl⟩
  case round =>
    obtain ⟨i, hi, rfl, rfl⟩ := hrel
    by_cases hlt : i < s.size
    · have y0 : (i : Int) < s.size := by omega
      have hz := zeros_le (s.data.toList.take i)
      rw [List.length_take] at hz
      have hzs : zeros (s.data.toList.take (i + 1)) = zeros (s.data.toList.take i) + zk s[i] 8 := by
        rw [zeros_succ (l := s.data.toList) (i := i) (by omega), zk_eight]
        rfl
      have HZS := Lib.hid hzs
      obtain ⟨bt, hbt⟩ : ∃ b : UInt8, s[i] = b := ⟨_, rfl⟩
      rw [hbt] at HZS
      clear hzs
      generalize zeros (s.data.toList.take i) = z at *
      go_wp2_with fail
      go_loop [3, 5] (fun x y => ∃ k : Nat, k ≤ 8 ∧ y = .int .i64 (k : Int) ∧ x = .int .i64 ((z + zk bt k : Nat) : Int)) (fun _ y => 8 - (intOf y).toNat)
      case atStart => exact ⟨0, by omega, rfl, by simp [zk]⟩
      case round =>
        obtain ⟨k, hk, rfl, rfl⟩ := hrel
        have hzk := zk_le bt k
        by_cases hk8 : k < 8
        · have y1 : (k : Int) < 8 := by omega
          have e1 := b_bit bt k
          have hsu := zk_succ bt k
          have HSU := Lib.hid hsu
          clear hsu
          by_cases hb : bt.toNat / 2 ^ k % 2 = 0
          · rw [hb] at e1
            rw [if_pos hb] at HSU
            generalize zk bt k = q at *
            go_wp2_with fail
            go_round
            case rel => exact ⟨k + 1, by omega, by go_num, by rw [HSU.out]; go_num⟩
            case measure => simp [intOf]; omega
          · have hb1 : bt.toNat / 2 ^ k % 2 = 1 := by omega
            rw [hb1] at e1
            rw [if_neg hb] at HSU
            generalize zk bt k = q at *
            go_wp2_with fail
            go_round
            case rel => exact ⟨k + 1, by omega, by go_num, by rw [HSU.out]; go_num⟩
            case measure => simp [intOf]; omega
        · have y1 : ¬ (k : Int) < 8 := by omega
          have hke : k = 8 := by omega
          subst hke
          go_wp2_with fail
          go_round
          case rel => exact ⟨i + 1, by omega, by go_num, by rw [HZS.out]⟩
          case measure => simp [intOf]; omega
    · have y0 : ¬ (i : Int) < s.size := by omega
      have e : s.data.toList.take i = s.data.toList := List.take_of_length_le (by omega)
      rw [e]
      go_wp2_with fail
      go_ret
      exact ⟨rfl, rfl⟩
set_option maxHeartbeats 1000000 in
theorem rfits_any (k n v : Nat) (w : World) (hn : n ≤ 1000000000000) (hv : v ≤ 1000000000000) :
    Calls Tryz.prog 71 #[.int .u8 (k : Int), .int .i64 (n : Int), .int .i64 (v : Int)] w fun e w' => e = .returned (.bool (okLens k n v)) ∧ w = w' := by
  go_enter Tryz.func71, Tryz.ntmps71
  go_wp2_with fail
  all_goals
    go_ret
    refine ⟨?_, rfl⟩
    show Ending.returned (Value.bool _) = Ending.returned (Value.bool _)
    congr 2
    rw [Bool.eq_iff_iff]
    simp at *
    simp [okLens]
    omega
set_option maxHeartbeats 1000000 in
theorem rnumber_any (s : ByteArray) (w : World) (hs : s.size = 8) :
    Calls Tryz.prog 61 #[.string s] w fun e w' => e = .returned (.int .u64 (numB s.data.toList : Nat)) ∧ w = w' := by
  have hsz : s.data.toList.length = 8 := by rw [Array.length_toList]; exact hs
  go_enter Tryz.func61, Tryz.ntmps61
  go_wp2_with fail
  go_loop [3, 4] (fun x z => ∃ i : Nat, i ≤ 8 ∧ z = .int .i64 (i : Int) ∧ x = .int .u64 (numB (s.data.toList.take i) : Nat)) (fun _ z => 8 - (intOf z).toNat)
  case atStart => exact ⟨0, by omega, rfl, rfl⟩
  case round =>
    obtain ⟨i, hi, rfl, rfl⟩ := hrel
    by_cases hlt : i < 8
    · have y0 : (i : Int) < 8 := by omega
      obtain ⟨x, hx⟩ : ∃ x, numB (s.data.toList.take i) = x := ⟨_, rfl⟩
      have hxl : x < 72057594037927936 := by
        have h1 := numB_lt (s.data.toList.take i)
        rw [hx, List.length_take, hsz] at h1
        have h2 : 256 ^ (min i 8) ≤ 256 ^ 7 := Nat.pow_le_pow_right (by omega) (by omega)
        omega
      have hb : (s[i]'(by omega)).toNat < 256 := (s[i]'(by omega)).toNat_lt
      have hn : numB (s.data.toList.take (i + 1)) = x * 256 + (s[i]'(by omega)).toNat := by
        rw [List.take_succ_eq_append_getElem (by omega), numB_snoc, hx]
        rfl
      have HN := Lib.hid hn
      rw [hx]
      clear hn hx
      go_wp2_with fail
      go_round
      case rel => exact ⟨i + 1, by omega, by go_num, by rw [HN.out]; simp⟩
      case measure => simp [intOf]; omega
    · have y0 : ¬ (i : Int) < 8 := by omega
      have e : s.data.toList.take i = s.data.toList := List.take_of_length_le (by omega)
      rw [e]
      go_wp2_with fail
      go_ret
      exact ⟨rfl, rfl⟩
set_option maxRecDepth 100000 in
set_option maxHeartbeats 1000000 in
theorem rrecord_any (k : Nat) (n v : ByteArray) (w : World) (hk : k ≤ 255) (hn : n.size ≤ 255) (hv : v.size ≤ 255) :
    Calls Tryz.prog 15 #[.int .u8 (k : Int), .string n, .string v] w fun e w' => e = .returned (.string ⟨(recd k n.data.toList v.data.toList).toArray⟩) ∧ Below w.heap.size w w' := by
  obtain ⟨lead, hlead⟩ : ∃ lead : ByteArray, lead = ⟨#[UInt8.ofNat k, UInt8.ofNat n.size, UInt8.ofNat v.size]⟩ := ⟨_, rfl⟩
  have hb1 : Below w.heap.size w (w.alloc (.cells #[.int .u8 k, .int .u8 n.size, .int .u8 v.size] 5)) := (Below.refl _ _).alloc (Nat.le_refl _) _
  have B1 := Lib.hid hb1
  have C1 : (convert 40 9 (.slice (some ⟨w.heap.size, 0, none⟩) 3 3)).run Tryz.prog (w.alloc (.cells #[.int .u8 k, .int .u8 n.size, .int .u8 v.size] 5)) = .ok (.string lead) (w.alloc (.cells #[.int .u8 k, .int .u8 n.size, .int .u8 v.size] 5)) := by
    rw [hlead]; exact conv_new w [UInt8.ofNat k, UInt8.ofNat n.size, UInt8.ofNat v.size] #[.int .u8 k, .int .u8 n.size, .int .u8 v.size] 3 rfl (by simp [u8_of hk, u8_of hn, u8_of hv])
  have hls : lead.size = 3 := by rw [hlead]; rfl
  have HL := Lib.hid hlead
  clear hb1 hlead
  go_enter Tryz.func15, Tryz.ntmps15
  go_wp2_with fail
  have hbz := B1.out.size
  generalize w.alloc (.cells #[.int .u8 k, .int .u8 n.size, .int .u8 v.size] 5) = w1 at *
  clear C1
  obtain ⟨all, hall⟩ : ∃ all : ByteArray, all = lead ++ n ++ v := ⟨_, rfl⟩
  have has : all.size ≤ 513 := by rw [hall, ByteArray.size_append, ByteArray.size_append]; omega
  have HZ := Lib.hid (rzeros_any all w1 (by omega))
  have hz := zeros_le all.data.toList
  have hzl : all.data.toList.length = all.size := Array.length_toList
  obtain ⟨c, hc⟩ : ∃ c, zeros all.data.toList = c := ⟨_, rfl⟩
  rw [hc] at HZ hz
  have HC := Lib.hid hc
  have HA := Lib.hid hall
  have hc4 : c ≤ 4104 := by omega
  rw [← hall]
  clear hc hz hzl hall
  refine HZ.out.mono ?_
  rintro e w2 ⟨rfl, rfl⟩
  have hc1 : c / 256 ≤ 255 := by omega
  have hc2 : c % 256 ≤ 255 := by omega
  obtain ⟨chk, hchk⟩ : ∃ chk : ByteArray, chk = ⟨#[UInt8.ofNat (c / 256), UInt8.ofNat (c % 256)]⟩ := ⟨_, rfl⟩
  have C2 : (convert 40 9 (.slice (some ⟨w1.heap.size, 0, none⟩) 2 2)).run Tryz.prog (w1.alloc (.cells #[.int .u8 ((c : Int) / 256), .int .u8 ((c : Int) % 256)] 5)) = .ok (.string chk) (w1.alloc (.cells #[.int .u8 ((c : Int) / 256), .int .u8 ((c : Int) % 256)] 5)) := by
    rw [hchk]; exact conv_new w1 [UInt8.ofNat (c / 256), UInt8.ofNat (c % 256)] _ 2 rfl (by
      simp only [List.map_cons, List.map_nil, u8_of hc1, u8_of hc2]
      rfl)
  have B2 : Hid (Below w.heap.size w (w1.alloc (.cells #[.int .u8 ((c : Int) / 256), .int .u8 ((c : Int) % 256)] 5))) := B1.out.alloc hbz _
  have HF : Hid (lead ++ chk ++ n ++ v = (⟨(recd k n.data.toList v.data.toList).toArray⟩ : ByteArray)) := by
    show _ = _
    apply ByteArray.ext
    apply Array.toList_inj.1
    have f1 := HL.out
    have f2 : n.data.toList.length = n.size := Array.length_toList
    have f3 : v.data.toList.length = v.size := Array.length_toList
    have f4 : lead.data.toList = [UInt8.ofNat k, UInt8.ofNat n.size, UInt8.ofNat v.size] := by rw [f1]
    have f5 : zeros [UInt8.ofNat k, UInt8.ofNat n.size, UInt8.ofNat v.size] + zeros n.data.toList + zeros v.data.toList = c := by
      rw [← HC.out, HA.out]
      simp only [ByteArray.data_append, Array.toList_append, zeros_append, f4]
    unfold recd
    dsimp only
    rw [f2, f3, f5]
    simp only [ByteArray.data_append, Array.toList_append, f4, hchk]
  have hcs : chk.size = 2 := by rw [hchk]; rfl
  have q1 : ¬ 9223372036854775807 < 5 + n.size := by omega
  have q2 : ¬ 9223372036854775807 < 5 + n.size + v.size := by omega
  clear hchk hc1 hc2 HC HA HL
  go_wp2_with fail
  go_ret
  exact ⟨by rw [← HF.out]; rfl, B2.out⟩
/-- Bytes in memory, most significant first: what has been appended so far. -/
theorem be8_take (n : Nat) {j : Nat} (h : j < 8) : (be8 n).take (j + 1) = (be8 n).take j ++ [UInt8.ofNat (n / 2 ^ (8 * (7 - j)) % 256)] := by
  have hl : (be8 n).length = 8 := by simp [be8]
  rw [List.take_succ_eq_append_getElem (by omega)]
  congr 2
  simp [be8]
def bys (l : Str) : List Value := l.map fun b => .int .u8 (b.toNat : Int)
theorem OB.bt {w wr : World} {v : Value} {n : Nat} {l : Str} (h : OB w wr 5 1 v n (bys l)) (hn : 0 < n) : ∃ g cap, v = .slice (some ⟨g, 0, none⟩) n cap ∧ n ≤ cap ∧ cap ≤ maxLen ∧ Bt wr g n l := by
  have hl : l.length = n := by have := h.row.1; simpa [bys] using this
  obtain ⟨g, cap, rfl, h1, h2, h3⟩ := own_form h.row hn
  refine ⟨g, cap, rfl, h1, h2, ?_⟩
  rw [Nat.mul_one] at h3
  refine Rg.bt (h3.congr fun i hi => ?_) hl
  unfold bys
  rw [List.getD_eq_getElem?_getD, List.getD_eq_getElem?_getD, List.getElem?_map, List.getElem?_eq_getElem (by omega)]
  rfl
set_option maxRecDepth 100000 in
set_option maxHeartbeats 1000000 in
theorem rbig_any (n : Nat) (w : World) :
    Calls Tryz.prog 68 #[.int .u64 n] w fun e w' => e = .returned (str (be8 n)) ∧ Below w.heap.size w w' := by
  obtain ⟨i0, hi0, hx0, hx1, hx2⟩ := info_parts Tryz.infoU
  have HO : Hid (OB w w 5 1 (.slice none 0 0) 0 (bys ((be8 n).take 0))) := OB.nil (Below.refl _ _)
  go_enter Tryz.func68, Tryz.ntmps68
  go_wp2_with fail
  go_loopw [3, 4] (fun x z wr => ∃ (j : Nat) (vl : Value), j ≤ 8 ∧ vl = x ∧ z = .int .i64 (7 - (j : Int)) ∧ Hid (OB w wr 5 1 vl j (bys ((be8 n).take j)))) (fun _ z _ => (intOf z + 1).toNat)
  case atStart => exact ⟨0, _, by omega, rfl, rfl, HO⟩
  case round =>
    clear HO
    obtain ⟨j, vl, hj, hvl, rfl, HO⟩ := hrel
    subst hvl
    by_cases hlt : j < 8
    · obtain ⟨m, hm⟩ : ∃ m : Nat, m + j = 7 := ⟨7 - j, by omega⟩
      have hmI : (7 : Int) - (j : Int) = (m : Int) := by omega
      have y0 : (m : Int) ≥ 0 := by omega
      have hm7 : m ≤ 7 := by omega
      rw [hmI]
      obtain ⟨u, hu⟩ : ∃ u : UInt8, u = UInt8.ofNat (n / 2 ^ (8 * m) % 256) := ⟨_, rfl⟩
      have hue : ((n : Int) / 2 ^ (8 * m) % 256) = (u.toNat : Int) := by
        rw [hu, u8_of (by omega)]
        simp
      have HT : Hid (bys ((be8 n).take (j + 1)) = bys ((be8 n).take j) ++ [.int .u8 ((n : Int) / 2 ^ (8 * m) % 256)]) := by
        show _ = _
        rw [be8_take n hlt, hue, hu, show 7 - j = m by omega]
        unfold bys
        rw [List.map_append]; rfl
      have HOW := Lib.hid (HO.out.below ((Below.refl _ wr).alloc (Nat.le_refl _) (.cells #[.int .u8 ((n : Int) / 2 ^ (8 * m) % 256)] 5)))
      have HMJ := Lib.hid hmI
      clear hu hue hmI
      go_wp2_with (at_builtin; refine wpList_append_lies _ rfl _ _ 40 rfl 0 5 i0 _ 1 1 Tryz.underlying40 hi0 hx0 hx1 hx2 rfl (by omega) vl j (bys ((be8 n).take j)) rfl (by exact HOW.out.row) ⟨wr.heap.size, 0, none⟩ 1 1 [.int .u8 ((n : Int) / 2 ^ (8 * m) % 256)] rfl rfl (by exact news_new wr 5 #[.int .u8 ((n : Int) / 2 ^ (8 * m) % 256)] _ rfl) (by intro u hu; rw [List.mem_singleton.1 hu]; rfl) (by omega) (by simp only [maxLen]; omega) (by omega) (Nat.zero_le _) (wr.heap.size + 1) (by simp) ?_)
      intro g1 cap1 w6 ho hg hat hbel
      have O2 := HO.out.take (m := 1) (news := [.int .u8 ((n : Int) / 2 ^ (8 * m) % 256)]) HOW.out.bel ho hg (by
        rcases hat with h | h
        · exact .inl h
        · right; have := HO.out.bel.size; omega)
      rw [← HT.out] at O2
      have HO6 := Lib.hid O2
      clear ho hg hat hbel O2 HO HOW HT
      go_wp2_with fail
      go_roundw
      case rel => exact ⟨j + 1, _, by omega, rfl, by rw [show (7 : Int) - ((j + 1 : Nat) : Int) = (m : Int) - 1 by omega], HO6⟩
      case measure => simp [intOf]
    · have hj8 : j = 8 := by omega
      subst hj8
      have hm1 : (7 : Int) - ((8 : Nat) : Int) = -1 := by omega
      rw [hm1]
      have ho := HO.out
      rw [List.take_of_length_le (by simp [be8])] at ho
      obtain ⟨g, cap, rfl, h1, h2, hbt⟩ := ho.bt (by omega)
      have hcs := hbt.str cap
      have HB := Lib.hid ho.bel
      clear ho hbt HO
      go_wp2_with fail
      go_ret
      exact ⟨rfl, HB.out⟩
end Go.Proofs.YtfglopkglnpokaaGreat
