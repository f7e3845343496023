/- gen.Topology. No condition but that the row lies in memory. -/
import Derived.Test.YtedihfcbpgogoaaTA
import Derived.Test.YtedihfcbpgogoaaPt
import Derived.Deep.DeepCutAuto
namespace Go.Proofs.Ytedihfcbpgogoaa
open Go.RowKit
theorem Try.info25 : (Try.prog.info? 25).map (fun i => (i.zero, i.size, i.bytes)) = some (some (.agg #[.int .i64 0, .int .i64 0, .int .i64 0, .int .i64 0, .bool false, .bool false, .bool false, .int .i64 0, .int .i64 0, .int .i64 0, .slice none 0 0]), 11, 88) := by kernel_rfl
def TopoP (w : World) (e : Ending) (w' : World) : Prop := ∃ X vb vo Lb T S n, e = .returned vo ∧ TS w w' X vb vo Lb T S n (fun _ => False) ∧ TG Lb T ∧ T.length ≤ 30
theorem vrow_cell (W : World) {q : Nat} (h : q < 6) : (W.alloc (.cells #[.int .i64 0, .int .i64 1, .int .i64 2, .int .i64 4, .int .i64 16, .int .i64 32] 3)).cell? ⟨W.heap.size, q, none⟩ = some (.int .i64 (vcv q)) := by
  rw [cell_of_row _ _ _ _ _ _ (heap_alloc_new W _)]
  rcases (by omega : q = 0 ∨ q = 1 ∨ q = 2 ∨ q = 3 ∨ q = 4 ∨ q = 5) with rfl | rfl | rfl | rfl | rfl | rfl <;> rfl
def gv (f : Fn) (j : Nat) : Value := (cF f).getD j undef
/-- Block G holds the function f. -/
def GR (w : World) (G : Nat) (f : Fn) : Prop := Row w G 25 11 (gv f)
theorem GR.of {w : World} {G : Nat} {f : Fn} {cs : Array Value} (h : w.heap[G]? = some (.cells cs 25 (0, 0))) (hc : cs.toList = cF f) : GR w G f := by
  have hs : cs.size = 11 := by rw [← Array.length_toList, hc]; rfl
  refine ⟨cs, h, hs, fun i hi => ?_⟩
  rw [← Array.getElem?_toList, hc]
  unfold gv
  rw [List.getD_eq_getElem?_getD, List.getElem?_eq_getElem (by rw [cF_len]; exact hi)]
  rfl
def CutG (W0 : World) (F : Nat) (pv msl mve mde mpn vc : Int) (s : Value) (wx : World) : Prop := ∃ (G : Nat) (br : Bool), s = .pointer (some ⟨G, 0, none⟩) ∧ F < G ∧ G < wx.heap.size ∧ Below W0.heap.size W0 wx ∧ GR wx G ⟨pv, msl, 1 + mve, mde, br, false, false, 0, mpn, vc, .slice none 0 0, []⟩
theorem finA {W0 : World} {F : Nat} {pv msl mve mde mpn vc : Int} (hz0 : W0.heap.size = F + 1) (row : Obj) (cs : Array Value) (br : Bool) (hc : cs.toList = cF ⟨pv, msl, 1 + mve, mde, br, false, false, 0, mpn, vc, .slice none 0 0, []⟩) : CutG W0 F pv msl mve mde mpn vc (.pointer (some ⟨F + 1 + 1, 0, none⟩)) ((W0.alloc row).alloc (.cells cs 25)).drew := by
  refine ⟨F + 1 + 1, br, rfl, by omega, by show F + 1 + 1 < ((W0.alloc row).alloc (.cells cs 25)).heap.size; simp [hz0], (((Below.refl _ _).alloc (Nat.le_refl _) _).alloc (by simp) _).drew, ?_⟩
  have := heap_alloc_new (W0.alloc row) (.cells cs 25)
  rw [show (W0.alloc row).heap.size = F + 1 + 1 by simp [hz0]] at this
  exact GR.of this hc
theorem finB {W0 : World} {F : Nat} {pv msl mve mde mpn vc : Int} (hz0 : W0.heap.size = F + 1) (row : Obj) (cs : Array Value) (br : Bool) (hc : cs.toList = cF ⟨pv, msl, 1 + mve, mde, br, false, false, 0, mpn, vc, .slice none 0 0, []⟩) : CutG W0 F pv msl mve mde mpn vc (.pointer (some ⟨F + 1, 0, none⟩)) ((W0.alloc (.cells cs 25)).alloc row).drew := by
  refine ⟨F + 1, br, rfl, by omega, by show F + 1 < ((W0.alloc (.cells cs 25)).alloc row).heap.size; simp [hz0], (((Below.refl _ _).alloc (Nat.le_refl _) _).alloc (by simp) _).drew, ?_⟩
  have := heap_alloc_new W0 (.cells cs 25)
  rw [hz0] at this
  refine GR.of ?_ hc
  exact (Below.heap_alloc (W0.alloc (.cells cs 25)) row (F + 1) (by simp [hz0])).trans this
theorem GR.pf {w : World} {G : Nat} {f : Fn} (h : GR w G f) (x : Bool) : GR (w.setCell ⟨G, 5, none⟩ (.bool x)) G { f with pf := x } := Row.congr (Row.set h (i := 5) (by omega) _) (fun j hj => by
  rcases (by omega : j = 0 ∨ j = 1 ∨ j = 2 ∨ j = 3 ∨ j = 4 ∨ j = 5 ∨ j = 6 ∨ j = 7 ∨ j = 8 ∨ j = 9 ∨ j = 10) with rfl | rfl | rfl | rfl | rfl | rfl | rfl | rfl | rfl | rfl | rfl <;> rfl)
theorem GR.hp {w : World} {G : Nat} {f : Fn} (h : GR w G f) (x : Bool) : GR (w.setCell ⟨G, 6, none⟩ (.bool x)) G { f with hp := x } := Row.congr (Row.set h (i := 6) (by omega) _) (fun j hj => by
  rcases (by omega : j = 0 ∨ j = 1 ∨ j = 2 ∨ j = 3 ∨ j = 4 ∨ j = 5 ∨ j = 6 ∨ j = 7 ∨ j = 8 ∨ j = 9 ∨ j = 10) with rfl | rfl | rfl | rfl | rfl | rfl | rfl | rfl | rfl | rfl | rfl <;> rfl)
theorem GR.sp {w : World} {G : Nat} {f : Fn} (h : GR w G f) (x : Int) : GR (w.setCell ⟨G, 7, none⟩ (.int .i64 x)) G { f with sp := x } := Row.congr (Row.set h (i := 7) (by omega) _) (fun j hj => by
  rcases (by omega : j = 0 ∨ j = 1 ∨ j = 2 ∨ j = 3 ∨ j = 4 ∨ j = 5 ∨ j = 6 ∨ j = 7 ∨ j = 8 ∨ j = 9 ∨ j = 10) with rfl | rfl | rfl | rfl | rfl | rfl | rfl | rfl | rfl | rfl | rfl <;> rfl)
theorem GR.bv {w : World} {G : Nat} {f : Fn} (h : GR w G f) (x : Value) (l : List (Int × Int)) : GR (w.setCell ⟨G, 10, none⟩ x) G { f with bv := x, ba := l } := Row.congr (Row.set h (i := 10) (by omega) _) (fun j hj => by
  rcases (by omega : j = 0 ∨ j = 1 ∨ j = 2 ∨ j = 3 ∨ j = 4 ∨ j = 5 ∨ j = 6 ∨ j = 7 ∨ j = 8 ∨ j = 9 ∨ j = 10) with rfl | rfl | rfl | rfl | rfl | rfl | rfl | rfl | rfl | rfl | rfl <;> rfl)
theorem ch1 (w : World) (G j : Nat) (u : Value) : Ch (fun k => k = G) w (w.setCell ⟨G, j, none⟩ u).drew := ((Ch.refl (fun k => k = G) w).setCell (p := ⟨G, j, none⟩) (fun _ => rfl) _).drew
theorem ch2 (w : World) (G j j' : Nat) (u u' : Value) : Ch (fun k => k = G) w ((w.setCell ⟨G, j, none⟩ u).setCell ⟨G, j', none⟩ u').drew := (((Ch.refl (fun k => k = G) w).setCell (p := ⟨G, j, none⟩) (fun _ => rfl) _).setCell (p := ⟨G, j', none⟩) (fun _ => rfl) _).drew
theorem bars_wf {l : List (Int × Int)} (h : AB l) : ∀ x ∈ l, wfB x := fun x hx => by
  obtain ⟨i, hi, rfl⟩ := List.mem_iff_getElem.1 hx
  have := h i hi
  unfold vBar at this
  rw [show bAt l i = l[i] by simp [bAt, hi]] at this
  unfold wfB InI
  omega
theorem chG (w : World) (F G : Nat) (j : Nat) (u : Value) : Ch (fun k => k = F ∨ k = G) w (w.setCell ⟨G, j, none⟩ u) := (Ch.refl _ _).setCell (fun _ => .inr rfl) u
def CutB (w : World) (T : List Fn) (Lb : List Int) (vo : Value) (S : Int → Int → Bool) (X F G : Nat) (br : Bool) (pa sl ve de pn vc : Int) (bv : Value) (s7 s11 : Value) (wx : World) : Prop :=
  ∃ (vb : Value) (pf hp : Bool) (sp : Int), s7 = vb ∧ s11 = .int .i64 (rgs br) ∧ TS w wx X vb vo (if br = true then Lb ++ [(T.length : Int)] else Lb) T S (T.length + 1) (fun k => k = F ∨ k = G) ∧ GR wx G ⟨pa, sl, ve, de, br, pf, hp, sp, pn, vc, .slice none 0 0, []⟩ ∧
    (0 ≤ sp ∧ sp ≤ 3) ∧ (0 < sp → br = true ∧ hp = true) ∧ (br = false → pf = false ∧ hp = false) ∧ wx.cell? ⟨F, 10, none⟩ = some bv
set_option maxRecDepth 100000 in
set_option maxHeartbeats 8000000 in
theorem topo_any {w : World} {a : Option Addr} {len cap : Nat} {T0 : List Fn} (h : FnS w a len cap T0) :
    Calls Try.prog 9 #[.slice a len cap, .int .i64 30] w (TopoP w) := by
  have H := Lib.hid h
  obtain ⟨hT, hcc, hml⟩ := h.len
  have HTL := Lib.hid hT
  clear h hT
  obtain ⟨i0, hi0, hx0, hx1, hx2⟩ := info_parts Try.info3
  obtain ⟨j0, hj0, hy0, hy1, hy2⟩ := info_parts Try.info25
  have hmm := @run_makeMap Try.prog
  go_enter Try.func9, Try.ntmps9
  go_wp2_with fail
  have S0 : Hid (TS w ((w.alloc (.map #[] 0)).alloc (.cells #[.int .i64 (-1)] 3)) w.heap.size (.slice (some ⟨w.heap.size + 1, 0, none⟩) 1 1) (.slice none 0 0) [-1] [] (seen [] 0) 0 (fun _ => False)) := by
    have hz : (w.alloc (.map #[] 0)).heap.size = w.heap.size + 1 := by simp
    refine ⟨((Below.refl _ _).alloc (Nat.le_refl _) _).alloc (by simp) _, ?_, ?_, World.ownsRow_nil _ _ _ _, ⟨Nat.le_refl _, fun h => h⟩, fun g hg => ?_, (fun g hg => by cases hg), (fun f hf => by cases hf), fun _ hk => hk.elim⟩
    · rw [seen_zero]; exact (MSet.made Try.prog w 50).ch (Ch.of_below ((Below.refl _ _).alloc (Nat.le_refl _) _) (fun _ => False)) (fun h => h)
    · have := IR.built (w.alloc (.map #[] 0)) [-1] (by simp)
      rw [hz] at this
      exact this
    · have e : w.heap.size + 1 = g := by simpa [Value.ownBlock] using hg
      exact ⟨by omega, by omega, fun h => h⟩
  have G0 : Hid (TG [-1] []) := ⟨(fun i hi => by cases hi), (fun f hf => by cases hf), (fun x hx => .inl (by simpa using hx)), by simp⟩
  obtain ⟨X, hX⟩ : ∃ X, w.heap.size = X := ⟨_, rfl⟩
  have HX := Lib.hid hX
  rw [hX] at S0 ⊢
  clear hX hmm
  go_loopw [5, 7, 8, 9, 10, 11] (fun vo vb z _ _ _ wr => ∃ (i : Nat) (Lb : List Int) (T : List Fn), i ≤ len ∧ z = .int .i64 (i : Int) ∧ Hid (TS w wr X vb vo Lb T (seen T T.length) T.length (fun _ => False)) ∧ Hid (TG Lb T) ∧ T.length ≤ 30) (fun _ _ z _ _ _ _ => len - (intOf z).toNat)
  case atStart => exact ⟨0, [-1], [], by omega, rfl, S0, G0, by simp⟩
  case round =>
    clear S0 G0
    obtain ⟨i, Lb, T, hi, rfl, S, G, hTl⟩ := hrel
    obtain ⟨ao, co, hvo, hco⟩ : ∃ ao co, u5 = .slice ao T.length co ∧ T.length ≤ co := by
      obtain ⟨_, ⟨e, h0⟩ | ⟨g, cap, cur, e, _, _, hn, _⟩⟩ := S.out.out
      · exact ⟨none, 0, by rw [e, h0], by omega⟩
      · exact ⟨_, _, e, hn⟩
    subst hvo
    obtain ⟨ab, cbb, hvb, hcb, hrb⟩ := S.out.row.form
    subst hvb
    have HRB := Lib.hid hrb
    clear hrb
    by_cases hil : i < len
    · have y1 : (i : Int) < len := by omega
      by_cases hT30 : T.length < 30
      · have y2 : (T.length : Int) < 30 := by omega
        obtain ⟨b, o, rfl, hb, hwf, hbv, hr⟩ := H.out.at hil
        have c : ∀ j u, (cF (fAt T0 i))[j]? = some u → wr.cell? ⟨b, o + i * 11 + j, none⟩ = some u := fun j u hu => (S.out.bel.cell (p := ⟨b, o + i * 11 + j, none⟩) hb).trans (rangeAt.cell hr hu)
        have c0 := c 0 _ rfl
        have c1 := c 1 _ rfl
        have c2 := c 2 _ rfl
        have c3 := c 3 _ rfl
        have c4 := c 4 _ rfl
        have c5 := c 5 _ rfl
        have c6 := c 6 _ rfl
        have c7 := c 7 _ rfl
        have c8 := c 8 _ rfl
        have c9 := c 9 _ rfl
        have c10 := c 10 _ rfl
        rw [Nat.add_zero] at c0
        obtain ⟨abv, cbv, hbv, hbar⟩ := hbv
        rw [hbv] at c10
        have HBAR := Lib.hid hbar
        clear c hr hbar hwf
        generalize fAt T0 i = f at *
        obtain ⟨nb, hnb⟩ : ∃ nb, f.ba.length = nb := ⟨_, rfl⟩
        rw [hnb] at c10 HBAR
        clear hnb hbv
        go_upto_region 8 with fail
        generalize hW : (wr.alloc (Obj.cells _ 25)) = W0 at *
        have hc : ∀ j u, (Array.mk _)[j]? = some u → W0.cell? ⟨wr.heap.size, j, none⟩ = some u := fun j u hu => by rw [← hW]; exact (cell_of_row _ _ j _ _ _ (heap_alloc_new wr _)).trans hu
        have B0 : Hid (Below wr.heap.size wr W0) := by rw [← hW]; exact (Below.refl _ _).alloc (Nat.le_refl _) _
        have hz0 : W0.heap.size = wr.heap.size + 1 := by rw [← hW]; simp
        clear c0 c1 c2 c3 c4 c5 c6 c7 c8 c9 c10
        have c0 := hc 0 _ rfl
        have c1 := hc 1 _ rfl
        have c2 := hc 2 _ rfl
        have c3 := hc 3 _ rfl
        have c4 := hc 4 _ rfl
        have c5 := hc 5 _ rfl
        have c6 := hc 6 _ rfl
        have c7 := hc 7 _ rfl
        have c8 := hc 8 _ rfl
        have c9 := hc 9 _ rfl
        have c10 := hc 10 _ rfl
        clear hc hW
        obtain ⟨F, hF⟩ : ∃ F, wr.heap.size = F := ⟨_, rfl⟩
        have HF := Lib.hid hF
        rw [hF] at c0 c1 c2 c3 c4 c5 c6 c7 c8 c9 c10 B0 hz0 ⊢
        clear hF
        obtain ⟨q, hq⟩ : ∃ q : Nat, moI f.pa (Lb.length : Int) = (q : Int) := ⟨(moI f.pa (Lb.length : Int)).toNat, by have := (moI_lt f.pa (Lb.length : Int) (by have := G.out.ln; omega)).1; omega⟩
        have hqL : q < Lb.length := by have := (moI_lt f.pa (Lb.length : Int) (by have := G.out.ln; omega)).2; omega
        obtain ⟨q6, hq6⟩ : ∃ q : Nat, moI f.vc 6 = (q : Int) := ⟨(moI f.vc 6).toNat, by have := (moI_lt f.vc 6 (by omega)).1; omega⟩
        have hq6L : q6 < 6 := by have := (moI_lt f.vc 6 (by omega)).2; omega
        have hLbl : 1 ≤ Lb.length ∧ Lb.length ≤ 31 := by have := G.out.ln; omega
        obtain ⟨msl, hmsl⟩ : ∃ m, moI f.sl 8 = m := ⟨_, rfl⟩
        obtain ⟨mve, hmve⟩ : ∃ m, moI f.ve 9 = m := ⟨_, rfl⟩
        obtain ⟨mde, hmde⟩ : ∃ m, moI f.de 9 = m := ⟨_, rfl⟩
        obtain ⟨mv3, hmv3⟩ : ∃ m, moI f.ve 3 = m := ⟨_, rfl⟩
        obtain ⟨mpn, hmpn⟩ : ∃ m, moI f.pn 5 = m := ⟨_, rfl⟩
        have bsl := moI_lt f.sl 8 (by omega)
        have bve := moI_lt f.ve 9 (by omega)
        have bde := moI_lt f.de 9 (by omega)
        have bpn := moI_lt f.pn 5 (by omega)
        rw [hmsl] at bsl
        rw [hmve] at bve
        rw [hmde] at bde
        rw [hmpn] at bpn
        have HQ : ∀ (n m v : Int), moI n m = v → 1 ≤ m → m ≤ 1000000 → ∀ Z : World, Calls Try.prog 12 #[.int .i64 n, .int .i64 m] Z fun e w' => e = .returned (.int .i64 v) ∧ Z = w' := fun n m v hv h1 h2 Z => (mod_any n m Z h1 h2).mono (fun e w' ⟨h3, h4⟩ => ⟨by rw [h3, hv], h4.symm⟩)
        have K0 := Lib.hid (HQ f.pa (Lb.length : Int) q hq (by omega) (by omega))
        have K1 := Lib.hid (HQ f.sl 8 msl hmsl (by omega) (by omega))
        have K2 := Lib.hid (HQ f.ve 9 mve hmve (by omega) (by omega))
        have K3 := Lib.hid (HQ f.de 9 mde hmde (by omega) (by omega))
        have K4 := Lib.hid (HQ f.ve 3 mv3 hmv3 (by omega) (by omega))
        have K5 := Lib.hid (HQ f.pn 5 mpn hmpn (by omega) (by omega))
        have K6 := Lib.hid (HQ f.vc 6 q6 hq6 (by omega) (by omega))
        have KD := Lib.hid (HQ f.de 3 _ rfl (by omega) (by omega))
        have KE := Lib.hid (HQ f.de 4 _ rfl (by omega) (by omega))
        have KS := Lib.hid (HQ f.sp 4 _ rfl (by omega) (by omega))
        have bsp := moI_lt f.sp 4 (by omega)
        clear hq hq6 hmsl hmve hmde hmv3 hmpn HQ
        obtain ⟨gb, hgb, hgbl, hcb2⟩ := HRB.out q hqL
        subst hgb
        obtain ⟨pv, hpv⟩ : ∃ pv, Lb.getD q 0 = pv := ⟨_, rfl⟩
        have hpvm : Hid (pv ∈ Lb) := by
          show pv ∈ Lb
          rw [← hpv, List.getD_eq_getElem?_getD, List.getElem?_eq_getElem hqL]
          exact List.getElem_mem hqL
        rw [hpv] at hcb2
        clear hpv
        have cb0 : W0.cell? ⟨gb, q, none⟩ = some (.int .i64 pv) := (B0.out.cell (p := ⟨gb, q, none⟩) (by rw [← HF.out]; exact hgbl)).trans hcb2
        clear hcb2
        have hw14 : IntKind.i64.wrap (1 + mve) = 1 + mve := IntWalk.i64_in _ (by omega)
        have hqI : (q : Int) < Lb.length := by omega
        have hq6I : (q6 : Int) < 6 := by omega
        have S0 : Hid (W0.drew.cell? ⟨F, 0, none⟩ = some (.int .i64 f.pa) ∧ W0.drew.cell? ⟨F, 1, none⟩ = some (.int .i64 f.sl) ∧ W0.drew.cell? ⟨F, 2, none⟩ = some (.int .i64 f.ve) ∧ W0.drew.cell? ⟨F, 3, none⟩ = some (.int .i64 f.de) ∧ W0.drew.cell? ⟨F, 4, none⟩ = some (.bool f.br) ∧ W0.drew.cell? ⟨F, 8, none⟩ = some (.int .i64 f.pn) ∧ W0.drew.cell? ⟨F, 9, none⟩ = some (.int .i64 f.vc) ∧ W0.drew.cell? ⟨gb, q, none⟩ = some (.int .i64 pv)) := ⟨c0, c1, c2, c3, c4, c8, c9, cb0⟩
        have hFl : F < W0.heap.size := by omega
        have hgl : gb < W0.heap.size := by have := HF.out; omega
        have SA : Hid (∀ V : World, Below W0.heap.size W0 V → (V.cell? ⟨F, 0, none⟩ = some (.int .i64 f.pa) ∧ V.cell? ⟨F, 1, none⟩ = some (.int .i64 f.sl) ∧ V.cell? ⟨F, 2, none⟩ = some (.int .i64 f.ve) ∧ V.cell? ⟨F, 3, none⟩ = some (.int .i64 f.de) ∧ V.cell? ⟨F, 4, none⟩ = some (.bool f.br) ∧ V.cell? ⟨F, 8, none⟩ = some (.int .i64 f.pn) ∧ V.cell? ⟨F, 9, none⟩ = some (.int .i64 f.vc) ∧ V.cell? ⟨gb, q, none⟩ = some (.int .i64 pv))) := fun V hV =>
          ⟨(hV.cell (p := ⟨F, 0, none⟩) hFl).trans c0, (hV.cell (p := ⟨F, 1, none⟩) hFl).trans c1, (hV.cell (p := ⟨F, 2, none⟩) hFl).trans c2, (hV.cell (p := ⟨F, 3, none⟩) hFl).trans c3, (hV.cell (p := ⟨F, 4, none⟩) hFl).trans c4, (hV.cell (p := ⟨F, 8, none⟩) hFl).trans c8, (hV.cell (p := ⟨F, 9, none⟩) hFl).trans c9, (hV.cell (p := ⟨gb, q, none⟩) hgl).trans cb0⟩
        have FC : Hid (W0.cell? ⟨F, 3, none⟩ = some (.int .i64 f.de) ∧ W0.cell? ⟨F, 6, none⟩ = some (.bool f.hp) ∧ W0.cell? ⟨F, 7, none⟩ = some (.int .i64 f.sp) ∧ W0.cell? ⟨F, 10, none⟩ = some (.slice abv nb cbv)) := ⟨c3, c6, c7, c10⟩
        clear c0 c1 c2 c3 c4 c5 c6 c7 c8 c9 c10 cb0 hFl hgl hgbl
        go_cut [10] (CutG W0 F pv msl mve mde mpn (vcv q6))
        case first =>
          cases hfbr : f.br
          · rw [hfbr] at S0 SA
            clear hfbr
            refine wp_region_pt (fun Z => Z.cell? ⟨F, 0, none⟩ = some (.int .i64 f.pa) ∧ Z.cell? ⟨F, 1, none⟩ = some (.int .i64 f.sl) ∧ Z.cell? ⟨F, 2, none⟩ = some (.int .i64 f.ve) ∧ Z.cell? ⟨F, 3, none⟩ = some (.int .i64 f.de) ∧ Z.cell? ⟨F, 4, none⟩ = some (.bool false) ∧ Z.cell? ⟨F, 8, none⟩ = some (.int .i64 f.pn) ∧ Z.cell? ⟨F, 9, none⟩ = some (.int .i64 f.vc) ∧ Z.cell? ⟨gb, q, none⟩ = some (.int .i64 pv)) (.step 0 0 (.step 1 0 (.step 2 0 (.step 3 0 (.step 4 0 (.step 5 0 (.step 6 0 (.step 7 0 (.step 8 0 (.step 9 0 (.step 10 0 (.step 11 0 (.step 12 0 (.step 13 0 (.step 14 0 (.step 15 0 (.step 16 0 (.step 17 0 (.step 18 0 (.step 19 0 (.step 20 0 (.step 21 0 (.step 22 0 (.step 23 0 (.step 24 0 (.step 25 0 (.step 26 0 (.step 27 0 (.step 28 0 (.step 30 0 (.step 31 0 (.step 32 0 (.fork 29 36 (.sub (.step 33 0 (.step 34 0 (.step 35 0 (.step 36 1 (.step 37 1 .nil)))))) (.step 29 1 (.sub (.step 33 0 (.step 34 0 (.step 35 0 (.step 37 1 .nil))))))))))))))))))))))))))))))))))))))) (by kernel_rfl) (by kernel_rfl) ?_
            iterate 5 (apply wpT_go; (focus rfl); (focus rfl); (focus exact S0.out); (focus (rintro Z ⟨s0, s1, s2, s3, s4, s8, s9, sb⟩; go_simp; exact rfl)); intro K hK; go_simp; refine hK _ ?_; clear hK K)
            apply wpT_call
            focus rfl
            focus rfl
            focus exact S0.out
            focus (rintro Z ⟨s0, s1, s2, s3, s4, s8, s9, sb⟩; go_simp; exact ⟨rfl, rfl⟩)
            focus (intro Z _; exact K0.out Z)
            intro K hK
            go_simp
            refine hK _ ?_
            clear hK K
            iterate 4 (apply wpT_go; (focus rfl); (focus rfl); (focus exact S0.out); (focus (rintro Z ⟨s0, s1, s2, s3, s4, s8, s9, sb⟩; go_simp; exact rfl)); intro K hK; go_simp; refine hK _ ?_; clear hK K)
            apply wpT_call
            focus rfl
            focus rfl
            focus exact S0.out
            focus (rintro Z ⟨s0, s1, s2, s3, s4, s8, s9, sb⟩; go_simp; exact ⟨rfl, rfl⟩)
            focus (intro Z _; exact K1.out Z)
            intro K hK
            go_simp
            refine hK _ ?_
            clear hK K
            iterate 2 (apply wpT_go; (focus rfl); (focus rfl); (focus exact S0.out); (focus (rintro Z ⟨s0, s1, s2, s3, s4, s8, s9, sb⟩; go_simp; exact rfl)); intro K hK; go_simp; refine hK _ ?_; clear hK K)
            apply wpT_call
            focus rfl
            focus rfl
            focus exact S0.out
            focus (rintro Z ⟨s0, s1, s2, s3, s4, s8, s9, sb⟩; go_simp; exact ⟨rfl, rfl⟩)
            focus (intro Z _; exact K2.out Z)
            intro K hK
            go_simp
            refine hK _ ?_
            clear hK K
            iterate 3 (apply wpT_go; (focus rfl); (focus rfl); (focus exact S0.out); (focus (rintro Z ⟨s0, s1, s2, s3, s4, s8, s9, sb⟩; go_simp; exact rfl)); intro K hK; go_simp; refine hK _ ?_; clear hK K)
            apply wpT_call
            focus rfl
            focus rfl
            focus exact S0.out
            focus (rintro Z ⟨s0, s1, s2, s3, s4, s8, s9, sb⟩; go_simp; exact ⟨rfl, rfl⟩)
            focus (intro Z _; exact K3.out Z)
            intro K hK
            go_simp
            refine hK _ ?_
            clear hK K
            iterate 3 (apply wpT_go; (focus rfl); (focus rfl); (focus exact S0.out); (focus (rintro Z ⟨s0, s1, s2, s3, s4, s8, s9, sb⟩; go_simp; exact rfl)); intro K hK; go_simp; refine hK _ ?_; clear hK K)
            iterate 2 (apply wpT_go; (focus rfl); (focus rfl); (focus exact S0.out); (focus (rintro Z ⟨s0, s1, s2, s3, s4, s8, s9, sb⟩; go_simp; exact rfl)); intro K hK; go_simp; refine hK _ ?_; clear hK K)
            apply wpT_call
            focus rfl
            focus rfl
            focus exact S0.out
            focus (rintro Z ⟨s0, s1, s2, s3, s4, s8, s9, sb⟩; go_simp; exact ⟨rfl, rfl⟩)
            focus (intro Z _; exact K4.out Z)
            intro K hK
            go_simp
            refine hK _ ?_
            clear hK K
            iterate 1 (apply wpT_go; (focus rfl); (focus rfl); (focus exact S0.out); (focus (rintro Z ⟨s0, s1, s2, s3, s4, s8, s9, sb⟩; go_simp; exact rfl)); intro K hK; go_simp; refine hK _ ?_; clear hK K)
            iterate 3 (apply wpT_go; (focus rfl); (focus rfl); (focus exact S0.out); (focus (rintro Z ⟨s0, s1, s2, s3, s4, s8, s9, sb⟩; go_simp; exact rfl)); intro K hK; go_simp; refine hK _ ?_; clear hK K)
            apply wpT_call
            focus rfl
            focus rfl
            focus exact S0.out
            focus (rintro Z ⟨s0, s1, s2, s3, s4, s8, s9, sb⟩; go_simp; exact ⟨rfl, rfl⟩)
            focus (intro Z _; exact K5.out Z)
            intro K hK
            go_simp
            refine hK _ ?_
            clear hK K
            iterate 2 (apply wpT_go; (focus rfl); (focus rfl); (focus exact S0.out); (focus (rintro Z ⟨s0, s1, s2, s3, s4, s8, s9, sb⟩; go_simp; exact rfl)); intro K hK; go_simp; refine hK _ ?_; clear hK K)
            apply wpT_call
            focus rfl
            focus rfl
            focus exact S0.out
            focus (rintro Z ⟨s0, s1, s2, s3, s4, s8, s9, sb⟩; go_simp; exact ⟨rfl, rfl⟩)
            focus (intro Z _; exact K6.out Z)
            intro K hK
            go_simp
            refine hK _ ?_
            clear hK K
            apply wpT_fork
            focus rfl
            focus rfl
            · intro K hK
              go_simp
              refine hK _ _ (SA.out _ ((Below.refl _ _).alloc (Nat.le_refl _) _).drew) ?_
              clear hK K
              have SV : Hid (∀ V : World, Below (F + 2) (W0.alloc (.cells #[.int .i64 0, .int .i64 1, .int .i64 2, .int .i64 4, .int .i64 16, .int .i64 32] 3)) V → V.cell? ⟨F + 1, q6, none⟩ = some (.int .i64 (vcv q6))) := fun V hV => (hV.cell (p := ⟨F + 1, q6, none⟩) (by show F + 1 < F + 2; omega)).trans (by have := vrow_cell W0 hq6L; rw [hz0] at this; exact this)
              have S1 : Hid (((W0.alloc (.cells #[.int .i64 0, .int .i64 1, .int .i64 2, .int .i64 4, .int .i64 16, .int .i64 32] 3)).drew.cell? ⟨F, 0, none⟩ = some (.int .i64 f.pa) ∧ (W0.alloc (.cells #[.int .i64 0, .int .i64 1, .int .i64 2, .int .i64 4, .int .i64 16, .int .i64 32] 3)).drew.cell? ⟨F, 1, none⟩ = some (.int .i64 f.sl) ∧ (W0.alloc (.cells #[.int .i64 0, .int .i64 1, .int .i64 2, .int .i64 4, .int .i64 16, .int .i64 32] 3)).drew.cell? ⟨F, 2, none⟩ = some (.int .i64 f.ve) ∧ (W0.alloc (.cells #[.int .i64 0, .int .i64 1, .int .i64 2, .int .i64 4, .int .i64 16, .int .i64 32] 3)).drew.cell? ⟨F, 3, none⟩ = some (.int .i64 f.de) ∧ (W0.alloc (.cells #[.int .i64 0, .int .i64 1, .int .i64 2, .int .i64 4, .int .i64 16, .int .i64 32] 3)).drew.cell? ⟨F, 4, none⟩ = some (.bool false) ∧ (W0.alloc (.cells #[.int .i64 0, .int .i64 1, .int .i64 2, .int .i64 4, .int .i64 16, .int .i64 32] 3)).drew.cell? ⟨F, 8, none⟩ = some (.int .i64 f.pn) ∧ (W0.alloc (.cells #[.int .i64 0, .int .i64 1, .int .i64 2, .int .i64 4, .int .i64 16, .int .i64 32] 3)).drew.cell? ⟨F, 9, none⟩ = some (.int .i64 f.vc) ∧ (W0.alloc (.cells #[.int .i64 0, .int .i64 1, .int .i64 2, .int .i64 4, .int .i64 16, .int .i64 32] 3)).drew.cell? ⟨gb, q, none⟩ = some (.int .i64 pv)) ∧ (W0.alloc (.cells #[.int .i64 0, .int .i64 1, .int .i64 2, .int .i64 4, .int .i64 16, .int .i64 32] 3)).drew.cell? ⟨F + 1, q6, none⟩ = some (.int .i64 (vcv q6))) := ⟨SA.out _ ((Below.refl _ _).alloc (Nat.le_refl _) _).drew, by have := vrow_cell W0 hq6L; rw [hz0] at this; exact this⟩
              refine wpT_sub (fun Z => (Z.cell? ⟨F, 0, none⟩ = some (.int .i64 f.pa) ∧ Z.cell? ⟨F, 1, none⟩ = some (.int .i64 f.sl) ∧ Z.cell? ⟨F, 2, none⟩ = some (.int .i64 f.ve) ∧ Z.cell? ⟨F, 3, none⟩ = some (.int .i64 f.de) ∧ Z.cell? ⟨F, 4, none⟩ = some (.bool false) ∧ Z.cell? ⟨F, 8, none⟩ = some (.int .i64 f.pn) ∧ Z.cell? ⟨F, 9, none⟩ = some (.int .i64 f.vc) ∧ Z.cell? ⟨gb, q, none⟩ = some (.int .i64 pv)) ∧ Z.cell? ⟨F + 1, q6, none⟩ = some (.int .i64 (vcv q6))) (fun Z h => h.1) S1.out ?_
              iterate 1 (apply wpT_go; (focus rfl); (focus rfl); (focus exact S1.out); (focus (rintro Z ⟨⟨s0, s1, s2, s3, s4, s8, s9, sb⟩, sv⟩; go_simp; exact rfl)); intro K hK; go_simp; refine hK _ ?_; clear hK K)
              iterate 1 (apply wpT_go; (focus rfl); (focus rfl); (focus exact S1.out); (focus (rintro Z ⟨⟨s0, s1, s2, s3, s4, s8, s9, sb⟩, sv⟩; go_simp; exact rfl)); intro K hK; go_simp; refine hK _ ?_; clear hK K)
              iterate 1 (apply wpT_go; (focus rfl); (focus rfl); (focus exact S1.out); (focus (rintro Z ⟨⟨s0, s1, s2, s3, s4, s8, s9, sb⟩, sv⟩; go_simp; exact rfl)); intro K hK; go_simp; refine hK _ ?_; clear hK K)
              apply wpT_one
              focus rfl
              intro K hK
              go_simp
              refine hK _ _ ⟨SA.out _ (((Below.refl _ _).alloc (Nat.le_refl _) _).alloc (by simp) _).drew, SV.out _ ((Below.refl _ _).alloc (by simp [hz0]) _).drew⟩ ?_
              clear hK K
              apply wpT_one
              focus rfl
              intro K hK
              go_simp
              refine hK _ _ ⟨SA.out _ (((Below.refl _ _).alloc (Nat.le_refl _) _).alloc (by simp) _).drew, SV.out _ ((Below.refl _ _).alloc (by simp [hz0]) _).drew⟩ ?_
              clear hK K
              refine wpT_done ?_
              go_wp2_with fail
              go_meet
              exact finA hz0 _ _ _ rfl
            · intro K hK
              go_simp
              refine hK _ _ (SA.out _ ((Below.refl _ _).alloc (Nat.le_refl _) _).drew) ?_
              clear hK K
              apply wpT_one
              focus rfl
              intro K hK
              go_simp
              refine hK _ _ (SA.out _ (((Below.refl _ _).alloc (Nat.le_refl _) _).alloc (by simp) _).drew) ?_
              clear hK K
              have SV : Hid (∀ V : World, Below (F + 3) ((W0.alloc (.cells #[.int .i64 0, .int .i64 0, .int .i64 0, .int .i64 0, .bool false, .bool false, .bool false, .int .i64 0, .int .i64 0, .int .i64 0, .slice none 0 0] 25)).alloc (.cells #[.int .i64 0, .int .i64 1, .int .i64 2, .int .i64 4, .int .i64 16, .int .i64 32] 3)) V → V.cell? ⟨F + 1 + 1, q6, none⟩ = some (.int .i64 (vcv q6))) := fun V hV => (hV.cell (p := ⟨F + 1 + 1, q6, none⟩) (by show F + 1 + 1 < F + 3; omega)).trans (by have := vrow_cell (W0.alloc (.cells #[.int .i64 0, .int .i64 0, .int .i64 0, .int .i64 0, .bool false, .bool false, .bool false, .int .i64 0, .int .i64 0, .int .i64 0, .slice none 0 0] 25)) hq6L; rw [show (W0.alloc (.cells #[.int .i64 0, .int .i64 0, .int .i64 0, .int .i64 0, .bool false, .bool false, .bool false, .int .i64 0, .int .i64 0, .int .i64 0, .slice none 0 0] 25)).heap.size = F + 1 + 1 by simp [hz0]] at this; exact this)
              have S1 : Hid ((((W0.alloc (.cells #[.int .i64 0, .int .i64 0, .int .i64 0, .int .i64 0, .bool false, .bool false, .bool false, .int .i64 0, .int .i64 0, .int .i64 0, .slice none 0 0] 25)).alloc (.cells #[.int .i64 0, .int .i64 1, .int .i64 2, .int .i64 4, .int .i64 16, .int .i64 32] 3)).drew.cell? ⟨F, 0, none⟩ = some (.int .i64 f.pa) ∧ ((W0.alloc (.cells #[.int .i64 0, .int .i64 0, .int .i64 0, .int .i64 0, .bool false, .bool false, .bool false, .int .i64 0, .int .i64 0, .int .i64 0, .slice none 0 0] 25)).alloc (.cells #[.int .i64 0, .int .i64 1, .int .i64 2, .int .i64 4, .int .i64 16, .int .i64 32] 3)).drew.cell? ⟨F, 1, none⟩ = some (.int .i64 f.sl) ∧ ((W0.alloc (.cells #[.int .i64 0, .int .i64 0, .int .i64 0, .int .i64 0, .bool false, .bool false, .bool false, .int .i64 0, .int .i64 0, .int .i64 0, .slice none 0 0] 25)).alloc (.cells #[.int .i64 0, .int .i64 1, .int .i64 2, .int .i64 4, .int .i64 16, .int .i64 32] 3)).drew.cell? ⟨F, 2, none⟩ = some (.int .i64 f.ve) ∧ ((W0.alloc (.cells #[.int .i64 0, .int .i64 0, .int .i64 0, .int .i64 0, .bool false, .bool false, .bool false, .int .i64 0, .int .i64 0, .int .i64 0, .slice none 0 0] 25)).alloc (.cells #[.int .i64 0, .int .i64 1, .int .i64 2, .int .i64 4, .int .i64 16, .int .i64 32] 3)).drew.cell? ⟨F, 3, none⟩ = some (.int .i64 f.de) ∧ ((W0.alloc (.cells #[.int .i64 0, .int .i64 0, .int .i64 0, .int .i64 0, .bool false, .bool false, .bool false, .int .i64 0, .int .i64 0, .int .i64 0, .slice none 0 0] 25)).alloc (.cells #[.int .i64 0, .int .i64 1, .int .i64 2, .int .i64 4, .int .i64 16, .int .i64 32] 3)).drew.cell? ⟨F, 4, none⟩ = some (.bool false) ∧ ((W0.alloc (.cells #[.int .i64 0, .int .i64 0, .int .i64 0, .int .i64 0, .bool false, .bool false, .bool false, .int .i64 0, .int .i64 0, .int .i64 0, .slice none 0 0] 25)).alloc (.cells #[.int .i64 0, .int .i64 1, .int .i64 2, .int .i64 4, .int .i64 16, .int .i64 32] 3)).drew.cell? ⟨F, 8, none⟩ = some (.int .i64 f.pn) ∧ ((W0.alloc (.cells #[.int .i64 0, .int .i64 0, .int .i64 0, .int .i64 0, .bool false, .bool false, .bool false, .int .i64 0, .int .i64 0, .int .i64 0, .slice none 0 0] 25)).alloc (.cells #[.int .i64 0, .int .i64 1, .int .i64 2, .int .i64 4, .int .i64 16, .int .i64 32] 3)).drew.cell? ⟨F, 9, none⟩ = some (.int .i64 f.vc) ∧ ((W0.alloc (.cells #[.int .i64 0, .int .i64 0, .int .i64 0, .int .i64 0, .bool false, .bool false, .bool false, .int .i64 0, .int .i64 0, .int .i64 0, .slice none 0 0] 25)).alloc (.cells #[.int .i64 0, .int .i64 1, .int .i64 2, .int .i64 4, .int .i64 16, .int .i64 32] 3)).drew.cell? ⟨gb, q, none⟩ = some (.int .i64 pv)) ∧ ((W0.alloc (.cells #[.int .i64 0, .int .i64 0, .int .i64 0, .int .i64 0, .bool false, .bool false, .bool false, .int .i64 0, .int .i64 0, .int .i64 0, .slice none 0 0] 25)).alloc (.cells #[.int .i64 0, .int .i64 1, .int .i64 2, .int .i64 4, .int .i64 16, .int .i64 32] 3)).drew.cell? ⟨F + 1 + 1, q6, none⟩ = some (.int .i64 (vcv q6))) := ⟨SA.out _ (((Below.refl _ _).alloc (Nat.le_refl _) _).alloc (by simp) _).drew, SV.out _ (Below.refl _ _).drew⟩
              refine wpT_sub (fun Z => (Z.cell? ⟨F, 0, none⟩ = some (.int .i64 f.pa) ∧ Z.cell? ⟨F, 1, none⟩ = some (.int .i64 f.sl) ∧ Z.cell? ⟨F, 2, none⟩ = some (.int .i64 f.ve) ∧ Z.cell? ⟨F, 3, none⟩ = some (.int .i64 f.de) ∧ Z.cell? ⟨F, 4, none⟩ = some (.bool false) ∧ Z.cell? ⟨F, 8, none⟩ = some (.int .i64 f.pn) ∧ Z.cell? ⟨F, 9, none⟩ = some (.int .i64 f.vc) ∧ Z.cell? ⟨gb, q, none⟩ = some (.int .i64 pv)) ∧ Z.cell? ⟨F + 1 + 1, q6, none⟩ = some (.int .i64 (vcv q6))) (fun Z h => h.1) S1.out ?_
              iterate 1 (apply wpT_go; (focus rfl); (focus rfl); (focus exact S1.out); (focus (rintro Z ⟨⟨s0, s1, s2, s3, s4, s8, s9, sb⟩, sv⟩; go_simp; exact rfl)); intro K hK; go_simp; refine hK _ ?_; clear hK K)
              iterate 1 (apply wpT_go; (focus rfl); (focus rfl); (focus exact S1.out); (focus (rintro Z ⟨⟨s0, s1, s2, s3, s4, s8, s9, sb⟩, sv⟩; go_simp; exact rfl)); intro K hK; go_simp; refine hK _ ?_; clear hK K)
              iterate 1 (apply wpT_go; (focus rfl); (focus rfl); (focus exact S1.out); (focus (rintro Z ⟨⟨s0, s1, s2, s3, s4, s8, s9, sb⟩, sv⟩; go_simp; exact rfl)); intro K hK; go_simp; refine hK _ ?_; clear hK K)
              apply wpT_one
              focus rfl
              intro K hK
              go_simp
              refine hK _ _ ⟨SA.out _ (((Below.refl _ _).alloc (Nat.le_refl _) _).alloc (by simp) _).drew, (by have := vrow_cell (W0.alloc (.cells #[.int .i64 pv, .int .i64 msl, .int .i64 (1 + mve), .int .i64 mde, .bool (mv3 == 0), .bool false, .bool false, .int .i64 0, .int .i64 mpn, .int .i64 (vcv q6), .slice none 0 0] 25)) hq6L; rw [show (W0.alloc (.cells #[.int .i64 pv, .int .i64 msl, .int .i64 (1 + mve), .int .i64 mde, .bool (mv3 == 0), .bool false, .bool false, .int .i64 0, .int .i64 mpn, .int .i64 (vcv q6), .slice none 0 0] 25)).heap.size = F + 1 + 1 by simp [hz0]] at this; exact this)⟩ ?_
              clear hK K
              refine wpT_done ?_
              go_wp2_with fail
              go_meet
              exact finB hz0 _ _ _ rfl
          · rw [hfbr] at S0 SA
            clear hfbr
            refine wp_region_pt (fun Z => Z.cell? ⟨F, 0, none⟩ = some (.int .i64 f.pa) ∧ Z.cell? ⟨F, 1, none⟩ = some (.int .i64 f.sl) ∧ Z.cell? ⟨F, 2, none⟩ = some (.int .i64 f.ve) ∧ Z.cell? ⟨F, 3, none⟩ = some (.int .i64 f.de) ∧ Z.cell? ⟨F, 4, none⟩ = some (.bool true) ∧ Z.cell? ⟨F, 8, none⟩ = some (.int .i64 f.pn) ∧ Z.cell? ⟨F, 9, none⟩ = some (.int .i64 f.vc) ∧ Z.cell? ⟨gb, q, none⟩ = some (.int .i64 pv)) (.step 0 0 (.step 1 0 (.step 2 0 (.step 3 0 (.step 4 0 (.step 5 0 (.step 6 0 (.step 7 0 (.step 8 0 (.step 9 0 (.step 10 0 (.step 11 0 (.step 12 0 (.step 13 0 (.step 14 0 (.step 15 0 (.step 16 0 (.step 17 0 (.step 18 0 (.step 19 0 (.step 20 0 (.step 21 0 (.step 22 0 (.step 23 0 (.step 24 0 (.step 25 0 (.step 26 0 (.step 27 0 (.step 28 0 (.step 30 0 (.step 31 0 (.step 32 0 (.fork 29 36 (.sub (.step 33 0 (.step 34 0 (.step 35 0 (.step 36 1 (.step 37 1 .nil)))))) (.step 29 1 (.sub (.step 33 0 (.step 34 0 (.step 35 0 (.step 37 1 .nil))))))))))))))))))))))))))))))))))))))) (by kernel_rfl) (by kernel_rfl) ?_
            iterate 5 (apply wpT_go; (focus rfl); (focus rfl); (focus exact S0.out); (focus (rintro Z ⟨s0, s1, s2, s3, s4, s8, s9, sb⟩; go_simp; exact rfl)); intro K hK; go_simp; refine hK _ ?_; clear hK K)
            apply wpT_call
            focus rfl
            focus rfl
            focus exact S0.out
            focus (rintro Z ⟨s0, s1, s2, s3, s4, s8, s9, sb⟩; go_simp; exact ⟨rfl, rfl⟩)
            focus (intro Z _; exact K0.out Z)
            intro K hK
            go_simp
            refine hK _ ?_
            clear hK K
            iterate 4 (apply wpT_go; (focus rfl); (focus rfl); (focus exact S0.out); (focus (rintro Z ⟨s0, s1, s2, s3, s4, s8, s9, sb⟩; go_simp; exact rfl)); intro K hK; go_simp; refine hK _ ?_; clear hK K)
            apply wpT_call
            focus rfl
            focus rfl
            focus exact S0.out
            focus (rintro Z ⟨s0, s1, s2, s3, s4, s8, s9, sb⟩; go_simp; exact ⟨rfl, rfl⟩)
            focus (intro Z _; exact K1.out Z)
            intro K hK
            go_simp
            refine hK _ ?_
            clear hK K
            iterate 2 (apply wpT_go; (focus rfl); (focus rfl); (focus exact S0.out); (focus (rintro Z ⟨s0, s1, s2, s3, s4, s8, s9, sb⟩; go_simp; exact rfl)); intro K hK; go_simp; refine hK _ ?_; clear hK K)
            apply wpT_call
            focus rfl
            focus rfl
            focus exact S0.out
            focus (rintro Z ⟨s0, s1, s2, s3, s4, s8, s9, sb⟩; go_simp; exact ⟨rfl, rfl⟩)
            focus (intro Z _; exact K2.out Z)
            intro K hK
            go_simp
            refine hK _ ?_
            clear hK K
            iterate 3 (apply wpT_go; (focus rfl); (focus rfl); (focus exact S0.out); (focus (rintro Z ⟨s0, s1, s2, s3, s4, s8, s9, sb⟩; go_simp; exact rfl)); intro K hK; go_simp; refine hK _ ?_; clear hK K)
            apply wpT_call
            focus rfl
            focus rfl
            focus exact S0.out
            focus (rintro Z ⟨s0, s1, s2, s3, s4, s8, s9, sb⟩; go_simp; exact ⟨rfl, rfl⟩)
            focus (intro Z _; exact K3.out Z)
            intro K hK
            go_simp
            refine hK _ ?_
            clear hK K
            iterate 3 (apply wpT_go; (focus rfl); (focus rfl); (focus exact S0.out); (focus (rintro Z ⟨s0, s1, s2, s3, s4, s8, s9, sb⟩; go_simp; exact rfl)); intro K hK; go_simp; refine hK _ ?_; clear hK K)
            iterate 4 (apply wpT_not; (focus rfl); (focus rfl); (focus exact S0.out); intro K hK; go_simp; refine hK _ ?_; clear hK K)
            iterate 3 (apply wpT_go; (focus rfl); (focus rfl); (focus exact S0.out); (focus (rintro Z ⟨s0, s1, s2, s3, s4, s8, s9, sb⟩; go_simp; exact rfl)); intro K hK; go_simp; refine hK _ ?_; clear hK K)
            apply wpT_call
            focus rfl
            focus rfl
            focus exact S0.out
            focus (rintro Z ⟨s0, s1, s2, s3, s4, s8, s9, sb⟩; go_simp; exact ⟨rfl, rfl⟩)
            focus (intro Z _; exact K5.out Z)
            intro K hK
            go_simp
            refine hK _ ?_
            clear hK K
            iterate 2 (apply wpT_go; (focus rfl); (focus rfl); (focus exact S0.out); (focus (rintro Z ⟨s0, s1, s2, s3, s4, s8, s9, sb⟩; go_simp; exact rfl)); intro K hK; go_simp; refine hK _ ?_; clear hK K)
            apply wpT_call
            focus rfl
            focus rfl
            focus exact S0.out
            focus (rintro Z ⟨s0, s1, s2, s3, s4, s8, s9, sb⟩; go_simp; exact ⟨rfl, rfl⟩)
            focus (intro Z _; exact K6.out Z)
            intro K hK
            go_simp
            refine hK _ ?_
            clear hK K
            apply wpT_fork
            focus rfl
            focus rfl
            · intro K hK
              go_simp
              refine hK _ _ (SA.out _ ((Below.refl _ _).alloc (Nat.le_refl _) _).drew) ?_
              clear hK K
              have SV : Hid (∀ V : World, Below (F + 2) (W0.alloc (.cells #[.int .i64 0, .int .i64 1, .int .i64 2, .int .i64 4, .int .i64 16, .int .i64 32] 3)) V → V.cell? ⟨F + 1, q6, none⟩ = some (.int .i64 (vcv q6))) := fun V hV => (hV.cell (p := ⟨F + 1, q6, none⟩) (by show F + 1 < F + 2; omega)).trans (by have := vrow_cell W0 hq6L; rw [hz0] at this; exact this)
              have S1 : Hid (((W0.alloc (.cells #[.int .i64 0, .int .i64 1, .int .i64 2, .int .i64 4, .int .i64 16, .int .i64 32] 3)).drew.cell? ⟨F, 0, none⟩ = some (.int .i64 f.pa) ∧ (W0.alloc (.cells #[.int .i64 0, .int .i64 1, .int .i64 2, .int .i64 4, .int .i64 16, .int .i64 32] 3)).drew.cell? ⟨F, 1, none⟩ = some (.int .i64 f.sl) ∧ (W0.alloc (.cells #[.int .i64 0, .int .i64 1, .int .i64 2, .int .i64 4, .int .i64 16, .int .i64 32] 3)).drew.cell? ⟨F, 2, none⟩ = some (.int .i64 f.ve) ∧ (W0.alloc (.cells #[.int .i64 0, .int .i64 1, .int .i64 2, .int .i64 4, .int .i64 16, .int .i64 32] 3)).drew.cell? ⟨F, 3, none⟩ = some (.int .i64 f.de) ∧ (W0.alloc (.cells #[.int .i64 0, .int .i64 1, .int .i64 2, .int .i64 4, .int .i64 16, .int .i64 32] 3)).drew.cell? ⟨F, 4, none⟩ = some (.bool true) ∧ (W0.alloc (.cells #[.int .i64 0, .int .i64 1, .int .i64 2, .int .i64 4, .int .i64 16, .int .i64 32] 3)).drew.cell? ⟨F, 8, none⟩ = some (.int .i64 f.pn) ∧ (W0.alloc (.cells #[.int .i64 0, .int .i64 1, .int .i64 2, .int .i64 4, .int .i64 16, .int .i64 32] 3)).drew.cell? ⟨F, 9, none⟩ = some (.int .i64 f.vc) ∧ (W0.alloc (.cells #[.int .i64 0, .int .i64 1, .int .i64 2, .int .i64 4, .int .i64 16, .int .i64 32] 3)).drew.cell? ⟨gb, q, none⟩ = some (.int .i64 pv)) ∧ (W0.alloc (.cells #[.int .i64 0, .int .i64 1, .int .i64 2, .int .i64 4, .int .i64 16, .int .i64 32] 3)).drew.cell? ⟨F + 1, q6, none⟩ = some (.int .i64 (vcv q6))) := ⟨SA.out _ ((Below.refl _ _).alloc (Nat.le_refl _) _).drew, by have := vrow_cell W0 hq6L; rw [hz0] at this; exact this⟩
              refine wpT_sub (fun Z => (Z.cell? ⟨F, 0, none⟩ = some (.int .i64 f.pa) ∧ Z.cell? ⟨F, 1, none⟩ = some (.int .i64 f.sl) ∧ Z.cell? ⟨F, 2, none⟩ = some (.int .i64 f.ve) ∧ Z.cell? ⟨F, 3, none⟩ = some (.int .i64 f.de) ∧ Z.cell? ⟨F, 4, none⟩ = some (.bool true) ∧ Z.cell? ⟨F, 8, none⟩ = some (.int .i64 f.pn) ∧ Z.cell? ⟨F, 9, none⟩ = some (.int .i64 f.vc) ∧ Z.cell? ⟨gb, q, none⟩ = some (.int .i64 pv)) ∧ Z.cell? ⟨F + 1, q6, none⟩ = some (.int .i64 (vcv q6))) (fun Z h => h.1) S1.out ?_
              iterate 1 (apply wpT_go; (focus rfl); (focus rfl); (focus exact S1.out); (focus (rintro Z ⟨⟨s0, s1, s2, s3, s4, s8, s9, sb⟩, sv⟩; go_simp; exact rfl)); intro K hK; go_simp; refine hK _ ?_; clear hK K)
              iterate 1 (apply wpT_go; (focus rfl); (focus rfl); (focus exact S1.out); (focus (rintro Z ⟨⟨s0, s1, s2, s3, s4, s8, s9, sb⟩, sv⟩; go_simp; exact rfl)); intro K hK; go_simp; refine hK _ ?_; clear hK K)
              iterate 1 (apply wpT_go; (focus rfl); (focus rfl); (focus exact S1.out); (focus (rintro Z ⟨⟨s0, s1, s2, s3, s4, s8, s9, sb⟩, sv⟩; go_simp; exact rfl)); intro K hK; go_simp; refine hK _ ?_; clear hK K)
              apply wpT_one
              focus rfl
              intro K hK
              go_simp
              refine hK _ _ ⟨SA.out _ (((Below.refl _ _).alloc (Nat.le_refl _) _).alloc (by simp) _).drew, SV.out _ ((Below.refl _ _).alloc (by simp [hz0]) _).drew⟩ ?_
              clear hK K
              apply wpT_one
              focus rfl
              intro K hK
              go_simp
              refine hK _ _ ⟨SA.out _ (((Below.refl _ _).alloc (Nat.le_refl _) _).alloc (by simp) _).drew, SV.out _ ((Below.refl _ _).alloc (by simp [hz0]) _).drew⟩ ?_
              clear hK K
              refine wpT_done ?_
              go_wp2_with fail
              go_meet
              exact finA hz0 _ _ _ rfl
            · intro K hK
              go_simp
              refine hK _ _ (SA.out _ ((Below.refl _ _).alloc (Nat.le_refl _) _).drew) ?_
              clear hK K
              apply wpT_one
              focus rfl
              intro K hK
              go_simp
              refine hK _ _ (SA.out _ (((Below.refl _ _).alloc (Nat.le_refl _) _).alloc (by simp) _).drew) ?_
              clear hK K
              have SV : Hid (∀ V : World, Below (F + 3) ((W0.alloc (.cells #[.int .i64 0, .int .i64 0, .int .i64 0, .int .i64 0, .bool false, .bool false, .bool false, .int .i64 0, .int .i64 0, .int .i64 0, .slice none 0 0] 25)).alloc (.cells #[.int .i64 0, .int .i64 1, .int .i64 2, .int .i64 4, .int .i64 16, .int .i64 32] 3)) V → V.cell? ⟨F + 1 + 1, q6, none⟩ = some (.int .i64 (vcv q6))) := fun V hV => (hV.cell (p := ⟨F + 1 + 1, q6, none⟩) (by show F + 1 + 1 < F + 3; omega)).trans (by have := vrow_cell (W0.alloc (.cells #[.int .i64 0, .int .i64 0, .int .i64 0, .int .i64 0, .bool false, .bool false, .bool false, .int .i64 0, .int .i64 0, .int .i64 0, .slice none 0 0] 25)) hq6L; rw [show (W0.alloc (.cells #[.int .i64 0, .int .i64 0, .int .i64 0, .int .i64 0, .bool false, .bool false, .bool false, .int .i64 0, .int .i64 0, .int .i64 0, .slice none 0 0] 25)).heap.size = F + 1 + 1 by simp [hz0]] at this; exact this)
              have S1 : Hid ((((W0.alloc (.cells #[.int .i64 0, .int .i64 0, .int .i64 0, .int .i64 0, .bool false, .bool false, .bool false, .int .i64 0, .int .i64 0, .int .i64 0, .slice none 0 0] 25)).alloc (.cells #[.int .i64 0, .int .i64 1, .int .i64 2, .int .i64 4, .int .i64 16, .int .i64 32] 3)).drew.cell? ⟨F, 0, none⟩ = some (.int .i64 f.pa) ∧ ((W0.alloc (.cells #[.int .i64 0, .int .i64 0, .int .i64 0, .int .i64 0, .bool false, .bool false, .bool false, .int .i64 0, .int .i64 0, .int .i64 0, .slice none 0 0] 25)).alloc (.cells #[.int .i64 0, .int .i64 1, .int .i64 2, .int .i64 4, .int .i64 16, .int .i64 32] 3)).drew.cell? ⟨F, 1, none⟩ = some (.int .i64 f.sl) ∧ ((W0.alloc (.cells #[.int .i64 0, .int .i64 0, .int .i64 0, .int .i64 0, .bool false, .bool false, .bool false, .int .i64 0, .int .i64 0, .int .i64 0, .slice none 0 0] 25)).alloc (.cells #[.int .i64 0, .int .i64 1, .int .i64 2, .int .i64 4, .int .i64 16, .int .i64 32] 3)).drew.cell? ⟨F, 2, none⟩ = some (.int .i64 f.ve) ∧ ((W0.alloc (.cells #[.int .i64 0, .int .i64 0, .int .i64 0, .int .i64 0, .bool false, .bool false, .bool false, .int .i64 0, .int .i64 0, .int .i64 0, .slice none 0 0] 25)).alloc (.cells #[.int .i64 0, .int .i64 1, .int .i64 2, .int .i64 4, .int .i64 16, .int .i64 32] 3)).drew.cell? ⟨F, 3, none⟩ = some (.int .i64 f.de) ∧ ((W0.alloc (.cells #[.int .i64 0, .int .i64 0, .int .i64 0, .int .i64 0, .bool false, .bool false, .bool false, .int .i64 0, .int .i64 0, .int .i64 0, .slice none 0 0] 25)).alloc (.cells #[.int .i64 0, .int .i64 1, .int .i64 2, .int .i64 4, .int .i64 16, .int .i64 32] 3)).drew.cell? ⟨F, 4, none⟩ = some (.bool true) ∧ ((W0.alloc (.cells #[.int .i64 0, .int .i64 0, .int .i64 0, .int .i64 0, .bool false, .bool false, .bool false, .int .i64 0, .int .i64 0, .int .i64 0, .slice none 0 0] 25)).alloc (.cells #[.int .i64 0, .int .i64 1, .int .i64 2, .int .i64 4, .int .i64 16, .int .i64 32] 3)).drew.cell? ⟨F, 8, none⟩ = some (.int .i64 f.pn) ∧ ((W0.alloc (.cells #[.int .i64 0, .int .i64 0, .int .i64 0, .int .i64 0, .bool false, .bool false, .bool false, .int .i64 0, .int .i64 0, .int .i64 0, .slice none 0 0] 25)).alloc (.cells #[.int .i64 0, .int .i64 1, .int .i64 2, .int .i64 4, .int .i64 16, .int .i64 32] 3)).drew.cell? ⟨F, 9, none⟩ = some (.int .i64 f.vc) ∧ ((W0.alloc (.cells #[.int .i64 0, .int .i64 0, .int .i64 0, .int .i64 0, .bool false, .bool false, .bool false, .int .i64 0, .int .i64 0, .int .i64 0, .slice none 0 0] 25)).alloc (.cells #[.int .i64 0, .int .i64 1, .int .i64 2, .int .i64 4, .int .i64 16, .int .i64 32] 3)).drew.cell? ⟨gb, q, none⟩ = some (.int .i64 pv)) ∧ ((W0.alloc (.cells #[.int .i64 0, .int .i64 0, .int .i64 0, .int .i64 0, .bool false, .bool false, .bool false, .int .i64 0, .int .i64 0, .int .i64 0, .slice none 0 0] 25)).alloc (.cells #[.int .i64 0, .int .i64 1, .int .i64 2, .int .i64 4, .int .i64 16, .int .i64 32] 3)).drew.cell? ⟨F + 1 + 1, q6, none⟩ = some (.int .i64 (vcv q6))) := ⟨SA.out _ (((Below.refl _ _).alloc (Nat.le_refl _) _).alloc (by simp) _).drew, SV.out _ (Below.refl _ _).drew⟩
              refine wpT_sub (fun Z => (Z.cell? ⟨F, 0, none⟩ = some (.int .i64 f.pa) ∧ Z.cell? ⟨F, 1, none⟩ = some (.int .i64 f.sl) ∧ Z.cell? ⟨F, 2, none⟩ = some (.int .i64 f.ve) ∧ Z.cell? ⟨F, 3, none⟩ = some (.int .i64 f.de) ∧ Z.cell? ⟨F, 4, none⟩ = some (.bool true) ∧ Z.cell? ⟨F, 8, none⟩ = some (.int .i64 f.pn) ∧ Z.cell? ⟨F, 9, none⟩ = some (.int .i64 f.vc) ∧ Z.cell? ⟨gb, q, none⟩ = some (.int .i64 pv)) ∧ Z.cell? ⟨F + 1 + 1, q6, none⟩ = some (.int .i64 (vcv q6))) (fun Z h => h.1) S1.out ?_
              iterate 1 (apply wpT_go; (focus rfl); (focus rfl); (focus exact S1.out); (focus (rintro Z ⟨⟨s0, s1, s2, s3, s4, s8, s9, sb⟩, sv⟩; go_simp; exact rfl)); intro K hK; go_simp; refine hK _ ?_; clear hK K)
              iterate 1 (apply wpT_go; (focus rfl); (focus rfl); (focus exact S1.out); (focus (rintro Z ⟨⟨s0, s1, s2, s3, s4, s8, s9, sb⟩, sv⟩; go_simp; exact rfl)); intro K hK; go_simp; refine hK _ ?_; clear hK K)
              iterate 1 (apply wpT_go; (focus rfl); (focus rfl); (focus exact S1.out); (focus (rintro Z ⟨⟨s0, s1, s2, s3, s4, s8, s9, sb⟩, sv⟩; go_simp; exact rfl)); intro K hK; go_simp; refine hK _ ?_; clear hK K)
              apply wpT_one
              focus rfl
              intro K hK
              go_simp
              refine hK _ _ ⟨SA.out _ (((Below.refl _ _).alloc (Nat.le_refl _) _).alloc (by simp) _).drew, (by have := vrow_cell (W0.alloc (.cells #[.int .i64 pv, .int .i64 msl, .int .i64 (1 + mve), .int .i64 mde, .bool true, .bool false, .bool false, .int .i64 0, .int .i64 mpn, .int .i64 (vcv q6), .slice none 0 0] 25)) hq6L; rw [show (W0.alloc (.cells #[.int .i64 pv, .int .i64 msl, .int .i64 (1 + mve), .int .i64 mde, .bool true, .bool false, .bool false, .int .i64 0, .int .i64 mpn, .int .i64 (vcv q6), .slice none 0 0] 25)).heap.size = F + 1 + 1 by simp [hz0]] at this; exact this)⟩ ?_
              clear hK K
              refine wpT_done ?_
              go_wp2_with fail
              go_meet
              exact finB hz0 _ _ _ rfl
        case rest =>
          obtain ⟨G1, br, rfl, hFG, hGl, BX, GX⟩ := hcut
          have BR1 : Hid (Below wr.heap.size wr wc) := by rw [HF.out]; exact B0.out.trans (BX.mono (by omega))
          have SX : Hid (TS w wc X (.slice (some ⟨gb, 0, none⟩) Lb.length cbb) (.slice ao T.length co) Lb T (seen T T.length) T.length (fun k => k = F ∨ k = G1)) := S.out.adopt BR1.out (fun k hk => by have := BX.size; rw [HF.out]; rcases hk with rfl | rfl <;> omega)
          have GX1 := Lib.hid GX
          have FX : Hid (wc.cell? ⟨F, 3, none⟩ = some (.int .i64 f.de) ∧ wc.cell? ⟨F, 6, none⟩ = some (.bool f.hp) ∧ wc.cell? ⟨F, 7, none⟩ = some (.int .i64 f.sp) ∧ wc.cell? ⟨F, 10, none⟩ = some (.slice abv nb cbv)) := by
            have hFl : F < W0.heap.size := by omega
            exact ⟨(BX.cell (p := ⟨F, 3, none⟩) hFl).trans FC.out.1, (BX.cell (p := ⟨F, 6, none⟩) hFl).trans FC.out.2.1, (BX.cell (p := ⟨F, 7, none⟩) hFl).trans FC.out.2.2.1, (BX.cell (p := ⟨F, 10, none⟩) hFl).trans FC.out.2.2.2⟩
          have e0 : wc.cell? ⟨G1, 0, none⟩ = some (.int .i64 pv) := Row.cell GX (i := 0) (by omega)
          have e1 : wc.cell? ⟨G1, 1, none⟩ = some (.int .i64 msl) := Row.cell GX (i := 1) (by omega)
          have hpvr : InI pv ∧ -1 ≤ pv ∧ pv < 30 := by
            unfold InI
            rcases G.out.lb _ hpvm.out with e | ⟨k, e, hk, _⟩ <;> omega
          have hslr : InI msl := by unfold InI; omega
          have hL := SX.out.map.look pk50 Try.underlying48 (zero4 _) hpvr.1 hslr
          obtain ⟨w3, hU, M3, C3⟩ := SX.out.map.store pk50 Try.underlying48 (by omega) hpvr.1 hslr
          have hXG : X ≠ G1 ∧ X ≠ F := ⟨fun e => SX.out.nX.2 (.inr e), fun e => SX.out.nX.2 (.inl e)⟩
          have S3 := Lib.hid (SX.out.store M3 C3)
          have G3 : Hid (GR w3 G1 ⟨pv, msl, 1 + mve, mde, br, false, false, 0, mpn, vcv q6, .slice none 0 0, []⟩) := Row.ch GX C3 (fun e => hXG.1 e.symm)
          have F3 : Hid (w3.cell? ⟨F, 3, none⟩ = some (.int .i64 f.de) ∧ w3.cell? ⟨F, 6, none⟩ = some (.bool f.hp) ∧ w3.cell? ⟨F, 7, none⟩ = some (.int .i64 f.sp) ∧ w3.cell? ⟨F, 10, none⟩ = some (.slice abv nb cbv)) := by
            have hFl : F < wc.heap.size := by omega
            have hn : ¬ F = X := fun e => hXG.2 e.symm
            exact ⟨(C3.cell ⟨F, 3, none⟩ hFl hn).trans FX.out.1, (C3.cell ⟨F, 6, none⟩ hFl hn).trans FX.out.2.1, (C3.cell ⟨F, 7, none⟩ hFl hn).trans FX.out.2.2.1, (C3.cell ⟨F, 10, none⟩ hFl hn).trans FX.out.2.2.2⟩
          have hG3l : G1 < w3.heap.size := by have := C3.size; omega
          clear M3 C3 BX GX S0 SA FC K0 K1 K2 K3 K4 K5 K6 HRB
          cases hsn : seen T T.length pv msl
          · rw [hsn] at hL
            have HSN := Lib.hid hsn
            clear hsn
            have e4 : w3.cell? ⟨G1, 4, none⟩ = some (.bool br) := Row.cell G3.out (i := 4) (by omega)
            have e0' : w3.cell? ⟨G1, 0, none⟩ = some (.int .i64 pv) := Row.cell G3.out (i := 0) (by omega)
            have e1' : w3.cell? ⟨G1, 1, none⟩ = some (.int .i64 msl) := Row.cell G3.out (i := 1) (by omega)
            go_upto_if 80 with fail
            clear hL hU
            go_cut [7, 11] (CutB w T Lb (.slice ao T.length co) (fun x' y' => decide (x' = pv ∧ y' = msl) || seen T T.length x' y') X F G1 br pv msl (1 + mve) mde mpn (vcv q6) (.slice abv nb cbv))
            case first =>
              cases br
              · go_wp2_with fail
                go_meet
                exact ⟨_, false, false, 0, rfl, rfl, by simpa using S3.out, G3.out, by omega, (fun h => by omega), (fun _ => ⟨rfl, rfl⟩), F3.out.2.2.2⟩
              · have x5 : w3.cell? ⟨G1, 5, none⟩ = some (.bool false) := Row.cell G3.out (i := 5) (by omega)
                have x6 : w3.cell? ⟨G1, 6, none⟩ = some (.bool false) := Row.cell G3.out (i := 6) (by omega)
                have z5 : w3.frozen? ⟨G1, 5, none⟩ = false := Row.frozen G3.out _
                have z6 : w3.frozen? ⟨G1, 6, none⟩ = false := Row.frozen G3.out _
                have hGF : G1 ≠ F := by omega
                have hFG2 : F ≠ G1 := by omega
                have FA : Hid (∀ V : World, Ch (fun k => k = G1) w3 V → V.cell? ⟨F, 3, none⟩ = some (.int .i64 f.de) ∧ V.cell? ⟨F, 6, none⟩ = some (.bool f.hp) ∧ V.cell? ⟨F, 7, none⟩ = some (.int .i64 f.sp) ∧ V.cell? ⟨F, 10, none⟩ = some (.slice abv nb cbv)) := fun V hV => by
                  have hFl : F < w3.heap.size := by omega
                  exact ⟨(hV.cell ⟨F, 3, none⟩ hFl hFG2).trans F3.out.1, (hV.cell ⟨F, 6, none⟩ hFl hFG2).trans F3.out.2.1, (hV.cell ⟨F, 7, none⟩ hFl hFG2).trans F3.out.2.2.1, (hV.cell ⟨F, 10, none⟩ hFl hFG2).trans F3.out.2.2.2⟩
                have S1 : Hid (w3.drew.cell? ⟨F, 3, none⟩ = some (.int .i64 f.de) ∧ w3.drew.cell? ⟨F, 6, none⟩ = some (.bool f.hp)) := ⟨F3.out.1, F3.out.2.1⟩
                have SB : Hid (∀ V : World, Ch (fun k => k = G1) w3 V → V.cell? ⟨F, 3, none⟩ = some (.int .i64 f.de) ∧ V.cell? ⟨F, 6, none⟩ = some (.bool f.hp)) := fun V hV => ⟨(FA.out V hV).1, (FA.out V hV).2.1⟩
                generalize moI f.de 3 = d3 at *
                generalize moI f.de 4 = d4 at *
                generalize moI f.sp 4 = s4 at *
                go_wp2_with fail
                have TAIL : Hid (∀ (pf hp : Bool) (W : World), Ch (fun k => k = G1) w3 W → GR W G1 ⟨pv, msl, 1 + mve, mde, true, pf, hp, 0, mpn, vcv q6, .slice none 0 0, []⟩ → TS w W X (.slice (some ⟨gb, 0, none⟩) Lb.length cbb) (.slice ao T.length co) Lb T (fun x' y' => decide (x' = pv ∧ y' = msl) || seen T T.length x' y') (T.length + 1) (fun k => k = F ∨ k = G1)) := fun pf hp W hW _ => S3.out.ch (hW.mono (fun k hk _ => .inr hk))
                cases hfhp : f.hp
                · rw [hfhp] at S1 SB
                  clear hfhp
                  refine wp_region_pl (fun Z => Z.cell? ⟨F, 3, none⟩ = some (.int .i64 f.de) ∧ Z.cell? ⟨F, 6, none⟩ = some (.bool false)) ((0, 0) :: (1, 0) :: (2, 0) :: (3, 0) :: (4, 0) :: (5, 0) :: (6, 0) :: (7, 0) :: (8, 0) :: (9, 0) :: (10, 0) :: (11, 0) :: (12, 0) :: (13, 1) :: (14, 0) :: (15, 1) :: []) (by kernel_rfl) (by kernel_rfl) ?_
                  iterate 2 (apply wpP_go; (focus rfl); (focus rfl); (focus exact S1.out); (focus (rintro Z ⟨s3, s6⟩; go_simp; exact rfl)); intro K hK; go_simp; refine hK _ ?_; clear hK K)
                  apply wpP_call
                  focus rfl
                  focus rfl
                  focus exact S1.out
                  focus (rintro Z ⟨s3, s6⟩; go_simp; exact ⟨rfl, rfl⟩)
                  focus (intro Z _; exact KD.out Z)
                  intro K hK
                  go_simp
                  refine hK _ ?_
                  clear hK K
                  iterate 4 (apply wpP_go; (focus rfl); (focus rfl); (focus exact S1.out); (focus (rintro Z ⟨s3, s6⟩; go_simp; exact rfl)); intro K hK; go_simp; refine hK _ ?_; clear hK K)
                  iterate 2 (apply wpP_go; (focus rfl); (focus rfl); (focus exact S1.out); (focus (rintro Z ⟨s3, s6⟩; go_simp; exact rfl)); intro K hK; go_simp; refine hK _ ?_; clear hK K)
                  apply wpP_call
                  focus rfl
                  focus rfl
                  focus exact S1.out
                  focus (rintro Z ⟨s3, s6⟩; go_simp; exact ⟨rfl, rfl⟩)
                  focus (intro Z _; exact KE.out Z)
                  intro K hK
                  go_simp
                  refine hK _ ?_
                  clear hK K
                  iterate 1 (apply wpP_go; (focus rfl); (focus rfl); (focus exact S1.out); (focus (rintro Z ⟨s3, s6⟩; go_simp; exact rfl)); intro K hK; go_simp; refine hK _ ?_; clear hK K)
                  iterate 2 (apply wpP_go; (focus rfl); (focus rfl); (focus exact S1.out); (focus (rintro Z ⟨s3, s6⟩; go_simp; exact rfl)); intro K hK; go_simp; refine hK _ ?_; clear hK K)
                  apply wpP_one
                  focus rfl
                  intro K hK
                  go_simp
                  refine hK _ _ (SB.out _ (ch1 _ _ _ _)) ?_
                  clear hK K
                  iterate 1 (apply wpP_go; (focus rfl); (focus rfl); (focus exact (SB.out _ (ch1 _ _ _ _))); (focus (rintro Z ⟨s3, s6⟩; go_simp; exact rfl)); intro K hK; go_simp; refine hK _ ?_; clear hK K)
                  apply wpP_one
                  focus rfl
                  intro K hK
                  go_simp
                  refine hK _ _ (SB.out _ (ch2 _ _ _ _ _ _)) ?_
                  clear hK K
                  refine wpP_done ?_
                  generalize hW : ((w3.setCell ⟨G1, 5, none⟩ (.bool (decide (0 < d3)))).setCell ⟨G1, 6, none⟩ (.bool (d4 == 0))).drew = W at *
                  have CW : Hid (Ch (fun k => k = G1) w3 W) := by rw [← hW]; exact (ch2 _ _ _ _ _ _)
                  have GW : Hid (GR W G1 ⟨pv, msl, 1 + mve, mde, true, decide (0 < d3), (d4 == 0), 0, mpn, vcv q6, .slice none 0 0, []⟩) := by rw [← hW]; exact (G3.out.pf _).hp _
                  clear hW S1 SB x5 x6 z5 z6
                  generalize decide (0 < d3) = pf at *
                  generalize (d4 == 0) = hp2 at *
                  have y6 : W.cell? ⟨G1, 6, none⟩ = some (.bool hp2) := Row.cell GW.out (i := 6) (by omega)
                  have y7 : W.cell? ⟨G1, 7, none⟩ = some (.int .i64 0) := Row.cell GW.out (i := 7) (by omega)
                  have v7 : W.frozen? ⟨G1, 7, none⟩ = false := Row.frozen GW.out _
                  obtain ⟨_, _, f7, f10⟩ := FA.out W CW.out
                  have SW := Lib.hid (TAIL.out pf hp2 W CW.out GW.out)
                  cases hp2
                  · have HP := Lib.hid (IR.push SW.out.row (T.length : Int))
                    have SV := SW
                    have GV := GW
                    have fv10 := f10
                    clear SW GW
                    go_wp2_with (at_builtin; refine wpList_append_lies _ rfl _ _ 49 rfl 0 3 i0 _ 1 8 Try.underlying49 hi0 hx0 hx1 hx2 rfl (by omega) (.slice (some ⟨gb, 0, none⟩) Lb.length cbb) Lb.length (Lb.map (Value.int .i64)) rfl (by exact HP.out.2) ⟨W.heap.size, 0, none⟩ 1 1 [.int .i64 (T.length : Int)] rfl rfl (by exact HP.out.1) (by simp [Value.oneCell']) (by omega) (by simp only [maxLen]; omega) (by omega) (Nat.zero_le _) (W.heap.size + 1) (by simp) ?_)
                    intro g2 cap2 w5 ho hg hat hbel
                    have S5 : Hid (TS w w5 X (.slice (some ⟨g2, 0, none⟩) (Lb.length + 1) cap2) (.slice ao T.length co) (Lb ++ [(T.length : Int)]) T (fun x' y' => decide (x' = pv ∧ y' = msl) || seen T T.length x' y') (T.length + 1) (fun k => k = F ∨ k = G1)) := SV.out.pushB (IR.app (by simpa using ho)) hg hat
                    have C5 : Hid (Ch (fun k => k = gb) W w5) := (app_ch hg).mono (fun k hk _ => by simpa [Value.ownBlock] using hk.symm)
                    have hgbR : gb ≠ G1 ∧ gb ≠ F := ⟨fun e => (SV.out.nb gb rfl).2.2 (.inr e), fun e => (SV.out.nb gb rfl).2.2 (.inl e)⟩
                    have G5 : Hid (GR w5 G1 ⟨pv, msl, 1 + mve, mde, true, pf, false, 0, mpn, vcv q6, .slice none 0 0, []⟩) := Row.ch GV.out C5.out (fun e => hgbR.1 e.symm)
                    have F5 : Hid (w5.cell? ⟨F, 10, none⟩ = some (.slice abv nb cbv)) := (C5.out.cell ⟨F, 10, none⟩ (by show F < _; have := Row.lt GV.out; omega) (fun e => hgbR.2 e.symm)).trans fv10
                    clear ho hg hat
                    go_wp2_with fail
                    go_meet
                    exact ⟨_, pf, false, 0, rfl, rfl, by simpa using S5.out, G5.out, by omega, (fun h => by omega), (fun h => by cases h), F5.out⟩
                  · have SV : Hid (TS w (W.setCell ⟨G1, 7, none⟩ (.int .i64 s4)) X (.slice (some ⟨gb, 0, none⟩) Lb.length cbb) (.slice ao T.length co) Lb T (fun x' y' => decide (x' = pv ∧ y' = msl) || seen T T.length x' y') (T.length + 1) (fun k => k = F ∨ k = G1)) := SW.out.ch (chG _ _ _ _ _)
                    have GV : Hid (GR (W.setCell ⟨G1, 7, none⟩ (.int .i64 s4)) G1 ⟨pv, msl, 1 + mve, mde, true, pf, true, s4, mpn, vcv q6, .slice none 0 0, []⟩) := GW.out.sp _
                    have fv10 : (W.setCell ⟨G1, 7, none⟩ (.int .i64 s4)).cell? ⟨F, 10, none⟩ = some (.slice abv nb cbv) := (((Ch.refl (fun k => k = G1) W).setCell (fun _ => rfl) _).cell ⟨F, 10, none⟩ (by show F < _; have := Row.lt GW.out; omega) hFG2).trans f10
                    go_upto_region 17 with (go_at_call 12; refine (KS.out _).mono ?_; rintro e w9 ⟨rfl, rfl⟩)
                    generalize W.setCell ⟨G1, 7, none⟩ (.int .i64 s4) = V at *
                    have HP := Lib.hid (IR.push SV.out.row (T.length : Int))
                    clear SW GW y6 y7 v7 f7 f10
                    go_wp2_with (at_builtin; refine wpList_append_lies _ rfl _ _ 49 rfl 0 3 i0 _ 1 8 Try.underlying49 hi0 hx0 hx1 hx2 rfl (by omega) (.slice (some ⟨gb, 0, none⟩) Lb.length cbb) Lb.length (Lb.map (Value.int .i64)) rfl (by exact HP.out.2) ⟨V.heap.size, 0, none⟩ 1 1 [.int .i64 (T.length : Int)] rfl rfl (by exact HP.out.1) (by simp [Value.oneCell']) (by omega) (by simp only [maxLen]; omega) (by omega) (Nat.zero_le _) (V.heap.size + 1) (by simp) ?_)
                    intro g2 cap2 w5 ho hg hat hbel
                    have S5 : Hid (TS w w5 X (.slice (some ⟨g2, 0, none⟩) (Lb.length + 1) cap2) (.slice ao T.length co) (Lb ++ [(T.length : Int)]) T (fun x' y' => decide (x' = pv ∧ y' = msl) || seen T T.length x' y') (T.length + 1) (fun k => k = F ∨ k = G1)) := SV.out.pushB (IR.app (by simpa using ho)) hg hat
                    have C5 : Hid (Ch (fun k => k = gb) V w5) := (app_ch hg).mono (fun k hk _ => by simpa [Value.ownBlock] using hk.symm)
                    have hgbR : gb ≠ G1 ∧ gb ≠ F := ⟨fun e => (SV.out.nb gb rfl).2.2 (.inr e), fun e => (SV.out.nb gb rfl).2.2 (.inl e)⟩
                    have G5 : Hid (GR w5 G1 ⟨pv, msl, 1 + mve, mde, true, pf, true, s4, mpn, vcv q6, .slice none 0 0, []⟩) := Row.ch GV.out C5.out (fun e => hgbR.1 e.symm)
                    have F5 : Hid (w5.cell? ⟨F, 10, none⟩ = some (.slice abv nb cbv)) := (C5.out.cell ⟨F, 10, none⟩ (by show F < _; have := Row.lt GV.out; omega) (fun e => hgbR.2 e.symm)).trans fv10
                    clear ho hg hat
                    go_wp2_with fail
                    go_meet
                    exact ⟨_, pf, true, s4, rfl, rfl, by simpa using S5.out, G5.out, by omega, (fun h => ⟨rfl, rfl⟩), (fun h => by cases h), F5.out⟩
                · rw [hfhp] at S1 SB
                  clear hfhp
                  refine wp_region_pl (fun Z => Z.cell? ⟨F, 3, none⟩ = some (.int .i64 f.de) ∧ Z.cell? ⟨F, 6, none⟩ = some (.bool true)) ((0, 0) :: (1, 0) :: (2, 0) :: (3, 0) :: (4, 0) :: (5, 0) :: (6, 0) :: (7, 0) :: (8, 0) :: (9, 0) :: (10, 0) :: (11, 0) :: (12, 0) :: (13, 1) :: (14, 0) :: (15, 1) :: []) (by kernel_rfl) (by kernel_rfl) ?_
                  iterate 2 (apply wpP_go; (focus rfl); (focus rfl); (focus exact S1.out); (focus (rintro Z ⟨s3, s6⟩; go_simp; exact rfl)); intro K hK; go_simp; refine hK _ ?_; clear hK K)
                  apply wpP_call
                  focus rfl
                  focus rfl
                  focus exact S1.out
                  focus (rintro Z ⟨s3, s6⟩; go_simp; exact ⟨rfl, rfl⟩)
                  focus (intro Z _; exact KD.out Z)
                  intro K hK
                  go_simp
                  refine hK _ ?_
                  clear hK K
                  iterate 4 (apply wpP_go; (focus rfl); (focus rfl); (focus exact S1.out); (focus (rintro Z ⟨s3, s6⟩; go_simp; exact rfl)); intro K hK; go_simp; refine hK _ ?_; clear hK K)
                  iterate 4 (apply wpP_not; (focus rfl); (focus rfl); (focus exact S1.out); intro K hK; go_simp; refine hK _ ?_; clear hK K)
                  iterate 2 (apply wpP_go; (focus rfl); (focus rfl); (focus exact S1.out); (focus (rintro Z ⟨s3, s6⟩; go_simp; exact rfl)); intro K hK; go_simp; refine hK _ ?_; clear hK K)
                  apply wpP_one
                  focus rfl
                  intro K hK
                  go_simp
                  refine hK _ _ (SB.out _ (ch1 _ _ _ _)) ?_
                  clear hK K
                  iterate 1 (apply wpP_go; (focus rfl); (focus rfl); (focus exact (SB.out _ (ch1 _ _ _ _))); (focus (rintro Z ⟨s3, s6⟩; go_simp; exact rfl)); intro K hK; go_simp; refine hK _ ?_; clear hK K)
                  apply wpP_one
                  focus rfl
                  intro K hK
                  go_simp
                  refine hK _ _ (SB.out _ (ch2 _ _ _ _ _ _)) ?_
                  clear hK K
                  refine wpP_done ?_
                  generalize hW : ((w3.setCell ⟨G1, 5, none⟩ (.bool (decide (0 < d3)))).setCell ⟨G1, 6, none⟩ (.bool true)).drew = W at *
                  have CW : Hid (Ch (fun k => k = G1) w3 W) := by rw [← hW]; exact (ch2 _ _ _ _ _ _)
                  have GW : Hid (GR W G1 ⟨pv, msl, 1 + mve, mde, true, decide (0 < d3), true, 0, mpn, vcv q6, .slice none 0 0, []⟩) := by rw [← hW]; exact (G3.out.pf _).hp _
                  clear hW S1 SB x5 x6 z5 z6
                  generalize decide (0 < d3) = pf at *
                  have y6 : W.cell? ⟨G1, 6, none⟩ = some (.bool true) := Row.cell GW.out (i := 6) (by omega)
                  have y7 : W.cell? ⟨G1, 7, none⟩ = some (.int .i64 0) := Row.cell GW.out (i := 7) (by omega)
                  have v7 : W.frozen? ⟨G1, 7, none⟩ = false := Row.frozen GW.out _
                  obtain ⟨_, _, f7, f10⟩ := FA.out W CW.out
                  have SW := Lib.hid (TAIL.out pf true W CW.out GW.out)
                  have SV : Hid (TS w (W.setCell ⟨G1, 7, none⟩ (.int .i64 s4)) X (.slice (some ⟨gb, 0, none⟩) Lb.length cbb) (.slice ao T.length co) Lb T (fun x' y' => decide (x' = pv ∧ y' = msl) || seen T T.length x' y') (T.length + 1) (fun k => k = F ∨ k = G1)) := SW.out.ch (chG _ _ _ _ _)
                  have GV : Hid (GR (W.setCell ⟨G1, 7, none⟩ (.int .i64 s4)) G1 ⟨pv, msl, 1 + mve, mde, true, pf, true, s4, mpn, vcv q6, .slice none 0 0, []⟩) := GW.out.sp _
                  have fv10 : (W.setCell ⟨G1, 7, none⟩ (.int .i64 s4)).cell? ⟨F, 10, none⟩ = some (.slice abv nb cbv) := (((Ch.refl (fun k => k = G1) W).setCell (fun _ => rfl) _).cell ⟨F, 10, none⟩ (by show F < _; have := Row.lt GW.out; omega) hFG2).trans f10
                  go_upto_region 17 with (go_at_call 12; refine (KS.out _).mono ?_; rintro e w9 ⟨rfl, rfl⟩)
                  generalize W.setCell ⟨G1, 7, none⟩ (.int .i64 s4) = V at *
                  have HP := Lib.hid (IR.push SV.out.row (T.length : Int))
                  clear SW GW y6 y7 v7 f7 f10
                  go_wp2_with (at_builtin; refine wpList_append_lies _ rfl _ _ 49 rfl 0 3 i0 _ 1 8 Try.underlying49 hi0 hx0 hx1 hx2 rfl (by omega) (.slice (some ⟨gb, 0, none⟩) Lb.length cbb) Lb.length (Lb.map (Value.int .i64)) rfl (by exact HP.out.2) ⟨V.heap.size, 0, none⟩ 1 1 [.int .i64 (T.length : Int)] rfl rfl (by exact HP.out.1) (by simp [Value.oneCell']) (by omega) (by simp only [maxLen]; omega) (by omega) (Nat.zero_le _) (V.heap.size + 1) (by simp) ?_)
                  intro g2 cap2 w5 ho hg hat hbel
                  have S5 : Hid (TS w w5 X (.slice (some ⟨g2, 0, none⟩) (Lb.length + 1) cap2) (.slice ao T.length co) (Lb ++ [(T.length : Int)]) T (fun x' y' => decide (x' = pv ∧ y' = msl) || seen T T.length x' y') (T.length + 1) (fun k => k = F ∨ k = G1)) := SV.out.pushB (IR.app (by simpa using ho)) hg hat
                  have C5 : Hid (Ch (fun k => k = gb) V w5) := (app_ch hg).mono (fun k hk _ => by simpa [Value.ownBlock] using hk.symm)
                  have hgbR : gb ≠ G1 ∧ gb ≠ F := ⟨fun e => (SV.out.nb gb rfl).2.2 (.inr e), fun e => (SV.out.nb gb rfl).2.2 (.inl e)⟩
                  have G5 : Hid (GR w5 G1 ⟨pv, msl, 1 + mve, mde, true, pf, true, s4, mpn, vcv q6, .slice none 0 0, []⟩) := Row.ch GV.out C5.out (fun e => hgbR.1 e.symm)
                  have F5 : Hid (w5.cell? ⟨F, 10, none⟩ = some (.slice abv nb cbv)) := (C5.out.cell ⟨F, 10, none⟩ (by show F < _; have := Row.lt GV.out; omega) (fun e => hgbR.2 e.symm)).trans fv10
                  clear ho hg hat
                  go_wp2_with fail
                  go_meet
                  exact ⟨_, pf, true, s4, rfl, rfl, by simpa using S5.out, G5.out, by omega, (fun h => ⟨rfl, rfl⟩), (fun h => by cases h), F5.out⟩
            case rest =>
              obtain ⟨_, pf, hp, sp, rfl, rfl, S4', G4', hsp, hs1, hs2, f10⟩ := hcut
              have S4 := Lib.hid S4'
              have G4 := Lib.hid G4'
              clear S4' G4' S3 G3 F3 SX GX1 FX S
              have HB20 := Lib.hid (bars_any (mx := rgs br) (w := wc) (SLs.below HBAR.out S4.out.bel (Nat.le_refl _)) (by cases br <;> simp [rgs]))
              have hG4l : G1 < wc.heap.size := Row.lt G4.out
              go_wp2_with fail
              refine HB20.out.mono ?_
              rintro e w6 ⟨v6, L6, rfl, o6, ab6, hl6⟩
              have S6 := Lib.hid (S4.out.ch (Ch.of_below o6.bel _))
              have G6 : Hid (GR w6 G1 ⟨pv, msl, 1 + mve, mde, br, pf, hp, sp, mpn, vcv q6, .slice none 0 0, []⟩) := Row.below G4.out o6.bel hG4l
              have O6 := Lib.hid o6
              have z10 : w6.cell? ⟨G1, 10, none⟩ = some (.slice none 0 0) := Row.cell G6.out (i := 10) (by omega)
              have zf10 : w6.frozen? ⟨G1, 10, none⟩ = false := Row.frozen G6.out _
              obtain ⟨a6, c6, rfl, hc6⟩ := o6.val
              obtain ⟨f2, hf2⟩ : ∃ f2 : Fn, f2 = ⟨pv, msl, 1 + mve, mde, br, pf, hp, sp, mpn, vcv q6, .slice a6 L6.length c6, L6⟩ := ⟨_, rfl⟩
              have BF : Hid (BVf (w6.setCell ⟨G1, 10, none⟩ (.slice a6 L6.length c6)) f2 (fun b => w.heap.size ≤ b ∧ b ≠ X ∧ u7.ownBlock ≠ some b ∧ (Value.slice ao T.length co).ownBlock ≠ some b ∧ ¬ (b = F ∨ b = G1))) := by
                have b1 : BVf w6 f2 (fun b => wc.heap.size ≤ b) := by
                  refine ⟨a6, c6, by rw [hf2], ?_, fun b o hb => ?_⟩
                  · rw [hf2]; exact own_SLs o6.row rfl (fun x _ => cb_len x) (fun x hx => bars_wf ab6 x hx)
                  · have := o6.new b (by rw [hb]; rfl)
                    exact ⟨(World.ownsRow.lt o6.row b (by rw [hb]; rfl)).2, this⟩
                have b2 : BVf (w6.setCell ⟨G1, 10, none⟩ (.slice a6 L6.length c6)) f2 (fun b => wc.heap.size ≤ b) := b1.ch ((Ch.refl (fun k => k = G1) w6).setCell (p := ⟨G1, 10, none⟩) (fun _ => rfl) _) (fun b hb e => by omega)
                refine b2.mono (fun b _ hb => ⟨by have := S4.out.bel.size; omega, fun e => by have := S4.out.map.lt; omega, fun e => by have := S4.out.row.lt b e; omega, fun e => by have := (World.ownsRow.lt S4.out.out b e).2; omega, fun e => by rcases e with e | e <;> omega⟩)
              have SV : Hid (TS w (w6.setCell ⟨G1, 10, none⟩ (.slice a6 L6.length c6)) X u7 (.slice ao T.length co) (if br = true then Lb ++ [(T.length : Int)] else Lb) T (fun x' y' => decide (x' = pv ∧ y' = msl) || seen T T.length x' y') (T.length + 1) (fun k => k = F ∨ k = G1)) := S6.out.ch (chG _ _ _ _ _)
              have GV : Hid (GR (w6.setCell ⟨G1, 10, none⟩ (.slice a6 L6.length c6)) G1 f2) := by rw [hf2]; exact G6.out.bv _ _
              have FGF : Hid (FG f2 q6) := by
                show FG f2 q6
                rw [hf2]
                exact ⟨by show 1 ≤ 1 + mve ∧ 1 + mve ≤ 9; omega, by show 0 ≤ mde ∧ mde ≤ 8; omega, by show 0 ≤ msl ∧ msl ≤ 7; omega, by show 0 ≤ mpn ∧ mpn ≤ 4; omega, hsp, ⟨rfl, hq6L⟩, hs1, hs2, ⟨ab6, hl6⟩⟩
              have TG2 : Hid (TG (if br = true then Lb ++ [(T.length : Int)] else Lb) (T ++ [f2])) := by
                have := G.out.push hT30 FGF.out (by rw [hf2]; exact hpvm.out) (by rw [hf2]; exact HSN.out)
                rw [hf2] at this ⊢
                exact this
              have HSE : Hid ((fun x' y' => decide (x' = pv ∧ y' = msl) || seen T T.length x' y') = seen (T ++ [f2]) (T ++ [f2]).length) := by
                show _ = _
                rw [List.length_append, List.length_singleton, seen_succ, seen_app _ (Nat.le_refl _), fAt_new, hf2]
              have CFF : Hid (cF f2 = [.int .i64 pv, .int .i64 msl, .int .i64 (1 + mve), .int .i64 mde, .bool br, .bool pf, .bool hp, .int .i64 sp, .int .i64 mpn, .int .i64 (vcv q6), .slice a6 L6.length c6]) := by show _ = _; rw [hf2]; rfl
              clear hf2 o6 HB20 S6 G6 S4 G4 ab6 hl6
              go_upto_region 19 with fail
              clear z10 zf10
              generalize w6.setCell ⟨G1, 10, none⟩ (.slice a6 L6.length c6) = V at *
              have gc : ∀ j u, (cF f2)[j]? = some u → V.cell? ⟨G1, j, none⟩ = some u := fun j u hu => by
                have hj := (List.getElem?_eq_some_iff.1 hu).1
                rw [cF_len] at hj
                rw [Row.cell GV.out hj]
                unfold gv
                rw [List.getD_eq_getElem?_getD, hu]
                rfl
              rw [CFF.out] at gc
              have d0 := gc 0 _ rfl
              have d1 := gc 1 _ rfl
              have d2 := gc 2 _ rfl
              have d3 := gc 3 _ rfl
              have d4 := gc 4 _ rfl
              have d5 := gc 5 _ rfl
              have d6 := gc 6 _ rfl
              have d7 := gc 7 _ rfl
              have d8 := gc 8 _ rfl
              have d9 := gc 9 _ rfl
              have d10 := gc 10 _ rfl
              clear gc
              have HP : Hid ((∀ j u, [Value.int .i64 pv, .int .i64 msl, .int .i64 (1 + mve), .int .i64 mde, .bool br, .bool pf, .bool hp, .int .i64 sp, .int .i64 mpn, .int .i64 (vcv q6), .slice a6 L6.length c6][j]? = some u → (V.alloc (.cells #[.int .i64 pv, .int .i64 msl, .int .i64 (1 + mve), .int .i64 mde, .bool br, .bool pf, .bool hp, .int .i64 sp, .int .i64 mpn, .int .i64 (vcv q6), .slice a6 L6.length c6] 25)).cell? ((⟨V.heap.size, 0, none⟩ : Addr).add j) = some u) ∧ (V.alloc (.cells #[.int .i64 pv, .int .i64 msl, .int .i64 (1 + mve), .int .i64 mde, .bool br, .bool pf, .bool hp, .int .i64 sp, .int .i64 mpn, .int .i64 (vcv q6), .slice a6 L6.length c6] 25)).ownsRow 0 25 11 (.slice ao T.length co) T.length (T.flatMap cF)) := ⟨World.news_of_block (heap_alloc_new V _), World.ownsRow.alloc SV.out.out _⟩
              go_wp2_with (at_builtin; refine wpList_append_lies _ rfl _ _ 22 rfl 0 25 j0 _ 11 88 Try.underlying22 hj0 hy0 hy1 hy2 rfl (by omega) (.slice ao T.length co) T.length (T.flatMap cF) rfl (by exact HP.out.2) ⟨V.heap.size, 0, none⟩ 1 1 [.int .i64 pv, .int .i64 msl, .int .i64 (1 + mve), .int .i64 mde, .bool br, .bool pf, .bool hp, .int .i64 sp, .int .i64 mpn, .int .i64 (vcv q6), .slice a6 L6.length c6] rfl rfl (by exact HP.out.1) (by simp [Value.oneCell']) (by omega) (by simp only [maxLen]; omega) (by omega) (Nat.zero_le _) (V.heap.size + 1) (by simp) ?_)
              intro g2 cap2 w7 ho hg hat hbel
              have S7 := Lib.hid (SV.out.pushO (f := f2) rfl (by rw [CFF.out]; exact ho) hg hat BF.out)
              rw [HSE.out] at S7
              have S8 : Hid (TS w w7 X u7 (.slice (some ⟨g2, 0, none⟩) (T.length + 1) cap2) (if br = true then Lb ++ [(T.length : Int)] else Lb) (T ++ [f2]) (seen (T ++ [f2]) (T ++ [f2]).length) (T ++ [f2]).length (fun _ => False)) := by
                have := S7.out.forget
                rw [List.length_append, List.length_singleton] at this ⊢
                exact this
              clear ho hg hat HP S7
              go_wp2_with fail
              go_roundw
              case rel => exact ⟨i + 1, _, T ++ [f2], by omega, by go_num, S8, TG2, by simp; omega⟩
              case measure => simp [intOf]; omega
          · rw [hsn] at hL
            clear hsn hU S3 G3 F3
            go_wp2_with fail
            go_roundw
            case rel => exact ⟨i + 1, Lb, T, by omega, by go_num, SX.out.forget, G, hTl⟩
            case measure => simp [intOf]; omega
      · have y2 : ¬ (T.length : Int) < 30 := by omega
        go_wp2_with fail
        go_ret
        exact ⟨_, _, _, _, _, _, _, rfl, S.out, G.out, hTl⟩
    · have y1 : ¬ (i : Int) < len := by omega
      go_wp2_with fail
      go_ret
      exact ⟨_, _, _, _, _, _, _, rfl, S.out, G.out, hTl⟩
end Go.Proofs.Ytedihfcbpgogoaa
