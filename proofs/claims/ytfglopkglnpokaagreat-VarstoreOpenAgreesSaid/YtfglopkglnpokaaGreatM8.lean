/- List; shape; the store for the laws; how arguments are read. Conditions: those that each theorem names. -/
import Derived.Deep.AppendLies
import Derived.Laws.StructEq
import Derived.ProofKit
import Derived.OpenShut
import Derived.ShutString
import Derived.ChangeOld
import Derived.Below
import Derived.Deep.Slices
import Derived.Deep.Fields
import Derived.Deep.MidRow
import Derived.Test.YtfglopkglnpokaaGreatM7
namespace Go.Proofs.YtfglopkglnpokaaGreat
open Go.RowKit
/-- These variables can be read behind this address. -/
def VS (w : World) (a : Option Addr) (cap : Nat) (V : Vars) : Prop :=
  V.length ≤ cap ∧ cap ≤ maxLen ∧ (V ≠ [] → ∃ g, a = some ⟨g, 0, none⟩ ∧ g < w.heap.size ∧ ∀ j, j < V.length → w.cell? ⟨g, j * 2, none⟩ = some (str (V.getD j ([], [])).1) ∧ w.cell? ⟨g, j * 2 + 1, none⟩ = some (str (V.getD j ([], [])).2))
theorem VS.ch {C : Nat → Prop} {w w' : World} {a : Option Addr} {cap : Nat} {V : Vars} (h : VS w a cap V) (c : Ch C w w') (hC : ∀ g, a = some ⟨g, 0, none⟩ → ¬ C g) : VS w' a cap V :=
  ⟨h.1, h.2.1, fun hne => by
    obtain ⟨g, e, hg, hc⟩ := h.2.2 hne
    exact ⟨g, e, Nat.lt_of_lt_of_le hg c.size, fun j hj => ⟨(c.cell ⟨g, j * 2, none⟩ hg (hC g e)).trans (hc j hj).1, (c.cell ⟨g, j * 2 + 1, none⟩ hg (hC g e)).trans (hc j hj).2⟩⟩⟩
theorem VS.below {w w' : World} {a : Option Addr} {cap : Nat} {V : Vars} (h : VS w a cap V) (c : Below w.heap.size w w') : VS w' a cap V := h.ch (Ch.of_below c (fun _ => False)) (fun _ _ h => h)
def findV (o : Option Str) : Value := .tuple #[str (o.getD []), .bool o.isSome]
theorem getV_first {V : Vars} {k : Str} {i : Nat} (hi : i < V.length) (h : ∀ j, j < i → (V.getD j ([], [])).1 ≠ k) (e : (V.getD i ([], [])).1 = k) : getV V k = some (V.getD i ([], [])).2 := by
  induction V generalizing i with
  | nil => cases hi
  | cons p r ih =>
    cases i with
    | zero =>
      simp at e
      simp [getV, e]
    | succ i =>
      have h0 := h 0 (by omega)
      simp at h0
      have hb : (p.1 == k) = false := by simpa using h0
      have := ih (i := i) (by simpa using hi) (fun j hj => by have := h (j + 1) (by omega); simpa using this) (by simpa using e)
      simpa [getV, hb] using this
theorem getV_no {V : Vars} {k : Str} (h : ∀ j, j < V.length → (V.getD j ([], [])).1 ≠ k) : getV V k = none := by
  unfold getV
  rw [Option.map_eq_none_iff, List.find?_eq_none]
  intro p hp
  obtain ⟨j, hj, rfl⟩ := List.getElem_of_mem hp
  have := h j hj
  rw [List.getD_eq_getElem?_getD, List.getElem?_eq_getElem hj] at this
  simpa using this
def needV (V : Vars) : Nat := (V.map fun p => pgs (5 + p.1.length + p.2.length)).sum
theorem needV_take {V : Vars} {i : Nat} (h : i < V.length) : needV (V.take (i + 1)) = needV (V.take i) + pgs (5 + (V.getD i ([], [])).1.length + (V.getD i ([], [])).2.length) := by
  unfold needV
  rw [List.take_succ_eq_append_getElem h, List.map_append, List.sum_append, List.getD_eq_getElem?_getD, List.getElem?_eq_getElem h]
  simp
end Go.Proofs.YtfglopkglnpokaaGreat
namespace Go.Proofs.YtfglopkglnpokaaGreat
open Go.RowKit
theorem SM.runLen {w : World} {b n : Nat} {V : Vars} (h : SM w b n V) (hV : Srt V) (ty : TypeId) : (Builtin.len_ #[93] ty #[.map (some b)]).run Tryz.prog w = .ok (.int .i64 V.length) w := by
  obtain ⟨D, hown, g1, _⟩ := h
  have hkp : (V.map (·.1)).Perm (strKeys D) :=
    Collected.perm (left := fun _ => false) (ss := V.map (·.1)) ⟨hV.nodup, fun x => by rw [g1, getV_isSome]; simp⟩ hown kS Tryz.underlying9 (fun _ => rfl)
  have h2 := hkp.length_eq
  rw [List.length_map] at h2
  have h3 : (strKeys D).length = Maps.size D := by
    obtain ⟨es, rfl⟩ := hown.isMap
    simp [strKeys, Maps.size]
  rw [hown.len Tryz.underlying93 ty, h2, h3]
theorem Tryz.infoV : (Tryz.prog.info? 54).map (fun i => (i.zero, i.size, i.bytes)) = some (some (.agg #[.string ⟨#[]⟩, .string ⟨#[]⟩]), 2, 32) := by kernel_rfl
def vcell (V : Vars) (i j : Nat) : Value := if j < i * 2 then (if j % 2 = 0 then str (V.getD (j / 2) ([], [])).1 else str (V.getD (j / 2) ([], [])).2) else .string ⟨#[]⟩
theorem Rg.vs {w : World} {q L : Nat} {V : Vars} (h : Rg w q 54 (L * 2) (vcell V L)) (hL : V.length = L) (hm : L ≤ maxLen) : VS w (some ⟨q, 0, none⟩) L V := by
  refine ⟨by omega, hm, fun _ => ⟨q, rfl, h.lt, fun j hj => ?_⟩⟩
  rw [hL] at hj
  have e1 : j * 2 / 2 = j := by omega
  have e2 : (j * 2 + 1) / 2 = j := by omega
  have e3 : (j * 2 + 1) % 2 = 1 := by omega
  refine ⟨?_, ?_⟩
  · rw [h.cell (i := j * 2) (by omega)]; unfold vcell; rw [if_pos (by omega), if_pos (by omega), e1]
  · rw [h.cell (i := j * 2 + 1) (by omega)]; unfold vcell; rw [if_pos (by omega), if_neg (by omega), e2]
theorem Rg.vput {w : World} {q L i : Nat} {V : Vars} (h : Rg w q 54 (L * 2) (vcell V i)) (hi : i < L) : Rg ((w.setCell ⟨q, i * 2, none⟩ (str (V.getD i ([], [])).1)).setCell ⟨q, i * 2 + 1, none⟩ (str (V.getD i ([], [])).2)) q 54 (L * 2) (vcell V (i + 1)) :=
  ((h.set (i := i * 2) (by omega) _).set (i := i * 2 + 1) (by omega) _).congr fun j hj => by
    by_cases e : j = i * 2 + 1
    · subst e
      rw [upd_hit]; unfold vcell
      rw [if_pos (by omega), if_neg (by omega), show (i * 2 + 1) / 2 = i by omega]
    · rw [upd_miss _ _ e]
      by_cases e2 : j = i * 2
      · subst e2
        rw [upd_hit]; unfold vcell
        rw [if_pos (by omega), if_pos (by omega), show i * 2 / 2 = i by omega]
      · rw [upd_miss _ _ e2]
        unfold vcell
        by_cases e3 : j < i * 2
        · rw [if_pos e3, if_pos (show j < (i + 1) * 2 by omega)]
        · rw [if_neg e3, if_neg (show ¬ j < (i + 1) * 2 by omega)]
section
variable {w : World} {DS : Nat → Prop} {S X m n : Nat} {st : ST}
set_option maxRecDepth 100000 in
set_option maxHeartbeats 1000000 in
theorem list_any (hs : SW w DS S X m n st) (hn : n ≤ 1000) : Calls Tryz.prog 23 #[fptr S] w fun e w' => ∃ g, e = .returned (.slice (some ⟨g, 0, none⟩) st.V.length st.V.length) ∧ w.heap.size ≤ g ∧ VS w' (some ⟨g, 0, none⟩) st.V.length st.V ∧ Below w.heap.size w w' := by
  obtain ⟨i0, hi0, hx0, hx1, hx2⟩ := info_parts Tryz.infoV
  have hlen := hs.map.runLen hs.srt 3
  have hVl : st.V.length ≤ 1000 := by have := hs.map.len hs.srt; omega
  obtain ⟨L, hL⟩ : ∃ L, st.V.length = L := ⟨_, rfl⟩
  rw [hL] at hlen hVl ⊢
  have HLL := Lib.hid hL
  have c1 := hs.c1
  have HS := Lib.hid hs
  have hmk : (Instr.makeSlice 55 (.int .i64 0) (.int .i64 (L : Int))).run Tryz.prog w = .ok (.slice (some ⟨w.heap.size, 0, none⟩) 0 L) (w.alloc (.cells (madeCells (Value.agg #[.string ⟨#[]⟩, .string ⟨#[]⟩]).cells (L * 2)) 54)) := by
    have := run_make (P := Tryz.prog) w 55 54 i0 (.agg #[.string ⟨#[]⟩, .string ⟨#[]⟩]) Tryz.underlying55 hi0 hx0 .i64 .i64 (0 : Int) (L : Int) (by omega) (by omega) (by rw [hx2]; omega) (by omega)
    rw [hx1] at this
    simpa using this
  have R2 := Rg.made2 w 54 (L * 2) (.agg #[.string ⟨#[]⟩, .string ⟨#[]⟩]) (.string ⟨#[]⟩) (.string ⟨#[]⟩) rfl
  have B2 : Below w.heap.size w (w.alloc (.cells (madeCells (Value.agg #[.string ⟨#[]⟩, .string ⟨#[]⟩]).cells (L * 2)) 54)) := (Below.refl _ _).alloc (Nat.le_refl _) _
  obtain ⟨w2, hw2⟩ : ∃ w2, w.alloc (.cells (madeCells (Value.agg #[.string ⟨#[]⟩, .string ⟨#[]⟩]).cells (L * 2)) 54) = w2 := ⟨_, rfl⟩
  obtain ⟨q, hq⟩ : ∃ q, w.heap.size = q := ⟨_, rfl⟩
  rw [hw2] at hmk R2 B2
  rw [hq] at hmk R2
  have hqw : w.heap.size ≤ q := by omega
  have HR : Hid (Rg w2 q 54 (L * 2) (vcell st.V 0)) := R2.congr fun j _ => by unfold vcell; rw [if_neg (show ¬ j < 0 * 2 by omega)]; split <;> rfl
  have HB := Lib.hid B2
  have HS2 := Lib.hid (hs.below B2)
  have c1' := HS2.out.c1
  have HKY := Lib.hid (keys_any m w2)
  have HSO := Lib.hid (sorted_any HS2.out.map HS2.out.srt hn)
  rw [HLL.out] at HSO
  clear hs hL R2 B2 hw2 hq
  go_enter Tryz.func23, Tryz.ntmps23
  go_wp2_with fail
  refine HKY.out.mono ?_
  rintro e w3 ⟨rfl, rfl⟩
  go_wp2_with fail
  refine HSO.out.mono ?_
  rintro e w4 ⟨a, cap, rfl, ha0, ha1, b4⟩
  have HA : Hid (st.V ≠ [] → ∃ g, a = some ⟨g, 0, none⟩ ∧ PS w4 g 0 cap (st.V.map (·.1)) ∧ g ≠ q) := fun hne => by
    obtain ⟨g, e, hg, hps⟩ := ha1 hne
    exact ⟨g, e, hps, by have := HR.out.lt; omega⟩
  have HR4 := Lib.hid (HR.out.ch (Ch.of_below b4 (fun _ => False)) id)
  have HB4 : Hid (Below w.heap.size w w4) := HB.out.trans (b4.mono HB.out.size)
  clear ha0 ha1 b4 HKY HSO HR HB hmk hlen c1 c1' HS2
  go_wp2_with fail
  go_loopw [3, 19] (fun x3 z wr => ∃ i : Nat, i ≤ L ∧ x3 = .slice (some ⟨q, 0, none⟩) i L ∧ z = .int .i64 (i : Int) ∧ Hid (Rg wr q 54 (L * 2) (vcell st.V i)) ∧ Hid (Below w.heap.size w wr) ∧ Hid (st.V ≠ [] → ∃ g, a = some ⟨g, 0, none⟩ ∧ PS wr g 0 cap (st.V.map (·.1)) ∧ g ≠ q)) (fun _ z _ => L - (intOf z).toNat)
  case atStart => exact ⟨0, by omega, rfl, rfl, HR4, HB4, HA⟩
  case round =>
    clear HR4 HB4 HA
    obtain ⟨i, hi, rfl, rfl, HR, HB, HA⟩ := hrel
    by_cases hlt : i < L
    · have y0 : (i : Int) < L := by omega
      have hiV : i < st.V.length := by rw [HLL.out]; exact hlt
      have hne : st.V ≠ [] := by intro e; rw [e] at hiV; cases hiV
      obtain ⟨g, rfl, hps, hgq⟩ := HA.out hne
      have hgv : st.V.getD i ([], []) = st.V[i] := by rw [List.getD_eq_getElem?_getD, List.getElem?_eq_getElem hiV]; rfl
      have hc := hps.2.2.2 i (by rw [List.length_map]; exact hiV)
      have hgd : (st.V.map (·.1)).getD i [] = (st.V.getD i ([], [])).1 := by rw [hgv, List.getD_eq_getElem?_getD, List.getElem?_map, List.getElem?_eq_getElem hiV]; rfl
      rw [Nat.zero_add, hgd] at hc
      have hcap : L ≤ cap := by have := hps.2.1; rw [List.length_map, HLL.out] at this; exact this
      obtain ⟨ke, hke⟩ : ∃ s : ByteArray, s = ⟨(st.V.getD i ([], [])).1.toArray⟩ := ⟨_, rfl⟩
      obtain ⟨ve, hve⟩ : ∃ s : ByteArray, s = ⟨(st.V.getD i ([], [])).2.toArray⟩ := ⟨_, rfl⟩
      have hkl : ke.data.toList = (st.V.getD i ([], [])).1 := by rw [hke]
      have hks : ke.size ≤ 24 := by rw [bsz, hkl, hgv]; exact (HS.out.hv _ (List.getElem_mem hiV)).1
      have hSr := HS.out.below HB.out
      have c1 := hSr.c1
      have hlk := hSr.map.look1 (s := ke) (by unfold maxLen; omega)
      rw [hkl, hgv, getV_mem HS.out.srt (List.getElem_mem hiV), ← hgv] at hlk
      have e1 : str (st.V.getD i ([], [])).1 = .string ke := by rw [hke]
      have e2 : str (st.V.getD i ([], [])).2 = .string ve := by rw [hve]
      rw [e1] at hc
      rw [show str ((some (st.V.getD i ([], [])).2).getD []) = .string ve from e2] at hlk
      have b5 : Below w.heap.size w (wr.alloc (.cells #[.string ke, .string ve] 54)) := HB.out.alloc HB.out.size _
      have r5 : Rg (wr.alloc (.cells #[.string ke, .string ve] 54)) q 54 (L * 2) (vcell st.V i) := HR.out.ch (Ch.alloc (Ch.refl (fun _ => False) wr) _) id
      have z0 := r5.cell (i := i * 2) (by omega)
      have f0 := r5.frozen (i * 2)
      have r6 := r5.set (i := i * 2) (by omega) (.string ke)
      have z1 := r6.cell (i := i * 2 + 1) (by omega)
      have f1 := r6.frozen (i * 2 + 1)
      have HR6 : Hid (Rg (((wr.alloc (.cells #[.string ke, .string ve] 54)).setCell ⟨q, i * 2, none⟩ (.string ke)).setCell ⟨q, i * 2 + 1, none⟩ (.string ve)) q 54 (L * 2) (vcell st.V (i + 1))) := by
        have := r5.vput hlt
        rw [e1, e2] at this
        exact this
      have HB6 : Hid (Below w.heap.size w (((wr.alloc (.cells #[.string ke, .string ve] 54)).setCell ⟨q, i * 2, none⟩ (.string ke)).setCell ⟨q, i * 2 + 1, none⟩ (.string ve))) := (b5.setCell (p := ⟨q, i * 2, none⟩) hqw _).setCell (p := ⟨q, i * 2 + 1, none⟩) hqw _
      have HA6 : Hid (st.V ≠ [] → ∃ g', (some ⟨g, 0, none⟩ : Option Addr) = some ⟨g', 0, none⟩ ∧ PS (((wr.alloc (.cells #[.string ke, .string ve] 54)).setCell ⟨q, i * 2, none⟩ (.string ke)).setCell ⟨q, i * 2 + 1, none⟩ (.string ve)) g' 0 cap (st.V.map (·.1)) ∧ g' ≠ q) := fun _ =>
        ⟨g, rfl, hps.ch (((Ch.alloc (Ch.refl (fun x => x = q) wr) _).setCell (p := ⟨q, i * 2, none⟩) (fun _ => rfl) _).setCell (p := ⟨q, i * 2 + 1, none⟩) (fun _ => rfl) _) hgq, hgq⟩
      clear b5 r5 r6 hps hgq hgd hgv hke hve hkl hSr e1 e2 HR HB HA hne hiV hks
      go_wp2_with fail
      go_roundw
      case rel => exact ⟨i + 1, by omega, rfl, by go_num, HR6, HB6, HA6⟩
      case measure => simp [intOf]; omega
    · have ei : i = L := by omega
      have y0 : ¬ (i : Int) < L := by omega
      subst ei
      have HV := Lib.hid (HR.out.vs HLL.out (by unfold maxLen; omega))
      go_wp2_with fail
      go_ret
      exact ⟨q, rfl, hqw, HV.out, HB.out⟩
end
end Go.Proofs.YtfglopkglnpokaaGreat
namespace Go.Proofs.YtfglopkglnpokaaGreat
open Go.RowKit
def shB (b : Int) : Nat := 2 + mo b 3
def shP (p : Int) : Nat := 2 + mo p 8
def shE (e : Int) : Nat := if mo e 4 = 0 then mo e 24 / 4 else 1000
theorem shB_le (b : Int) : 2 ≤ shB b ∧ shB b ≤ 4 := by have := mo_lt b 3 (by omega); unfold shB; omega
theorem shP_le (b : Int) : 2 ≤ shP b ∧ shP b ≤ 9 := by have := mo_lt b 8 (by omega); unfold shP; omega
theorem shE_le (b : Int) : shE b ≤ 1000 := by have := mo_lt b 24 (by omega); unfold shE; split <;> omega
abbrev fsV (b p e : Int) : Value := .agg #[.int .i64 b, .int .i64 p, .int .i64 e]
def fsc (b p e : Int) (j : Nat) : Value := if j = 0 then .int .i64 b else if j = 1 then .int .i64 p else .int .i64 e
theorem Row.arr3 {w : World} {B : Nat} {b p e : Int} (h : Row w B 23 3 (fsc b p e)) : w.heap[B]? = some (.cells #[.int .i64 b, .int .i64 p, .int .i64 e] 23 (0, 0)) := by
  obtain ⟨cs, hh, h1, h2⟩ := h
  have : cs = #[.int .i64 b, .int .i64 p, .int .i64 e] := by
    apply Array.ext
    · rw [h1]; rfl
    · intro i hi hj
      have h3 := h2 i (by omega)
      rw [Array.getElem?_eq_getElem hi] at h3
      injection h3 with h3
      rw [h3]
      rcases (by omega : i = 0 ∨ i = 1 ∨ i = 2) with rfl | rfl | rfl <;> rfl
  rw [hh, this]
theorem Row.load3 {w : World} {B : Nat} {b p e : Int} (h : Row w B 23 3 (fsc b p e)) : (loadVar 23 ⟨B, 0, none⟩).run Tryz.prog w = .ok (fsV b p e) w :=
  run_loadVar_row w B 23 _ _ (0, 0) _ h.arr3 Tryz.underlying23 rfl (by kernel_rfl)
set_option maxRecDepth 100000 in
set_option maxHeartbeats 1000000 in
theorem shape_law (b p e : Int) (w : World) : Calls Tryz.prog 8 #[fsV b p e] w fun en w' => en = .returned (fsV (shB b : Nat) (shP p : Nat) (shE e : Nat)) ∧ Below w.heap.size w w' := by
  have HM3 : Hid (∀ w, Calls Tryz.prog 11 #[.int .i64 b, .int .i64 3] w fun e w' => e = .returned (.int .i64 ((mo b 3 : Nat) : Int)) ∧ w = w') := fun w => mod_any b 3 w (by omega) (by omega)
  have HM8 : Hid (∀ w, Calls Tryz.prog 11 #[.int .i64 p, .int .i64 8] w fun e w' => e = .returned (.int .i64 ((mo p 8 : Nat) : Int)) ∧ w = w') := fun w => mod_any p 8 w (by omega) (by omega)
  have HM4 : Hid (∀ w, Calls Tryz.prog 11 #[.int .i64 e, .int .i64 4] w fun en w' => en = .returned (.int .i64 ((mo e 4 : Nat) : Int)) ∧ w = w') := fun w => mod_any e 4 w (by omega) (by omega)
  have HM24 : Hid (∀ w, Calls Tryz.prog 11 #[.int .i64 e, .int .i64 24] w fun en w' => en = .returned (.int .i64 ((mo e 24 : Nat) : Int)) ∧ w = w') := fun w => mod_any e 24 w (by omega) (by omega)
  have hl3 := mo_lt b 3 (by omega)
  have hl8 := mo_lt p 8 (by omega)
  have hl4 := mo_lt e 4 (by omega)
  have hl24 := mo_lt e 24 (by omega)
  obtain ⟨m3, hm3⟩ : ∃ x, mo b 3 = x := ⟨_, rfl⟩
  obtain ⟨m8, hm8⟩ : ∃ x, mo p 8 = x := ⟨_, rfl⟩
  obtain ⟨m4, hm4⟩ : ∃ x, mo e 4 = x := ⟨_, rfl⟩
  obtain ⟨m24, hm24⟩ : ∃ x, mo e 24 = x := ⟨_, rfl⟩
  have HE : Hid (shB b = 2 + m3 ∧ shP p = 2 + m8 ∧ shE e = if m4 = 0 then m24 / 4 else 1000) := by
    show _ ∧ _ ∧ _
    unfold shB shP shE
    rw [hm3, hm8, hm4, hm24]
    exact ⟨rfl, rfl, rfl⟩
  rw [hm3] at HM3 hl3
  rw [hm8] at HM8 hl8
  rw [hm4] at HM4 hl4
  rw [hm24] at HM24 hl24
  clear hm3 hm8 hm4 hm24
  go_enter Tryz.func8, Tryz.ntmps8
  go_wp2_with fail
  obtain ⟨Z, hZ⟩ : ∃ Z, w.heap.size = Z := ⟨_, rfl⟩
  have R0 : Row ((w.alloc (.cells #[.int .i64 b, .int .i64 p, .int .i64 e] 23)).alloc (.cells #[.int .i64 0, .int .i64 0, .int .i64 0] 23)) Z 23 3 (fsc b p e) := by
    rw [← hZ]; exact (Row.ofList w _ #[.int .i64 b, .int .i64 p, .int .i64 e] (fsc b p e) 3 rfl).alloc _
  have hsz1 : (w.alloc (.cells #[.int .i64 b, .int .i64 p, .int .i64 e] 23)).heap.size = Z + 1 := by simp [hZ]
  have R1 : Row ((w.alloc (.cells #[.int .i64 b, .int .i64 p, .int .i64 e] 23)).alloc (.cells #[.int .i64 0, .int .i64 0, .int .i64 0] 23)) (Z + 1) 23 3 (fsc 0 0 0) := by
    rw [← hsz1]; exact Row.ofList _ _ #[.int .i64 0, .int .i64 0, .int .i64 0] (fsc 0 0 0) 3 rfl
  have hsz2 : ((w.alloc (.cells #[.int .i64 b, .int .i64 p, .int .i64 e] 23)).alloc (.cells #[.int .i64 0, .int .i64 0, .int .i64 0] 23)).heap.size = Z + 2 := by simp [hZ]
  have B1 : Below Z w ((w.alloc (.cells #[.int .i64 b, .int .i64 p, .int .i64 e] 23)).alloc (.cells #[.int .i64 0, .int .i64 0, .int .i64 0] 23)) := ((Below.refl _ _).alloc (by omega) _).alloc (by omega) _
  generalize (w.alloc (.cells #[.int .i64 b, .int .i64 p, .int .i64 e] 23)).alloc (.cells #[.int .i64 0, .int .i64 0, .int .i64 0] 23) = w1 at *
  rw [hZ]
  have S1 : Hid (w1.drew.cell? ⟨Z, 0, none⟩ = some (.int .i64 b) ∧ w1.drew.cell? ⟨Z, 1, none⟩ = some (.int .i64 p)) := ⟨R0.cell (i := 0) (by omega), R0.cell (i := 1) (by omega)⟩
  have HR0 := Lib.hid R0.drew
  have HR1 := Lib.hid R1.drew
  have HB1 := Lib.hid B1.drew
  have hsz3 : w1.drew.heap.size = Z + 2 := hsz2
  clear R0 R1 B1 hsz1 hsz2
  refine wp_region_pl (fun Y => Y.cell? ⟨Z, 0, none⟩ = some (.int .i64 b) ∧ Y.cell? ⟨Z, 1, none⟩ = some (.int .i64 p)) ((0, 0) :: (1, 0) :: (2, 0) :: (3, 0) :: (4, 0) :: (5, 0) :: (6, 0) :: (7, 0) :: (8, 0) :: (9, 1) :: (10, 2) :: []) (by kernel_rfl) (by kernel_rfl) ?_
  iterate 2 (apply wpP_go; (focus rfl); (focus rfl); (focus exact S1.out); (focus (rintro Y ⟨s0, s1⟩; go_simp; exact rfl)); intro K hK; go_simp; refine hK _ ?_; clear hK K)
  apply wpP_call
  focus rfl
  focus rfl
  focus exact S1.out
  focus (rintro Y ⟨s0, s1⟩; go_simp; exact ⟨rfl, rfl⟩)
  focus (rintro Y ⟨s0, s1⟩; exact HM3.out Y)
  intro K hK
  go_simp
  refine hK _ ?_
  clear hK K
  iterate 3 (apply wpP_go; (focus rfl); (focus rfl); (focus exact S1.out); (focus (rintro Y ⟨s0, s1⟩; go_simp; exact rfl)); intro K hK; go_simp; refine hK _ ?_; clear hK K)
  apply wpP_call
  focus rfl
  focus rfl
  focus exact S1.out
  focus (rintro Y ⟨s0, s1⟩; go_simp; exact ⟨rfl, rfl⟩)
  focus (rintro Y ⟨s0, s1⟩; exact HM8.out Y)
  intro K hK
  go_simp
  refine hK _ ?_
  clear hK K
  iterate 2 (apply wpP_go; (focus rfl); (focus rfl); (focus exact S1.out); (focus (rintro Y ⟨s0, s1⟩; go_simp; exact rfl)); intro K hK; go_simp; refine hK _ ?_; clear hK K)
  apply wpP_one
  focus rfl
  intro K hK
  go_simp
  have e3 : IntKind.i64.wrap (2 + (m3 : Int)) = 2 + (m3 : Int) := IntWalk.i64_in _ ⟨by omega, by omega⟩
  have e8 : IntKind.i64.wrap (2 + (m8 : Int)) = 2 + (m8 : Int) := IntWalk.i64_in _ ⟨by omega, by omega⟩
  rw [e3, e8]
  have HW : Hid (∃ w2, w2 = (w1.alloc (.cells #[.int .i64 0, .int .i64 0, .int .i64 0] 23)).drew) := ⟨_, rfl⟩
  have h20 := Row.ofList w1.drew 23 #[.int .i64 0, .int .i64 0, .int .i64 0] (fsc 0 0 0) 3 rfl
  have H2 : Hid (Row (w1.alloc (.cells #[.int .i64 0, .int .i64 0, .int .i64 0] 23)).drew (Z + 2) 23 3 (fsc 0 0 0)) := by rw [hsz3] at h20; exact h20
  have HR02 : Hid (Row (w1.alloc (.cells #[.int .i64 0, .int .i64 0, .int .i64 0] 23)).drew Z 23 3 (fsc b p e)) := HR0.out.alloc _
  have HR12 : Hid (Row (w1.alloc (.cells #[.int .i64 0, .int .i64 0, .int .i64 0] 23)).drew (Z + 1) 23 3 (fsc 0 0 0)) := HR1.out.alloc _
  have HB2 : Hid (Below Z w (w1.alloc (.cells #[.int .i64 0, .int .i64 0, .int .i64 0] 23)).drew) := HB1.out.alloc (by omega) _
  clear h20 HR0 HR1 HB1 HW
  have S2 : Hid ((w1.alloc (.cells #[.int .i64 0, .int .i64 0, .int .i64 0] 23)).drew.cell? ⟨Z, 0, none⟩ = some (.int .i64 b) ∧ (w1.alloc (.cells #[.int .i64 0, .int .i64 0, .int .i64 0] 23)).drew.cell? ⟨Z, 1, none⟩ = some (.int .i64 p)) := ⟨HR02.out.cell (i := 0) (by omega), HR02.out.cell (i := 1) (by omega)⟩
  generalize (w1.alloc (.cells #[.int .i64 0, .int .i64 0, .int .i64 0] 23)).drew = w2 at *
  refine hK _ _ S2.out ?_
  clear hK K S1 S2
  have z0 := H2.out.cell (i := 0) (by omega)
  have f0 := H2.out.frozen 0
  have z1 := H2.out.cell (i := 1) (by omega)
  have f1 := H2.out.frozen 1
  have z2 := H2.out.cell (i := 2) (by omega)
  have f2 := H2.out.frozen 2
  have HR3 : Hid (Row (((w2.setCell ⟨Z + 2, 0, none⟩ (.int .i64 (2 + (m3 : Int)))).setCell ⟨Z + 2, 1, none⟩ (.int .i64 (2 + (m8 : Int)))).setCell ⟨Z + 2, 2, none⟩ (.int .i64 1000)) (Z + 2) 23 3 (fsc (2 + (m3 : Int)) (2 + (m8 : Int)) 1000)) :=
    (((H2.out.set (i := 0) (by omega) (.int .i64 (2 + (m3 : Int)))).set (i := 1) (by omega) (.int .i64 (2 + (m8 : Int)))).set (i := 2) (by omega) (.int .i64 1000)).congr fun j hj => by
      rcases (by omega : j = 0 ∨ j = 1 ∨ j = 2) with rfl | rfl | rfl <;> rfl
  have HC3 : Hid (Ch (fun x => x = Z + 2) w2 (((w2.setCell ⟨Z + 2, 0, none⟩ (.int .i64 (2 + (m3 : Int)))).setCell ⟨Z + 2, 1, none⟩ (.int .i64 (2 + (m8 : Int)))).setCell ⟨Z + 2, 2, none⟩ (.int .i64 1000))) :=
    (((Ch.refl (fun x => x = Z + 2) w2).setCell (p := ⟨Z + 2, 0, none⟩) (fun _ => rfl) _).setCell (p := ⟨Z + 2, 1, none⟩) (fun _ => rfl) _).setCell (p := ⟨Z + 2, 2, none⟩) (fun _ => rfl) _
  have HR23 := HR3
  have HR03 := Lib.hid (HR02.out.ch HC3.out (by omega))
  have HR13 := Lib.hid (HR12.out.ch HC3.out (by omega))
  have HB3 : Hid (Below Z w _) := HB2.out.trans (HC3.out.below (B := Z) (by have := HR02.out.lt; omega) (fun i e => by rw [e]; omega))
  apply wpP_two
  focus rfl
  intro K hK
  go_simp
  generalize ((w2.setCell ⟨Z + 2, 0, none⟩ (.int .i64 (2 + (m3 : Int)))).setCell ⟨Z + 2, 1, none⟩ (.int .i64 (2 + (m8 : Int)))).setCell ⟨Z + 2, 2, none⟩ (.int .i64 1000) = w3 at *
  refine hK _ _ ?_
  clear hK K z0 z1 z2 f0 f1 f2 HC3 H2 HR02 HR12 HB2
  refine wpP_done ?_
  have c02 := HR03.out.cell (i := 2) (by omega)
  rw [show fsc b p e 2 = .int .i64 e from rfl] at c02
  go_wp2_with fail
  refine (HM4.out w3).mono ?_
  rintro en w' ⟨rfl, rfl⟩
  go_upto_if 16 with fail
  go_cut [] (fun wx => Hid (Row wx (Z + 2) 23 3 (fsc (2 + (m3 : Int)) (2 + (m8 : Int)) (shE e : Nat))) ∧ Hid (Row wx (Z + 1) 23 3 (fsc 0 0 0)) ∧ Hid (Below Z w wx))
  case first =>
    by_cases h0 : m4 = 0
    · subst h0
      have hE : shE e = m24 / 4 := by have := HE.out.2.2; rwa [if_pos rfl] at this
      have z2 := HR13.out
      have y2 := HR23.out.cell (i := 2) (by omega)
      have g2 := HR23.out.frozen 2
      have hq : IntKind.i64.wrap ((m24 : Int).tdiv 4) = ((m24 / 4 : Nat) : Int) := by
        rw [Int.tdiv_eq_ediv_of_nonneg (by omega), IntWalk.i64_in _ ⟨by omega, by omega⟩]; omega
      have HR4 : Hid (Row (w3.setCell ⟨Z + 2, 2, none⟩ (.int .i64 (shE e : Nat))) (Z + 2) 23 3 (fsc (2 + (m3 : Int)) (2 + (m8 : Int)) (shE e : Nat))) := (HR23.out.set (i := 2) (by omega) _).congr fun j hj => by
        rcases (by omega : j = 0 ∨ j = 1 ∨ j = 2) with rfl | rfl | rfl <;> rfl
      have HC4 : Hid (Ch (fun x => x = Z + 2) w3 (w3.setCell ⟨Z + 2, 2, none⟩ (.int .i64 (shE e : Nat)))) := (Ch.refl (fun x => x = Z + 2) w3).setCell (p := ⟨Z + 2, 2, none⟩) (fun _ => rfl) _
      rw [hE] at HR4 HC4
      clear z2
      go_wp2_with fail
      refine (HM24.out w3).mono ?_
      rintro en w' ⟨rfl, rfl⟩
      go_wp2_with fail
      go_meet
      rw [hE]
      exact ⟨HR4.out, HR13.out.ch HC4.out (by omega), HB3.out.trans (HC4.out.below (B := Z) (by have := HR13.out.lt; omega) (fun i e => by rw [e]; omega))⟩
    · have hE : shE e = 1000 := by have := HE.out.2.2; rwa [if_neg h0] at this
      have h0d : ((m4 : Int) == 0) = false := by simpa using h0
      go_wp2_with fail
      go_meet
      rw [hE]
      exact ⟨HR23.out, HR13.out, HB3.out⟩
  case rest =>
    clear HR23 HR13 HB3 HR03 c02
    obtain ⟨HR2, HR1, HB⟩ := hcut
    have hE2 : ((shE e : Nat) : Int) = ((shE e : Nat) : Int) := rfl
    obtain ⟨ev, hev⟩ : ∃ ev : Int, ((shE e : Nat) : Int) = ev := ⟨_, rfl⟩
    rw [hev] at HR2
    have y0 : wc.cell? ⟨Z + 2, 0, none⟩ = some (.int .i64 (2 + (m3 : Int))) := HR2.out.cell (i := 0) (by omega)
    have y1 : wc.cell? ⟨Z + 2, 1, none⟩ = some (.int .i64 (2 + (m8 : Int))) := HR2.out.cell (i := 1) (by omega)
    have y2 : wc.cell? ⟨Z + 2, 2, none⟩ = some (.int .i64 ev) := HR2.out.cell (i := 2) (by omega)
    have z0 := HR1.out.cell (i := 0) (by omega)
    have f0 := HR1.out.frozen 0
    have z1 := HR1.out.cell (i := 1) (by omega)
    have f1 := HR1.out.frozen 1
    have z2 := HR1.out.cell (i := 2) (by omega)
    have f2 := HR1.out.frozen 2
    have HR3 : Hid (Row (((wc.setCell ⟨Z + 1, 0, none⟩ (.int .i64 (2 + (m3 : Int)))).setCell ⟨Z + 1, 1, none⟩ (.int .i64 (2 + (m8 : Int)))).setCell ⟨Z + 1, 2, none⟩ (.int .i64 ev)) (Z + 1) 23 3 (fsc (2 + (m3 : Int)) (2 + (m8 : Int)) ev)) :=
      (((HR1.out.set (i := 0) (by omega) (.int .i64 (2 + (m3 : Int)))).set (i := 1) (by omega) (.int .i64 (2 + (m8 : Int)))).set (i := 2) (by omega) (.int .i64 ev)).congr fun j hj => by
        rcases (by omega : j = 0 ∨ j = 1 ∨ j = 2) with rfl | rfl | rfl <;> rfl
    have HB3 : Hid (Below Z w (((wc.setCell ⟨Z + 1, 0, none⟩ (.int .i64 (2 + (m3 : Int)))).setCell ⟨Z + 1, 1, none⟩ (.int .i64 (2 + (m8 : Int)))).setCell ⟨Z + 1, 2, none⟩ (.int .i64 ev))) :=
      ((HB.out.setCell (p := ⟨Z + 1, 0, none⟩) (by show Z ≤ Z + 1; omega) _).setCell (p := ⟨Z + 1, 1, none⟩) (by show Z ≤ Z + 1; omega) _).setCell (p := ⟨Z + 1, 2, none⟩) (by show Z ≤ Z + 1; omega) _
    have HQ : Hid (fsV (2 + (m3 : Int)) (2 + (m8 : Int)) ev = fsV (shB b : Nat) (shP p : Nat) (shE e : Nat)) := by
      show _ = _
      rw [hev, HE.out.1, HE.out.2.1]
      simp
    clear hE2 hev
    go_wp2_with fail
    exact bodyPost_ret (v := fsV (2 + (m3 : Int)) (2 + (m8 : Int)) ev) (results_cell_row rfl _ _ (Z + 1) 23 #[.int .i64 (2 + (m3 : Int)), .int .i64 (2 + (m8 : Int)), .int .i64 ev] (0, 0) _ rfl HR3.out.arr3 Tryz.underlying23 rfl (by kernel_rfl)) rfl ⟨by rw [HQ.out], by rw [hZ]; exact HB3.out⟩
end Go.Proofs.YtfglopkglnpokaaGreat
namespace Go.Proofs.YtfglopkglnpokaaGreat
open Go.RowKit
/-- Store and flash lie apart in memory, from N on. -/
structure AT (w : World) (N S X : Nat) (y : FLay) (D : Nat → Prop) (n : Nat) (fl : FL) (st : ST) : Prop where
  f : FW w D X y fl
  dN : ∀ k, D k → N ≤ k
  s : ∃ DS m, SW w DS S X m n st ∧ (∀ k, D k → ¬ DS k) ∧ ∀ k, DS k → N ≤ k
section
variable {w w' : World} {N S X n : Nat} {y : FLay} {D : Nat → Prop} {fl : FL} {st : ST}
theorem AT.N_le (h : AT w N S X y D n fl st) : N ≤ w.heap.size := Nat.le_trans (h.dN X h.f.dX) (Nat.le_of_lt (h.f.fin X h.f.dX))
theorem AT.below (h : AT w N S X y D n fl st) (b : Below w.heap.size w w') : AT w' N S X y D n fl st := by
  obtain ⟨DS, m, h1, h2, h3⟩ := h.s
  exact ⟨h.f.below b, h.dN, DS, m, h1.below b, h2, h3⟩
theorem AT.mono (h : AT w N S X y D n fl st) {n' : Nat} (hn : n ≤ n') : AT w N S X y D n' fl st := by
  obtain ⟨DS, m, h1, h2, h3⟩ := h.s
  exact ⟨h.f, h.dN, DS, m, h1.mono hn, h2, h3⟩
structure CV where
  kd : Int
  nm : Int
  ln : Int
  fi : UInt8
def cva (c : CV) : Value := .agg #[.int .i64 c.kd, .int .i64 c.nm, .int .i64 c.ln, .int .u8 (c.fi.toNat : Int)]
def doC (fl : FL) (st : ST) (c : CV) : Int × FL × ST := doF fl st c.kd c.nm c.ln c.fi
theorem AT.do (h : AT w N S X y D n fl st) (hb : st.blk < fl.B) (hn : n < 1000) (c : CV) :
    Calls Tryz.prog 28 #[fptr S, cva c] w fun e w' => e = .returned (.int .i64 (doC fl st c).1) ∧ AT w' N S X y D (n + 1) (doC fl st c).2.1 (doC fl st c).2.2 ∧ Below N w w' := by
  obtain ⟨DS, m, h1, h2, h3⟩ := h.s
  refine (do_any h1 h.f h2 hb hn c.kd c.nm c.ln c.fi).mono ?_
  rintro e w' ⟨he, k1, k2, D', m', k3, k4⟩
  have hN := h.N_le
  refine ⟨he, ⟨k1, h.dN, D', m', k4, fun i hi hD => ?_, fun i hi => ?_⟩, k2.below hN (fun i hi => hi.elim (h.dN i) (h3 i))⟩
  · rcases k3 i hD with e | e
    · exact h2 i hi e
    · have := h.f.fin i hi; omega
  · rcases k3 i hi with e | e
    · exact h3 i e
    · omega
theorem AT.gen (h : AT w N S X y D n fl st) : Calls Tryz.prog 20 #[fptr S] w fun e w' => e = .returned (.int .u64 st.gen) ∧ w = w' := by
  obtain ⟨DS, m, h1, h2, h3⟩ := h.s
  exact gen_any h1
theorem AT.get (h : AT w N S X y D n fl st) {k : ByteArray} (hk : k.size ≤ 1000000) : Calls Tryz.prog 30 #[fptr S, .string k] w fun e w' => e = .returned (.tuple #[str (getS st.V k.data.toList).1, .int .i64 (getS st.V k.data.toList).2]) ∧ w = w' := by
  obtain ⟨DS, m, h1, h2, h3⟩ := h.s
  exact get_any h1 hk
theorem AT.list (h : AT w N S X y D n fl st) (hn : n ≤ 1000) : Calls Tryz.prog 23 #[fptr S] w fun e w' => ∃ g, e = .returned (.slice (some ⟨g, 0, none⟩) st.V.length st.V.length) ∧ w.heap.size ≤ g ∧ VS w' (some ⟨g, 0, none⟩) st.V.length st.V ∧ Below w.heap.size w w' := by
  obtain ⟨DS, m, h1, h2, h3⟩ := h.s
  exact list_any h1 hn
/-- A store opened on a flash. -/
theorem at_open (h : FW w D X y fl) (dN : ∀ k, D k → N ≤ k) (hI : Inv fl st) : Calls Tryz.prog 18 #[fptr X] w fun e w' => ∃ S, e = .returned (.tuple #[fptr S, .int .i64 0]) ∧ AT w' N S X y D 32 fl st ∧ Below w.heap.size w w' := by
  have hN : N ≤ w.heap.size := Nat.le_trans (dN X h.dX) (Nat.le_of_lt (h.fin X h.dX))
  refine (open_any h).mono ?_
  rintro e w' ⟨b, ⟨c, h1, _⟩ | ⟨st', S, m, DS, h1, h2, h3, h4, _⟩⟩
  · rw [hI.opens] at h1; cases h1
  · rw [hI.opens] at h1
    injection h1 with _ h1
    injection h1 with h1
    subst h1
    exact ⟨S, h2, ⟨h.below b, dN, DS, m, h4, fun k hk hD => by have := h3 k hD; have := h.fin k hk; omega, fun k hk => Nat.le_trans hN (h3 k hk)⟩, b⟩
end
set_option maxRecDepth 100000 in
set_option maxHeartbeats 1000000 in
/-- A new flash, formatted and opened. -/
theorem open_law (w : World) (B P E : Nat) (hB : 2 ≤ B ∧ B ≤ 32) (hP : 2 ≤ P ∧ P ≤ 32) (hE : E ≤ 1048576) : Calls Tryz.prog 26 #[fsV B P E] w fun e w' => ∃ S X y D f1, e = .returned (.tuple #[fptr X, fptr S, .bool true]) ∧
    AT w' w.heap.size S X y D 32 f1 st0 ∧ Inv f1 st0 ∧ Same (newF B P E) f1 ∧ (∀ b, f1.er b = 0) ∧ f1.cut = false ∧ (∀ b, b ≠ 0 → blankP (pgsF f1 b) = true) ∧ Below w.heap.size w w' := by
  obtain ⟨f1, q1, q2, q3, q4, q5, q6⟩ := fmt_new (B := B) (P := P) (E := E) hB.1 hP.1
  have HQ : Hid (Inv f1 st0 ∧ Same (newF B P E) f1 ∧ (∀ b, f1.er b = 0) ∧ f1.cut = false ∧ ∀ b, b ≠ 0 → blankP (pgsF f1 b) = true) := ⟨q2, q3, q4, q5, q6⟩
  have HQ1 := Lib.hid q1
  clear q1 q2 q3 q4 q5 q6
  have z0 : (w.alloc (.cells #[.int .i64 B, .int .i64 P, .int .i64 E] 23)).cell? ⟨w.heap.size, 0, none⟩ = some (.int .i64 B) := (Row.ofList w _ #[.int .i64 B, .int .i64 P, .int .i64 E] (fsc B P E) 3 rfl).cell (i := 0) (by omega)
  have z1 : (w.alloc (.cells #[.int .i64 B, .int .i64 P, .int .i64 E] 23)).cell? ⟨w.heap.size, 1, none⟩ = some (.int .i64 P) := (Row.ofList w _ #[.int .i64 B, .int .i64 P, .int .i64 E] (fsc B P E) 3 rfl).cell (i := 1) (by omega)
  have z2 : (w.alloc (.cells #[.int .i64 B, .int .i64 P, .int .i64 E] 23)).cell? ⟨w.heap.size, 2, none⟩ = some (.int .i64 E) := (Row.ofList w _ #[.int .i64 B, .int .i64 P, .int .i64 E] (fsc B P E) 3 rfl).cell (i := 2) (by omega)
  have HB0 : Hid (Below w.heap.size w (w.alloc (.cells #[.int .i64 B, .int .i64 P, .int .i64 E] 23))) := (Below.refl _ _).alloc (Nat.le_refl _) _
  have HNW := Lib.hid (new_any (w.alloc (.cells #[.int .i64 B, .int .i64 P, .int .i64 E] 23)) B P E ⟨by omega, by omega⟩ ⟨by omega, by omega⟩ hE)
  go_enter Tryz.func26, Tryz.ntmps26
  go_wp2_with fail
  refine HNW.out.mono ?_
  rintro e w1 ⟨X, y, rfl, hf, b1⟩
  have HF1 := Lib.hid hf
  have HB1 : Hid (Below w.heap.size w w1) := HB0.out.trans (b1.mono HB0.out.size)
  have HFM : Hid (Calls Tryz.prog 40 #[fptr X] w1 fun e w' => e = .returned (.int .i64 0) ∧ FW w' (fun k => (w.alloc (.cells #[.int .i64 B, .int .i64 P, .int .i64 E] 23)).heap.size ≤ k ∧ k < w1.heap.size) X y f1 ∧ Ch (fun k => (w.alloc (.cells #[.int .i64 B, .int .i64 P, .int .i64 E] 23)).heap.size ≤ k ∧ k < w1.heap.size) w1 w') := by
    have := format_any hf
    rw [HQ1.out] at this
    exact this
  have hsz : w.heap.size ≤ (w.alloc (.cells #[.int .i64 B, .int .i64 P, .int .i64 E] 23)).heap.size := by simp
  clear hf b1 z0 z1 z2 HNW HB0
  generalize (w.alloc (.cells #[.int .i64 B, .int .i64 P, .int .i64 E] 23)).heap.size = w0 at *
  go_wp2_with fail
  refine HFM.out.mono ?_
  rintro e w2 ⟨rfl, hf, c2⟩
  have HOP := Lib.hid (at_open (N := w.heap.size) hf (fun k hk => Nat.le_trans hsz hk.1) HQ.out.1)
  have HB2 : Hid (Below w.heap.size w w2) := HB1.out.trans (c2.below HB1.out.size (fun i hi => Nat.le_trans hsz hi.1))
  clear hf c2 HFM HB1
  go_wp2_with fail
  refine HOP.out.mono ?_
  rintro e w3 ⟨S, rfl, ha, b3⟩
  have HA := Lib.hid ha
  have HB3 : Hid (Below w.heap.size w w3) := HB2.out.trans (b3.mono HB2.out.size)
  clear ha b3 HOP HB2
  go_wp2_with fail
  go_ret3
  exact ⟨S, X, y, _, f1, rfl, HA.out, HQ.out.1, HQ.out.2.1, HQ.out.2.2.1, HQ.out.2.2.2.1, HQ.out.2.2.2.2, HB3.out⟩
end Go.Proofs.YtfglopkglnpokaaGreat
namespace Go.Proofs.YtfglopkglnpokaaGreat
open Go.RowKit
section
variable {w w' : World} {N S X n : Nat} {y : FLay} {D : Nat → Prop} {fl : FL} {st : ST}
theorem AT.left {r : Int × FL × ST} (h : AT w N S X y D n fl st) {DS : Nat → Prop} (hl : Left w w' D DS S X n y r) (h2 : ∀ k, D k → ¬ DS k) (h3 : ∀ k, DS k → N ≤ k) : AT w' N S X y D (n + 1) r.2.1 r.2.2 ∧ Below N w w' := by
  obtain ⟨k1, k2, D', m', k3, k4⟩ := hl
  have hN := h.N_le
  refine ⟨⟨k1, h.dN, D', m', k4, fun i hi hD => ?_, fun i hi => ?_⟩, k2.below hN (fun i hi => hi.elim (h.dN i) (h3 i))⟩
  · rcases k3 i hD with e | e
    · exact h2 i hi e
    · have := h.f.fin i hi; omega
  · rcases k3 i hi with e | e
    · exact h3 i e
    · omega
theorem AT.set (h : AT w N S X y D n fl st) (hb : st.blk < fl.B) (hn : n < 1000) {ke ve : ByteArray} (hke : ke.size ≤ 1000000) (hve : ve.size ≤ 1000000) :
    Calls Tryz.prog 32 #[fptr S, .string ke, .string ve] w fun e w' => e = .returned (.int .i64 (setF fl st ke.data.toList ve.data.toList).1) ∧ AT w' N S X y D (n + 1) (setF fl st ke.data.toList ve.data.toList).2.1 (setF fl st ke.data.toList ve.data.toList).2.2 ∧ Below N w w' := by
  obtain ⟨DS, m, h1, h2, h3⟩ := h.s
  refine (set_any h1 h.f h2 hb hn hke hve).mono ?_
  rintro e w' ⟨he, hl⟩
  exact ⟨he, h.left hl h2 h3⟩
theorem AT.del (h : AT w N S X y D n fl st) (hb : st.blk < fl.B) (hn : n < 1000) {ke : ByteArray} (hke : ke.size ≤ 1000000) :
    Calls Tryz.prog 34 #[fptr S, .string ke] w fun e w' => e = .returned (.int .i64 (delF fl st ke.data.toList).1) ∧ AT w' N S X y D (n + 1) (delF fl st ke.data.toList).2.1 (delF fl st ke.data.toList).2.2 ∧ Below N w w' := by
  obtain ⟨DS, m, h1, h2, h3⟩ := h.s
  refine (delete_any h1 h.f h2 hb hn hke).mono ?_
  rintro e w' ⟨he, hl⟩
  exact ⟨he, h.left hl h2 h3⟩
end
def pgA : Str := pad (recd 1 [97] [49])
theorem pgA_pages : pagesR (recd 1 [97] [49]) = [pgA] := by decide +kernel
theorem set_new {f1 : FL} (hI : Inv f1 st0) (hP : f1.P = 4) (hc : f1.cut = false) : ∃ g, setF f1 st0 [97] [49] = (0, g, ⟨[([97], [49])], 0, 1, 2, false⟩) ∧ g.off = false ∧ g.B = f1.B ∧ g.P = 4 ∧ g.pg 0 1 = pgA := by
  have hl : (recd 1 [97] [49]).length = 7 := rfl
  rcases wrL_cases (pagesR (recd 1 [97] [49])) f1 0 1 hI.off (fun i hi => by
    rw [pagesR_len, hl] at hi
    have : i = 0 := by have : pgs 7 = 1 := rfl; omega
    subst this
    exact hI.stp rfl 1 (Nat.le_refl _) (by omega)) (pagesR_64 _) with ⟨g, q1, q2, q3, q4, q5, q6⟩ | ⟨k, _⟩
  · refine ⟨g, ?_, q2, q3.1, by rw [q3.2.1, hP], ?_⟩
    · have hn : ¬ (st0.clo = true ∨ f1.P < st0.nxt + pgs (recd 1 [97] [49]).length) := by
        rw [hl, hP]
        rintro (k | k)
        · cases k
        · exact absurd k (by decide)
      have := chg4 (fl := f1) (st := st0) (k := 1) (nm := [97]) (v := [49]) hI.off hn q1
      unfold setF
      rw [if_neg (by decide), if_neg (by decide), this]
      rfl
    · rw [q5]
      exact (updP_in (f := f1.pg) (b := 0) (p := 1) (i := 0) (cs := pagesR (recd 1 [97] [49])) (by rw [pagesR_len, hl]; decide)).trans (by rw [pgA_pages]; rfl)
  · rw [hc] at k; cases k
set_option maxRecDepth 100000 in
set_option maxHeartbeats 1000000 in
theorem awake_any (w : World) : Calls Tryz.prog 7 #[] w fun e w' => e = .returned (.bool true) ∧ Below w.heap.size w w' := by
  obtain ⟨f1, q1, q2, q3, q4, q5, q6⟩ := fmt_new (B := 2) (P := 4) (E := 9) (by omega) (by omega)
  obtain ⟨g, k1, k2, k3, k4, k5⟩ := set_new q2 q3.2.1 q5
  have HK : Hid (g.off = false ∧ g.B = 2 ∧ g.P = 4 ∧ g.pg 0 1 = pgA) := ⟨k2, k3.trans q3.1, k4, k5⟩
  have HK1 := Lib.hid k1
  have HQ2 := Lib.hid q2
  have HQB : Hid (f1.B = 2) := q3.1
  have HQ1 := Lib.hid q1
  clear q1 q2 q3 q4 q5 q6 k1 k2 k3 k4 k5
  have HNW : Hid (Calls Tryz.prog 9 #[.agg #[.int .i64 2, .int .i64 4, .int .i64 9]] w fun e w' => ∃ X y, e = .returned (.tuple #[fptr X, .int .i64 0]) ∧ FW w' (fun k => w.heap.size ≤ k ∧ k < w'.heap.size) X y (newF 2 4 9) ∧ Below w.heap.size w w') := new_any w 2 4 9 ⟨by omega, by omega⟩ ⟨by omega, by omega⟩ (by omega)
  go_enter Tryz.func7, Tryz.ntmps7
  go_wp2_with fail
  refine HNW.out.mono ?_
  rintro e w1 ⟨X, y, rfl, hf, b1⟩
  have HB1 := Lib.hid b1
  have HFM : Hid (Calls Tryz.prog 40 #[fptr X] w1 fun e w' => e = .returned (.int .i64 0) ∧ FW w' (fun k => w.heap.size ≤ k ∧ k < w1.heap.size) X y f1 ∧ Ch (fun k => w.heap.size ≤ k ∧ k < w1.heap.size) w1 w') := by
    have := format_any hf
    rw [HQ1.out] at this
    exact this
  clear hf b1 HNW
  go_wp2_with fail
  refine HFM.out.mono ?_
  rintro e w2 ⟨rfl, hf, c2⟩
  have HOP := Lib.hid (at_open (N := w.heap.size) hf (fun k hk => hk.1) HQ2.out)
  have HB2 : Hid (Below w.heap.size w w2) := HB1.out.trans (c2.below HB1.out.size (fun i hi => hi.1))
  clear hf c2 HFM HB1
  go_wp2_with fail
  refine HOP.out.mono ?_
  rintro e w3 ⟨S, rfl, ha, b3⟩
  have HB3 : Hid (Below w.heap.size w w3) := HB2.out.trans (b3.mono HB2.out.size)
  have HST : Hid (Calls Tryz.prog 32 #[fptr S, .string ⟨#[97]⟩, .string ⟨#[49]⟩] w3 fun e w' => e = .returned (.int .i64 0) ∧ AT w' w.heap.size S X y (fun k => w.heap.size ≤ k ∧ k < w1.heap.size) 33 g ⟨[([97], [49])], 0, 1, 2, false⟩ ∧ Below w.heap.size w3 w') := by
    have := ha.set (ke := ⟨#[97]⟩) (ve := ⟨#[49]⟩) (by rw [HQB.out]; decide) (by omega) (by decide) (by decide)
    rw [show (⟨#[97]⟩ : ByteArray).data.toList = [97] from rfl, show (⟨#[49]⟩ : ByteArray).data.toList = [49] from rfl, HK1.out] at this
    exact this
  clear ha b3 HOP HB2
  go_wp2_with fail
  refine HST.out.mono ?_
  rintro e w4 ⟨rfl, ha, b4⟩
  have HB4 : Hid (Below w.heap.size w w4) := HB3.out.trans b4
  have HG1 : Hid (Calls Tryz.prog 30 #[fptr S, .string ⟨#[97]⟩] w4 fun e w' => e = .returned (.tuple #[.string ⟨#[49]⟩, .int .i64 0]) ∧ w4 = w') := ha.get (k := ⟨#[97]⟩) (by decide)
  have HG2 : Hid (Calls Tryz.prog 30 #[fptr S, .string ⟨#[98]⟩] w4 fun e w' => e = .returned (.tuple #[.string ⟨#[]⟩, .int .i64 6]) ∧ w4 = w') := ha.get (k := ⟨#[98]⟩) (by decide)
  have HGN : Hid (Calls Tryz.prog 20 #[fptr S] w4 fun e w' => e = .returned (.int .u64 1) ∧ w4 = w') := ha.gen
  obtain ⟨pe, hpe⟩ : ∃ s : ByteArray, s = ⟨pgA.toArray⟩ := ⟨_, rfl⟩
  have HRD : Hid (Calls Tryz.prog 41 #[fptr X, .int .i64 0, .int .i64 1] w4 fun e w' => e = .returned (.tuple #[.string pe, .int .i64 0]) ∧ w4 = w') := by
    have := read_any ha.f (b := 0) (p := 1) (by rw [HK.out.2.1]; omega) (by rw [HK.out.2.2.1]; omega)
    unfold readF at this
    rw [HK.out.1, if_neg (by simp), HK.out.2.2.2] at this
    rw [hpe]
    exact this
  have hps : pe.size = 64 := by rw [hpe]; decide +kernel
  have h8 : (pe.extract 0 8).toList = [1, 1, 1, 0, 31, 97, 49, 255] := by
    rw [ByteArray.toList_eq, ext_toList, hpe]
    decide +kernel
  clear ha b4 HST HB3 hpe
  go_wp2_with fail
  refine HG1.out.mono ?_
  rintro e w' ⟨rfl, rfl⟩
  go_wp2_with fail
  refine HG2.out.mono ?_
  rintro e w' ⟨rfl, rfl⟩
  go_wp2_with fail
  refine HRD.out.mono ?_
  rintro e w' ⟨rfl, rfl⟩
  go_wp2_with fail
  refine HGN.out.mono ?_
  rintro e w' ⟨rfl, rfl⟩
  go_wp2_with fail
  go_ret
  exact ⟨by simp, HB4.out⟩
end Go.Proofs.YtfglopkglnpokaaGreat
namespace Go.Proofs.YtfglopkglnpokaaGreat
open Go.RowKit
def cvc (c : CV) : List Value := [.int .i64 c.kd, .int .i64 c.nm, .int .i64 c.ln, .int .u8 (c.fi.toNat : Int)]
/-- The slice reads as these calls. -/
def CallS (w : World) (a : Option Addr) (len cap : Nat) (l : List CV) : Prop := l.length = len ∧ len ≤ cap ∧ cap ≤ maxLen ∧ (l ≠ [] → ∃ b o, a = some ⟨b, o, none⟩ ∧ b < w.heap.size ∧ ∀ i c, l[i]? = some c → w.rangeAt b (o + i * 4) (cvc c))
theorem CallS.below {w w' : World} {a : Option Addr} {len cap B0 : Nat} {l : List CV} (h : CallS w a len cap l) (hb : Below B0 w w') (hB : w.heap.size ≤ B0) : CallS w' a len cap l := by
  obtain ⟨h1, h2, h3, h5⟩ := h
  refine ⟨h1, h2, h3, fun hne => ?_⟩
  obtain ⟨b, o, rfl, hl, hr⟩ := h5 hne
  refine ⟨b, o, rfl, Nat.lt_of_lt_of_le hl hb.size, fun i e he j u hu => ?_⟩
  rw [hb.cell (p := ⟨b, o + i * 4 + j, none⟩) (by show b < B0; omega)]
  exact hr i e he j u hu
/-- What a walk reads of call i. -/
theorem CallS.at {w : World} {a : Option Addr} {len cap i : Nat} {l : List CV} (h : CallS w a len cap l) (hi : i < len) : ∃ (b o : Nat) (c : CV), a = some ⟨b, o, none⟩ ∧ b < w.heap.size ∧ l[i]? = some c ∧
    w.cell? ⟨b, o + i * 4, none⟩ = some (.int .i64 c.kd) ∧ w.cell? ⟨b, o + i * 4 + 1, none⟩ = some (.int .i64 c.nm) ∧ w.cell? ⟨b, o + i * 4 + 2, none⟩ = some (.int .i64 c.ln) ∧ w.cell? ⟨b, o + i * 4 + 3, none⟩ = some (.int .u8 (c.fi.toNat : Int)) := by
  obtain ⟨h1, h2, h3, h5⟩ := h
  obtain ⟨b, o, e, hl, hr⟩ := h5 (by intro e; rw [e] at h1; simp at h1; omega)
  have hc : l[i]? = some l[i] := List.getElem?_eq_getElem (by omega)
  have := hr i _ hc
  exact ⟨b, o, l[i], e, hl, hc, this 0 _ rfl, this 1 _ rfl, this 2 _ rfl, this 3 _ rfl⟩
end Go.Proofs.YtfglopkglnpokaaGreat
namespace Go.Proofs.YtfglopkglnpokaaGreat
open Go.RowKit
theorem needV_recs (V : Vars) : needV V = sumP (recs V) := by
  induction V with
  | nil => rfl
  | cons p r ih =>
    have e1 : sumP (recs (p :: r)) = pgs (recd 1 p.1 p.2).length + sumP (recs r) := rfl
    have e2 : needV (p :: r) = pgs (5 + p.1.length + p.2.length) + needV r := by simp [needV]
    rw [e1, e2, ih, recd_len]
theorem delV_same {V : Vars} {k : Str} (h : ∀ p ∈ V, k < p.1) : delV V k = V := by
  unfold delV
  rw [List.filter_eq_self]
  intro p hp
  have := h p hp
  have hne : (p.1 == k) = false := by
    rw [beq_eq_false_iff_ne]
    intro e
    rw [e] at this
    exact List.lt_irrefl _ this
  rw [hne]; rfl
/-- What the law counts after a call of Set. -/
theorem need_after {V : Vars} (hV : Srt V) (n v : Str) : needV ((n, v) :: delV V n) = sumP (recs (setV V n v)) := by
  rw [needV_recs]
  induction V with
  | nil => rfl
  | cons p r ih =>
    have h' := List.pairwise_cons.1 hV
    have e : ∀ (q : Str × Str) (l : Vars), sumP (recs (q :: l)) = pgs (recd 1 q.1 q.2).length + sumP (recs l) := fun _ _ => rfl
    have ih' := ih h'.2
    unfold setV
    split
    · rename_i h1
      rw [delV_same (fun q hq => by
        rcases List.mem_cons.1 hq with e | e
        · rw [e]; exact h1
        · exact List.lt_trans h1 (h'.1 q e))]
    · split
      · rename_i h1 h2
        have hb : (p.1 == n) = true := by simpa using h2.symm
        have hd : delV (p :: r) n = delV r n := by unfold delV; rw [List.filter_cons, hb]; rfl
        rw [hd, delV_same (fun q hq => by rw [h2]; exact h'.1 q hq)]
      · rename_i h1 h2
        have hb : (p.1 == n) = false := by simpa using fun k => h2 k.symm
        have hd : delV (p :: r) n = p :: delV r n := by unfold delV; rw [List.filter_cons, hb]; rfl
        rw [hd, e, e, e, ← ih', e]
        omega
theorem DoR.cap {fl : FL} {st : ST} {kd nm ln : Int} {fill : UInt8} {r : Int × FL × ST} (h : Inv fl st) (hc : fl.cut = false) (hE : fl.E = 1000) (her : ∀ b, fl.er b < 1000) (k : DoR fl st kd nm ln fill r) :
    (isDel kd → r.1 = 0 ∨ r.1 = 6) ∧ (¬ isDel kd → (r.1 = 0 ∧ 1 + sumP (recs (setV st.V (nameOf nm) (valOf ln fill))) ≤ fl.P) ∨ (r.1 = 8 ∧ fl.P < 1 + sumP (recs (setV st.V (nameOf nm) (valOf ln fill))))) := by
  have hcap := h.cap
  have hnx := h.nx
  cases k with
  | same h1 h2 _ =>
    refine ⟨fun k => absurd k h1, fun _ => .inl ⟨rfl, ?_⟩⟩
    have : doV st.V kd nm ln fill = setV st.V (nameOf nm) (valOf ln fill) := if_neg h1
    rw [← this, h2]; omega
  | none h1 => exact ⟨fun _ => .inr rfl, fun k => absurd h1 k⟩
  | done _ hd =>
    obtain ⟨g, st', rfl, h1, h2, h3, _⟩ := hd
    refine ⟨fun _ => .inl rfl, fun k => .inl ⟨rfl, ?_⟩⟩
    have e : doV st.V kd nm ln fill = setV st.V (nameOf nm) (valOf ln fill) := if_neg k
    have a := h1.cap
    have b := h1.nx
    rw [h2, e] at a
    rw [h3.2.1] at b
    omega
  | full _ hf =>
    have hf' : fl.P < 1 + sumP (recs (doV st.V kd nm ln fill)) := by
      rcases hf with h1 | h1
      · exact h1
      · have hB := h.B2
        have hbb := h.blk
        by_cases e : st.blk = 0
        · exact absurd (.inr (by rw [hE]; exact her 1)) (h1 1 (by omega) (by omega))
        · exact absurd (.inr (by rw [hE]; exact her 0)) (h1 0 (by omega) (fun k => e k.symm))
    refine ⟨fun k => ?_, fun k => .inr ⟨rfl, ?_⟩⟩
    · have e : doV st.V kd nm ln fill = delV st.V (nameOf nm) := if_pos k
      have := sumP_delV st.V (nameOf nm)
      rw [e] at hf'
      omega
    · have e : doV st.V kd nm ln fill = setV st.V (nameOf nm) (valOf ln fill) := if_neg k
      rw [e] at hf'
      exact hf'
  | lost _ hl => obtain ⟨k, _⟩ := hl; rw [hc] at k; cases k
end Go.Proofs.YtfglopkglnpokaaGreat
namespace Go.Proofs.YtfglopkglnpokaaGreat
open Go.RowKit
def vcf (p : Str × Str) : List Value := [str p.1, str p.2]
/-- Since w: a row v of variables E of the call's own. -/
structure OV (w wr : World) (v : Value) (E : Vars) : Prop where
  row : wr.ownsRow 0 54 2 v E.length (E.flatMap vcf)
  new : ∀ g, v.ownBlock = some g → w.heap.size ≤ g
  bel : Below w.heap.size w wr
theorem vcf_len : ∀ E : Vars, (E.flatMap vcf).length = E.length * 2
  | [] => rfl
  | p :: r => by rw [List.flatMap_cons, List.length_append, vcf_len r, List.length_cons]; show 2 + _ = _; omega
theorem vcf_get : ∀ (E : Vars) (j : Nat), j < E.length → (E.flatMap vcf)[j * 2]? = some (str (E.getD j ([], [])).1) ∧ (E.flatMap vcf)[j * 2 + 1]? = some (str (E.getD j ([], [])).2)
  | [], j, h => by cases h
  | p :: r, 0, _ => ⟨rfl, rfl⟩
  | p :: r, j + 1, h => by
    have ih := vcf_get r j (by simpa using h)
    have e : ((p :: r).flatMap vcf) = str p.1 :: str p.2 :: r.flatMap vcf := rfl
    rw [e, show (j + 1) * 2 = j * 2 + 1 + 1 by omega, show j * 2 + 1 + 1 + 1 = (j * 2 + 1) + 1 + 1 by omega]
    simpa using ih
theorem OV.vs {w wr : World} {v : Value} {E : Vars} (h : OV w wr v E) (hne : E ≠ []) : ∃ g cap, v = .slice (some ⟨g, 0, none⟩) E.length cap ∧ VS wr (some ⟨g, 0, none⟩) cap E ∧ w.heap.size ≤ g := by
  obtain ⟨hrow, hnew, _⟩ := h
  obtain ⟨hl, h1 | ⟨g, cap, cur, rfl, hbg, hh, hn1, hm1, hsz1, ht⟩⟩ := hrow
  · exact absurd (List.eq_nil_of_length_eq_zero h1.2) hne
  · refine ⟨g, cap, rfl, ⟨hn1, hm1, fun _ => ⟨g, rfl, heap_lt hh, fun j hj => ?_⟩⟩, hnew g rfl⟩
    have hk := vcf_get E j hj
    have hget : ∀ q, q < E.length * 2 → wr.cell? ⟨g, q, none⟩ = (E.flatMap vcf)[q]? := fun q hq => by
      rw [cell_of_row wr g q cur _ (0, 0) hh, ← ht, List.getElem?_take_of_lt hq, Array.getElem?_toList]
    rw [hget _ (by omega), hget _ (by omega)]
    exact hk
theorem OV.one {w wr : World} (hb : Below w.heap.size w wr) (ne ve : ByteArray) : OV w (wr.alloc (.cells #[.string ne, .string ve] 54)) (.slice (some ⟨wr.heap.size, 0, none⟩) 1 1) [(ne.data.toList, ve.data.toList)] :=
  ⟨⟨rfl, .inr ⟨wr.heap.size, 1, #[.string ne, .string ve], rfl, Nat.zero_le _, heap_alloc_new wr _, Nat.le_refl _, by decide, rfl, rfl⟩⟩, fun g hg => by
    have : wr.heap.size = g := by simpa [Value.ownBlock] using hg
    have := hb.size; omega, hb.alloc hb.size _⟩
theorem OV.take {w wr w3 : World} {v : Value} {E : Vars} {p : Str × Str} {g cap : Nat} (h : OV w wr v E) {o : Obj}
    (ho : w3.ownsRow 0 54 2 (.slice (some ⟨g, 0, none⟩) (E.length + 1) cap) (E.length + 1) (E.flatMap vcf ++ vcf p)) (hg3 : (wr.alloc o).grownBy w3 v.ownBlock) (hat : v.ownBlock = some g ∨ g = wr.heap.size + 1) :
    OV w w3 (.slice (some ⟨g, 0, none⟩) (E.length + 1) cap) (E ++ [p]) := by
  have a := h.bel
  refine ⟨?_, fun k hk => ?_, Below.grown (a.alloc a.size _) hg3 (by have := a.size; simp; omega) (fun k hk => h.new k hk)⟩
  · rw [List.length_append, List.flatMap_append]; exact ho
  · have e : g = k := by simpa [Value.ownBlock] using hk
    subst e
    rcases hat with h1 | h1
    · exact h.new g h1
    · have := a.size; omega
theorem OV.below {w wr w' : World} {v : Value} {E : Vars} (h : OV w wr v E) (b : Below wr.heap.size wr w') : OV w w' v E := by
  obtain ⟨⟨hl, hrow⟩, hn, hb⟩ := h
  refine ⟨⟨hl, ?_⟩, hn, hb.trans (b.mono hb.size)⟩
  rcases hrow with h1 | ⟨g, cap, cur, rfl, hbg, hh, r⟩
  · exact .inl h1
  · exact .inr ⟨g, cap, cur, rfl, hbg, (b.block g (heap_lt hh)).trans hh, r⟩
theorem delV_take {V : Vars} {k : Nat} (n : Str) (h : k < V.length) : delV (V.take (k + 1)) n = if (V.getD k ([], [])).1 = n then delV (V.take k) n else delV (V.take k) n ++ [V.getD k ([], [])] := by
  have e : V.getD k ([], []) = V[k] := by rw [List.getD_eq_getElem?_getD, List.getElem?_eq_getElem h]; rfl
  unfold delV
  rw [List.take_succ_eq_append_getElem h, List.filter_append, e]
  by_cases hc : V[k].1 = n
  · have hb : (V[k].1 == n) = true := by simpa using hc
    rw [if_pos hc, List.filter_cons, hb]; simp
  · have hb : (V[k].1 == n) = false := by simpa using hc
    rw [if_neg hc, List.filter_cons, hb]; simp
theorem vcf_one (p : Str × Str) : ∀ u ∈ vcf p, u.oneCell' = true := fun u hu => by
  rcases List.mem_cons.1 hu with e | hu
  · rw [e]; rfl
  · rw [List.mem_singleton.1 hu]; rfl
theorem OV.ch {w5 w6 : World} {gv n cv : Nat} {o : Obj} (hg : (w5.alloc o).grownBy w6 (Value.slice (some ⟨gv, 0, none⟩) n cv).ownBlock) : Ch (fun x => x = gv) w5 w6 :=
  (Ch.alloc (Ch.refl (fun x => x = gv) w5) _).trans (Ch.of_grown hg fun x hx _ => by
    have : gv = x := by simpa [Value.ownBlock] using hx
    exact this.symm)
theorem OV.push {w wr : World} {v : Value} {E : Vars} (h : OV w wr v E) (ke ve : ByteArray) :
    (∀ j u, (vcf (ke.data.toList, ve.data.toList))[j]? = some u → (wr.alloc (.cells #[.string ke, .string ve] 54)).cell? ((⟨wr.heap.size, 0, none⟩ : Addr).add j) = some u) ∧
    (wr.alloc (.cells #[.string ke, .string ve] 54)).ownsRow 0 54 2 v E.length (E.flatMap vcf) := by
  refine ⟨fun j u hj => ?_, (h.below ((Below.refl _ wr).alloc (Nat.le_refl _) _)).row⟩
  match j, hj with
  | 0, hj => injection hj with hj; rw [← hj]; exact cell_of_row _ _ 0 _ _ (0, 0) (heap_alloc_new wr _)
  | 1, hj => injection hj with hj; rw [← hj]; exact cell_of_row _ _ 1 _ _ (0, 0) (heap_alloc_new wr _)
/-- A call of Set or Delete later: only old blocks of flash and store, and new ones, change. -/
theorem AT.doB {w wy : World} {N S X n : Nat} {y : FLay} {D : Nat → Prop} {fl : FL} {st : ST} (h : AT w N S X y D n fl st) (b : Below w.heap.size w wy) (hb : st.blk < fl.B) (hn : n < 1000) (c : CV) :
    Calls Tryz.prog 28 #[fptr S, cva c] wy fun e w' => e = .returned (.int .i64 (doC fl st c).1) ∧ AT w' N S X y D (n + 1) (doC fl st c).2.1 (doC fl st c).2.2 ∧ Ch (fun k => N ≤ k ∧ k < w.heap.size) wy w' := by
  obtain ⟨DS, m, h1, h2, h3⟩ := h.s
  refine (do_any (h1.below b) (h.f.below b) h2 hb hn c.kd c.nm c.ln c.fi).mono ?_
  rintro e w' ⟨he, k1, k2, D', m', k3, k4⟩
  refine ⟨he, ⟨k1, h.dN, D', m', k4, fun i hi hD => ?_, fun i hi => ?_⟩, k2.mono fun i hi _ => hi.elim (fun k => ⟨h.dN i k, h.f.fin i k⟩) (fun k => ⟨h3 i k, h1.fin i k⟩)⟩
  · rcases k3 i hD with e | e
    · exact h2 i hi e
    · have := h.f.fin i hi; have := b.size; omega
  · rcases k3 i hi with e | e
    · exact h3 i e
    · have := h.N_le; have := b.size; omega
end Go.Proofs.YtfglopkglnpokaaGreat
namespace Go.Proofs.YtfglopkglnpokaaGreat
open Go.RowKit
theorem fieldsV : (Tryz.prog.fieldsOf 54).toList.map (fun f => (f.type, f.offset)) = [(9, 0), (9, 1)] := by kernel_rfl
theorem namesV : ((Tryz.prog.fieldsOf 54).toList.all fun f => f.name != "_") = true := by kernel_rfl
theorem underV : Tryz.prog.underlying 54 = some (.struct (Tryz.prog.fieldsOf 54)) := by kernel_rfl
theorem partV (a b : Value) (w : World) : Sem.run Tryz.prog (part 9 #[a, b] 0) w = .ok a w ∧ Sem.run Tryz.prog (part 9 #[a, b] 1) w = .ok b w := by
  constructor <;> kernel_rfl
theorem neV (a b c d : ByteArray) (w : World) : (binOp .neq 54 (.agg #[.string a, .string b]) (.agg #[.string c, .string d])).run Tryz.prog w = .ok (.bool (!(a.toList == c.toList && b.toList == d.toList))) w := by
  have h : Sem.run Tryz.prog (Op.equalIn 10000 54 (.agg #[.string a, .string b]) (.agg #[.string c, .string d])) w = .ok (a.toList == c.toList && b.toList == d.toList) w := by
    rw [run_equalIn_struct w 9999 54 _ _ underV (by kernel_rfl)]
    have h9 : ∀ x y : ByteArray, Sem.run Tryz.prog (Op.equalIn 9999 9 (.string x) (.string y)) w = .ok (x.toList == y.toList) w := fun x y => run_equalIn_string w 9998 9 x y Tryz.underlying9
    have hf := fieldsV
    have hn := namesV
    obtain ⟨p0, p1⟩ := partV (.string a) (.string b) w
    obtain ⟨r0, r1⟩ := partV (.string c) (.string d) w
    generalize (Tryz.prog.fieldsOf 54).toList = fs at hf hn ⊢
    rcases fs with _ | ⟨f0, _ | ⟨f1, _ | ⟨f2, r⟩⟩⟩
    · simp at hf
    · simp at hf
    · simp only [List.map_cons, List.map_nil, List.cons.injEq, Prod.mk.injEq, and_true] at hf
      simp only [List.all_cons, List.all_nil, Bool.and_true, Bool.and_eq_true, bne_iff_ne, ne_eq] at hn
      obtain ⟨⟨t0, o0⟩, t1, o1⟩ := hf
      obtain ⟨n0, n1⟩ := hn
      cases e1 : (a.toList == c.toList) <;> cases e2 : (b.toList == d.toList) <;> simp [Op.eqFields, n0, n1, t0, t1, o0, o1, p0, p1, r0, r1, h9, e1, e2]
    · simp at hf
  rw [run_neq_struct, h]; rfl
section
variable {w : World} {a1 a2 : Option Addr} {c1 c2 L1 L2 : Nat} {V1 V2 : Vars}
theorem getD_ext {V1 V2 : Vars} (hl : V1.length = V2.length) (h : ∀ j, j < V1.length → V1.getD j ([], []) = V2.getD j ([], [])) : V1 = V2 := by
  apply List.ext_getElem hl
  intro i h1 h2
  have := h i h1
  rw [List.getD_eq_getElem?_getD, List.getD_eq_getElem?_getD, List.getElem?_eq_getElem h1, List.getElem?_eq_getElem h2] at this
  exact this
set_option maxRecDepth 100000 in
set_option maxHeartbeats 1000000 in
theorem equalV_any (h1 : VS w a1 c1 V1) (h2 : VS w a2 c2 V2) (hL1 : V1.length = L1) (hL2 : V2.length = L2) : Calls Tryz.prog 22 #[.slice a1 L1 c1, .slice a2 L2 c2] w fun e w' => e = .returned (.bool (decide (V1 = V2))) ∧ Ch (fun _ => False) w w' := by
  have H1 := Lib.hid h1
  have H2 := Lib.hid h2
  have HL1 := Lib.hid hL1
  have HL2 := Lib.hid hL2
  have hm : L1 ≤ maxLen := by have := h1.1; have := h1.2.1; omega
  unfold maxLen at hm
  have HC0 : Hid (Ch (fun _ => False) w w) := Ch.refl _ _
  clear h1 h2 hL1 hL2
  by_cases hne : L1 = L2
  · subst hne
    go_enter Tryz.func22, Tryz.ntmps22
    go_wp2_with fail
    go_loopw [5] (fun z wr => ∃ i : Nat, i ≤ L1 ∧ z = .int .i64 (i : Int) ∧ Hid (∀ j, j < i → V1.getD j ([], []) = V2.getD j ([], [])) ∧ Hid (Ch (fun _ => False) w wr)) (fun z _ => L1 - (intOf z).toNat)
    case atStart => exact ⟨0, by omega, rfl, fun j hj => by omega, HC0⟩
    case round =>
      clear HC0
      obtain ⟨i, hi, rfl, HJ, HC⟩ := hrel
      by_cases hlt : i < L1
      · have y0 : (i : Int) < L1 := by omega
        have i1 : i < V1.length := by rw [HL1.out]; exact hlt
        have i2 : i < V2.length := by rw [HL2.out]; exact hlt
        obtain ⟨g1, rfl, _, k1⟩ := (H1.out.ch HC.out (fun _ _ h => h)).2.2 (by intro e; rw [e] at i1; cases i1)
        obtain ⟨g2, rfl, _, k2⟩ := (H2.out.ch HC.out (fun _ _ h => h)).2.2 (by intro e; rw [e] at i2; cases i2)
        obtain ⟨p, hp⟩ : ∃ p, V1.getD i ([], []) = p := ⟨_, rfl⟩
        obtain ⟨q, hq⟩ : ∃ q, V2.getD i ([], []) = q := ⟨_, rfl⟩
        have x0 := (k1 i i1).1
        have x1 := (k1 i i1).2
        have z0 := (k2 i i2).1
        have z1 := (k2 i i2).2
        rw [hp] at x0 x1
        rw [hq] at z0 z1
        obtain ⟨pa, hpa⟩ : ∃ s : ByteArray, s = ⟨p.1.toArray⟩ := ⟨_, rfl⟩
        obtain ⟨pb, hpb⟩ : ∃ s : ByteArray, s = ⟨p.2.toArray⟩ := ⟨_, rfl⟩
        obtain ⟨qa, hqa⟩ : ∃ s : ByteArray, s = ⟨q.1.toArray⟩ := ⟨_, rfl⟩
        obtain ⟨qb, hqb⟩ : ∃ s : ByteArray, s = ⟨q.2.toArray⟩ := ⟨_, rfl⟩
        have HPQ : Hid (p = (pa.data.toList, pb.data.toList) ∧ q = (qa.data.toList, qb.data.toList)) := by rw [hpa, hpb, hqa, hqb]; exact ⟨rfl, rfl⟩
        rw [show str p.1 = .string pa by rw [hpa]] at x0
        rw [show str p.2 = .string pb by rw [hpb]] at x1
        rw [show str q.1 = .string qa by rw [hqa]] at z0
        rw [show str q.2 = .string qb by rw [hqb]] at z1
        have S1 : Hid (wr.drew.cell? ⟨g1, i * 2, none⟩ = some (.string pa) ∧ wr.drew.cell? ⟨g1, i * 2 + 1, none⟩ = some (.string pb) ∧ wr.drew.cell? ⟨g2, i * 2, none⟩ = some (.string qa) ∧ wr.drew.cell? ⟨g2, i * 2 + 1, none⟩ = some (.string qb)) := ⟨x0, x1, z0, z1⟩
        have HC2 : Hid (Ch (fun _ => False) w wr.drew) := HC.out.drew
        have hnv := fun W => neV pa pb qa qb W
        obtain ⟨bb, hbb⟩ : ∃ b, (!(pa.toList == qa.toList && pb.toList == qb.toList)) = b := ⟨_, rfl⟩
        have HEQ : Hid (bb = false ↔ p = q) := by
          show _ ↔ _
          rw [← hbb, HPQ.out.1, HPQ.out.2]
          simp only [ByteArray.toList_eq, Bool.not_eq_false', Bool.and_eq_true, beq_iff_eq, Prod.mk.injEq]
        rw [hbb] at hnv
        clear k1 k2 x0 x1 z0 z1 hpa hpb hqa hqb hbb HC
        go_wp2_with fail
        refine wp_region_pl (fun Y => Y.cell? ⟨g1, i * 2, none⟩ = some (.string pa) ∧ Y.cell? ⟨g1, i * 2 + 1, none⟩ = some (.string pb) ∧ Y.cell? ⟨g2, i * 2, none⟩ = some (.string qa) ∧ Y.cell? ⟨g2, i * 2 + 1, none⟩ = some (.string qb)) ((0, 0) :: (1, 0) :: (2, 0) :: (3, 0) :: (4, 0) :: (5, 0) :: (6, 0) :: (7, 0) :: (8, 0) :: []) (by kernel_rfl) (by kernel_rfl) ?_
        iterate 9 (apply wpP_go; (focus rfl); (focus rfl); (focus exact S1.out); (focus (rintro Q ⟨s0, s1, s2, s3⟩; go_simp; exact rfl)); intro K hK; go_simp; refine hK _ ?_; clear hK K)
        refine wpP_done ?_
        clear S1 hnv
        generalize wr.drew = w9 at *
        cases bb
        · have HJ2 : Hid (∀ j, j < i + 1 → V1.getD j ([], []) = V2.getD j ([], [])) := fun j hj => by
            rcases (by omega : j < i ∨ j = i) with e | e
            · exact HJ.out j e
            · rw [e, hp, hq]; exact HEQ.out.1 rfl
          clear hp hq
          go_wp2_with fail
          go_roundw
          case rel => exact ⟨i + 1, by omega, by go_num, HJ2, HC2⟩
          case measure => simp [intOf]; omega
        · have hn : decide (V1 = V2) = false := by
            rw [decide_eq_false_iff_not]
            intro e
            rw [e, hq] at hp
            have := HEQ.out.2 hp.symm
            cases this
          clear hp hq
          go_wp2_with fail
          go_ret
          rw [hn]
          exact ⟨rfl, HC2.out⟩
      · have hy : decide (V1 = V2) = true := by
          rw [decide_eq_true_eq]
          exact getD_ext (by rw [HL1.out, HL2.out]) fun j hj => HJ.out j (by rw [HL1.out] at hj; omega)
        have y0 : ¬ (i : Int) < L1 := by omega
        go_wp2_with fail
        go_ret
        exact ⟨rfl, HC.out⟩
  · have hI : ((L1 : Int) != (L2 : Int)) = true := by rw [bne_iff_ne]; omega
    have hI2 : ¬ (L1 : Int) = (L2 : Int) := by omega
    have hn : decide (V1 = V2) = false := by
      rw [decide_eq_false_iff_not]
      intro e
      exact hne (by rw [← HL1.out, ← HL2.out, e])
    go_enter Tryz.func22, Tryz.ntmps22
    go_wp2_with fail
    go_ret
    rw [hn]
    exact ⟨rfl, HC0.out⟩
end
end Go.Proofs.YtfglopkglnpokaaGreat
namespace Go.Proofs.YtfglopkglnpokaaGreat
open Go.RowKit
def nmJ (j : Nat) : Str := names.getD j []
theorem nameOf_mo (k : Int) : nameOf k = nmJ (mo k 6) := rfl
theorem nmJ_inj : ∀ i j : Fin 6, nmJ i.val = nmJ j.val → i = j := by decide +kernel
theorem nmJ_inj' {i j : Nat} (hi : i < 6) (hj : j < 6) (h : nmJ i = nmJ j) : i = j := by
  have := nmJ_inj ⟨i, hi⟩ ⟨j, hj⟩ h
  exact Fin.mk.inj_iff.1 this
theorem mo_small (j : Nat) (h : j < 6) : mo (j : Int) 6 = j := by
  unfold mo two64
  omega
theorem nameOf_nat (j : Nat) (h : j < 6) : nameOf (j : Int) = nmJ j := by rw [nameOf_mo, mo_small j h]
/-- What the law's two arrays say of the variables. -/
def MapIs (V : Vars) (has : Nat → Bool) (val : Nat → Str) : Prop :=
  (∀ j, j < 6 → getV V (nmJ j) = if has j = true then some (val j) else none) ∧ ∀ p ∈ V, ∃ j, j < 6 ∧ p.1 = nmJ j
theorem MapIs.empty : MapIs [] (fun _ => false) (fun _ => []) := ⟨fun _ _ => rfl, fun p hp => by cases hp⟩
theorem MapIs.put {V : Vars} {has : Nat → Bool} {val : Nat → Str} (h : MapIs V has val) {k : Nat} (hk : k < 6) (v : Str) : MapIs (setV V (nmJ k) v) (upd has k true) (upd val k v) := by
  refine ⟨fun j hj => ?_, fun p hp => ?_⟩
  · rw [getV_set]
    by_cases e : j = k
    · subst e; rw [if_pos rfl, upd_hit, upd_hit, if_pos rfl]
    · rw [if_neg (fun k' => e (nmJ_inj' hj hk k')), upd_miss _ _ e, upd_miss _ _ e]
      exact h.1 j hj
  · rcases mem_setV hp with e | e
    · exact ⟨k, hk, by rw [e]⟩
    · exact h.2 p e
theorem MapIs.del {V : Vars} {has : Nat → Bool} {val : Nat → Str} (h : MapIs V has val) {k : Nat} (hk : k < 6) (v : Str) : MapIs (delV V (nmJ k)) (upd has k false) (upd val k v) := by
  refine ⟨fun j hj => ?_, fun p hp => h.2 p (mem_delV hp)⟩
  rw [getV_del]
  by_cases e : j = k
  · subst e; rw [if_pos rfl, upd_hit, if_neg (by simp)]
  · rw [if_neg (fun k' => e (nmJ_inj' hj hk k')), upd_miss _ _ e, upd_miss _ _ e]
    exact h.1 j hj
def cnt (has : Nat → Bool) (n : Nat) : Nat := ((List.range n).filter has).length
theorem cnt_succ (has : Nat → Bool) (n : Nat) : cnt has (n + 1) = cnt has n + if has n = true then 1 else 0 := by
  unfold cnt
  rw [List.range_succ, List.filter_append, List.length_append]
  congr 1
  by_cases h : has n = true
  · simp [h]
  · simp [h]
theorem MapIs.len {V : Vars} {has : Nat → Bool} {val : Nat → Str} (h : MapIs V has val) (hV : Srt V) : V.length = cnt has 6 := by
  have h1 : (((List.range 6).filter has).map nmJ).Nodup := by
    have hnd : ((List.range 6).filter has).Nodup := List.nodup_range.filter _
    refine List.pairwise_map.2 ?_
    refine List.Pairwise.imp_of_mem (fun {a b} ha hb hab e => hab ?_) hnd
    exact nmJ_inj' (List.mem_range.1 (List.mem_filter.1 ha).1) (List.mem_range.1 (List.mem_filter.1 hb).1) e
  have h2 : (V.map (·.1)).Perm (((List.range 6).filter has).map nmJ) := by
    refine (List.perm_ext_iff_of_nodup hV.nodup h1).2 fun a => ?_
    constructor
    · intro ha
      have hs := getV_isSome.2 ha
      obtain ⟨p, hp, rfl⟩ := List.mem_map.1 ha
      obtain ⟨j, hj, e⟩ := h.2 p hp
      rw [e, h.1 j hj] at hs
      refine List.mem_map.2 ⟨j, List.mem_filter.2 ⟨List.mem_range.2 hj, ?_⟩, e.symm⟩
      cases hh : has j
      · rw [hh] at hs; simp at hs
      · rfl
    · intro ha
      obtain ⟨j, hj, rfl⟩ := List.mem_map.1 ha
      obtain ⟨hj1, hj2⟩ := List.mem_filter.1 hj
      refine getV_isSome.1 ?_
      rw [h.1 j (List.mem_range.1 hj1), if_pos hj2]
      rfl
  have := h2.length_eq
  rw [List.length_map, List.length_map] at this
  exact this
/-- A call, as the law sees it. -/
theorem DoR.acts {fl : FL} {st : ST} {kd nm ln : Int} {fill : UInt8} {r : Int × FL × ST} {has : Nat → Bool} {val : Nat → Str} (hc : fl.cut = false) (hM : MapIs st.V has val) (k : DoR fl st kd nm ln fill r) :
    (r.1 = 0 ∧ (isDel kd → has (mo nm 6) = true) ∧ MapIs r.2.2.V (upd has (mo nm 6) (!decide (isDel kd))) (upd val (mo nm 6) (valOf ln fill))) ∨
    (r.1 = 8 ∧ (isDel kd → has (mo nm 6) = true) ∧ MapIs r.2.2.V has val) ∨ (r.1 = 6 ∧ isDel kd ∧ has (mo nm 6) = false ∧ MapIs r.2.2.V has val) := by
  have h6 := mo_lt nm 6 (by omega)
  have hg := hM.1 (mo nm 6) h6
  rw [← nameOf_mo] at hg
  have hhas : getV st.V (nameOf nm) ≠ Option.none → has (mo nm 6) = true := fun hn => by
    cases hh : has (mo nm 6)
    · rw [hh] at hg; exact absurd hg hn
    · rfl
  cases k with
  | same h1 h2 h3 =>
    left
    refine ⟨rfl, fun x => absurd x h1, ?_⟩
    have := hM.put h6 (valOf ln fill)
    rw [← nameOf_mo] at this
    have e : doV st.V kd nm ln fill = setV st.V (nameOf nm) (valOf ln fill) := if_neg h1
    rw [← e, h2] at this
    rw [decide_eq_false h1]
    exact this
  | none h1 h2 =>
    right; right
    refine ⟨rfl, h1, ?_, hM⟩
    cases hh : has (mo nm 6)
    · rfl
    · rw [hh, h2] at hg; simp at hg
  | done h1 hd =>
    left
    obtain ⟨g, st', rfl, _, h2, _⟩ := hd
    refine ⟨rfl, fun x => hhas (h1 x), ?_⟩
    show MapIs st'.V _ _
    rw [h2]
    by_cases hdel : isDel kd
    · rw [show doV st.V kd nm ln fill = delV st.V (nameOf nm) from if_pos hdel, decide_eq_true hdel]
      exact hM.del h6 _
    · rw [show doV st.V kd nm ln fill = setV st.V (nameOf nm) (valOf ln fill) from if_neg hdel, decide_eq_false hdel]
      exact hM.put h6 _
  | full h1 _ => exact .inr (.inl ⟨rfl, fun x => hhas (h1 x), hM⟩)
  | lost _ hl => obtain ⟨k, _⟩ := hl; rw [hc] at k; cases k
end Go.Proofs.YtfglopkglnpokaaGreat
namespace Go.Proofs.YtfglopkglnpokaaGreat
open Go.RowKit
/-- Store and flash lie apart in memory, from N on, and blocks Ex are none of theirs. -/
structure AX (w : World) (N : Nat) (Ex : Nat → Prop) (S X : Nat) (y : FLay) (D : Nat → Prop) (n : Nat) (fl : FL) (st : ST) : Prop where
  f : FW w D X y fl
  dN : ∀ k, D k → N ≤ k ∧ ¬ Ex k
  xs : ∀ k, Ex k → k < w.heap.size
  s : ∃ DS m, SW w DS S X m n st ∧ (∀ k, D k → ¬ DS k) ∧ ∀ k, DS k → N ≤ k ∧ ¬ Ex k
section
variable {w w' : World} {N S X n : Nat} {Ex : Nat → Prop} {y : FLay} {D : Nat → Prop} {fl : FL} {st : ST}
theorem AX.at (h : AX w N Ex S X y D n fl st) : AT w N S X y D n fl st := by
  obtain ⟨DS, m, h1, h2, h3⟩ := h.s
  exact ⟨h.f, fun k hk => (h.dN k hk).1, DS, m, h1, h2, fun k hk => (h3 k hk).1⟩
/-- New blocks of the law's own. -/
theorem AT.ax (h : AT w N S X y D n fl st) (b : Below w.heap.size w w') (hx : ∀ k, Ex k → w.heap.size ≤ k ∧ k < w'.heap.size) : AX w' N Ex S X y D n fl st := by
  obtain ⟨DS, m, h1, h2, h3⟩ := h.s
  exact ⟨h.f.below b, fun k hk => ⟨h.dN k hk, fun e => by have := h.f.fin k hk; have := hx k e; omega⟩, fun k hk => (hx k hk).2, DS, m, h1.below b, h2, fun k hk => ⟨h3 k hk, fun e => by have := h1.fin k hk; have := hx k e; omega⟩⟩
theorem AX.below (h : AX w N Ex S X y D n fl st) (b : Below w.heap.size w w') : AX w' N Ex S X y D n fl st := by
  obtain ⟨DS, m, h1, h2, h3⟩ := h.s
  exact ⟨h.f.below b, h.dN, fun k hk => Nat.lt_of_lt_of_le (h.xs k hk) b.size, DS, m, h1.below b, h2, h3⟩
/-- The law's own blocks change. -/
theorem AX.own (h : AX w N Ex S X y D n fl st) (c : Ch Ex w w') : AX w' N Ex S X y D n fl st := by
  obtain ⟨DS, m, h1, h2, h3⟩ := h.s
  exact ⟨h.f.ch c fun k hk => (h.dN k hk).2, h.dN, fun k hk => Nat.lt_of_lt_of_le (h.xs k hk) c.size, DS, m, h1.ch c fun k hk => (h3 k hk).2, h2, h3⟩
theorem AX.do (h : AX w N Ex S X y D n fl st) (hb : st.blk < fl.B) (hn : n < 1000) (c : CV) :
    Calls Tryz.prog 28 #[fptr S, cva c] w fun e w' => e = .returned (.int .i64 (doC fl st c).1) ∧ AX w' N Ex S X y D (n + 1) (doC fl st c).2.1 (doC fl st c).2.2 ∧ Ch (fun k => N ≤ k ∧ ¬ Ex k) w w' := by
  obtain ⟨DS, m, h1, h2, h3⟩ := h.s
  refine (do_any h1 h.f h2 hb hn c.kd c.nm c.ln c.fi).mono ?_
  rintro e w' ⟨he, k1, k2, D', m', k3, k4⟩
  refine ⟨he, ⟨k1, h.dN, fun k hk => Nat.lt_of_lt_of_le (h.xs k hk) k2.size, D', m', k4, fun i hi hD => ?_, fun i hi => ?_⟩, k2.mono fun i hi _ => hi.elim (h.dN i) (h3 i)⟩
  · rcases k3 i hD with e | e
    · exact h2 i hi e
    · have := h.f.fin i hi; omega
  · rcases k3 i hi with e | e
    · exact h3 i e
    · exact ⟨Nat.le_trans h.at.N_le e, fun x => by have := h.xs i x; omega⟩
end
end Go.Proofs.YtfglopkglnpokaaGreat
namespace Go.Proofs.YtfglopkglnpokaaGreat
open Go.ChangeShapes Go.WideShapes Go.ChangeAt Go.RowKit Go.Deep
theorem own : ownKnob Tryz.prog.godebug = none := by kernel_rfl
theorem laidOut : laidOutB Tryz.prog = true := by kernel_rfl
theorem clI : Tryz.prog.cellsOf 3 = 1 := by kernel_rfl
theorem clB : Tryz.prog.cellsOf 5 = 1 := by kernel_rfl
theorem clC : Tryz.prog.cellsOf 37 = 4 := by kernel_rfl
theorem clH : Tryz.prog.cellsOf 23 = 3 := by kernel_rfl
section
variable {H : Type} {enc : TypeId × Value → H} {w : World} {base : Nat} {spare : Nat → Bool} {held : Bool}
set_option maxRecDepth 100000 in
theorem open_call {fuel : Nat} {cs : List Value} {x : DataW H × List MemPlace} (h : DataW.trod enc Tryz.prog w base spare held fuel 37 cs = some x) : ∃ c : CV, True ∧ cs = cvc c := by
  obtain ⟨ys, n, hn, hy, hlen, hyl, hf⟩ := DataW.trod_struct Tryz.underlying37 h
  rw [clC] at hlen
  match cs, hlen with
  | [c0, c1, c2, c3], _ =>
    match ys, hyl with
    | [y0, y1, y2, y3], _ =>
      obtain ⟨a, ea, _, wa⟩ := DataW.trod_int (k := .i64) Tryz.underlying3 (hf 0 _ rfl)
      obtain ⟨b, eb, _, wb⟩ := DataW.trod_int (k := .i64) Tryz.underlying3 (hf 1 _ rfl)
      obtain ⟨c, ec, _, wc⟩ := DataW.trod_int (k := .i64) Tryz.underlying3 (hf 2 _ rfl)
      obtain ⟨d, ed, _, wd⟩ := DataW.trod_int (k := .u8) Tryz.underlying5 (hf 3 _ rfl)
      simp [clI, clB] at ea eb ec ed
      subst ea eb ec ed
      have bd := bounds_u8 wd
      refine ⟨⟨a, b, c, UInt8.ofNat d.toNat⟩, trivial, ?_⟩
      unfold cvc
      rw [u8_of (by omega), Int.toNat_of_nonneg bd.1]
set_option maxRecDepth 100000 in
theorem open_shape {fuel : Nat} {cs : List Value} {x : DataW H × List MemPlace} (h : DataW.trod enc Tryz.prog w base spare held fuel 23 cs = some x) : ∃ a b c : Int, cs = [.int .i64 a, .int .i64 b, .int .i64 c] := by
  obtain ⟨ys, n, hn, hy, hlen, hyl, hf⟩ := DataW.trod_struct Tryz.underlying23 h
  rw [clH] at hlen
  match cs, hlen with
  | [c0, c1, c2], _ =>
    match ys, hyl with
    | [y0, y1, y2], _ =>
      obtain ⟨a, ea, _, _⟩ := DataW.trod_int (k := .i64) Tryz.underlying3 (hf 0 _ rfl)
      obtain ⟨b, eb, _, _⟩ := DataW.trod_int (k := .i64) Tryz.underlying3 (hf 1 _ rfl)
      obtain ⟨c, ec, _, _⟩ := DataW.trod_int (k := .i64) Tryz.underlying3 (hf 2 _ rfl)
      simp [clI] at ea eb ec
      subst ea eb ec
      exact ⟨a, b, c, rfl⟩
/-- A slice whose elements each read. -/
theorem open_list {α : Type} {t e n0 : Nat} (hu : Tryz.prog.underlying t = some (.slice e)) (hc : Tryz.prog.cellsOf e = n0) (hn0 : 0 < n0) (cf : α → List Value) (wf : α → Prop) (hcf : ∀ x, (cf x).length = n0)
    (hop : ∀ {fuel : Nat} {cs : List Value} {x : DataW H × List MemPlace}, DataW.trod enc Tryz.prog w base spare held fuel e cs = some x → ∃ c : α, wf c ∧ cs = cf c)
    {fuel : Nat} {cs : List Value} {x : DataW H × List MemPlace} (h : DataW.trod enc Tryz.prog w base spare held fuel t cs = some x) :
    ∃ (A : Option Addr) (len cap : Nat) (l : List α), cs = [.slice A len cap] ∧ l.length = len ∧ len ≤ cap ∧ cap ≤ maxLen ∧ (∀ c ∈ l, wf c) ∧ (l ≠ [] → ∃ b o, A = some ⟨b, o, none⟩ ∧ b < w.heap.size ∧ ∀ i c, l[i]? = some c → w.rangeAt b (o + i * n0) (cf c)) := by
  rcases open_slice hu h with ⟨rfl, _⟩ | ⟨a, len, cap, m, n, D, Pl, hcs, hb, hl, hm, hmm, hx, hi⟩
  · exact ⟨none, 0, 0, [], rfl, rfl, Nat.le_refl _, Nat.zero_le _, (fun c h => by cases h), fun h => absurd rfl h⟩
  · rw [hc] at hi
    have hlm : len ≤ m := by rw [hmm]; split <;> omega
    have hex : ∀ i : Nat, i < len → ∃ c : α, wf c ∧ ∀ j, j < n0 → w.cell? (a.add (i * n0 + j)) = (cf c)[j]? := by
      intro i hlt
      obtain ⟨cs', hc', ht⟩ := hi i (by omega)
      obtain ⟨c, hwf, rfl⟩ := hop ht
      obtain ⟨_, _, hat⟩ := World.cells?_some hc'
      exact ⟨c, hwf, fun j hj => by have := hat j hj; rw [add_add] at this; exact this⟩
    have hl' : ∃ l : List α, l.length = len ∧ ∀ i c, l[i]? = some c → wf c ∧ ∀ j, j < n0 → w.cell? (a.add (i * n0 + j)) = (cf c)[j]? := by
      clear hx hmm hcs h hi
      revert hex
      generalize len = k at hlm hl ⊢
      intro hex
      have : ∀ q, q ≤ k → ∃ l : List α, l.length = q ∧ ∀ i c, l[i]? = some c → wf c ∧ ∀ j, j < n0 → w.cell? (a.add (i * n0 + j)) = (cf c)[j]? := by
        intro q
        induction q with
        | zero => intro _; exact ⟨[], rfl, fun i c h => by simp at h⟩
        | succ q ih =>
          intro hq
          obtain ⟨l, hl, hp⟩ := ih (by omega)
          obtain ⟨c, hc⟩ := hex q (by omega)
          refine ⟨l ++ [c], by simp [hl], fun i x hx => ?_⟩
          by_cases hiq : i < q
          · rw [List.getElem?_append_left (by omega)] at hx
            exact hp i x hx
          · have hlt := (List.getElem?_eq_some_iff.1 hx).1
            have hi : i = q := by simp [hl] at hlt; omega
            subst hi
            rw [List.getElem?_append_right (by omega), hl] at hx
            simp at hx
            subst hx
            exact hc
      exact this k (Nat.le_refl _)
    obtain ⟨l, hll, hlp⟩ := hl'
    refine ⟨some a, len, cap, l, hcs, hll, hl, hm, fun c hc => ?_, fun hne => ?_⟩
    · obtain ⟨i, hi⟩ := List.getElem?_of_mem hc
      exact (hlp i c hi).1
    · obtain ⟨b, off, spot⟩ := a
      have hpos : 0 < l.length := List.length_pos_iff.2 hne
      have h0 := (hlp 0 l[0] (List.getElem?_eq_getElem hpos)).2 0 hn0
      have h1 : (cf l[0])[0]? = some ((cf l[0])[0]'(by rw [hcf]; exact hn0)) := List.getElem?_eq_getElem _
      rw [h1] at h0
      have hspot : spot = none := by simpa [Addr.add] using World.cell?_spot h0
      subst hspot
      refine ⟨b, off, rfl, by simpa [Addr.add] using World.block_lt_of_cell? w _ h0, fun i c hc j u hu => ?_⟩
      have hj : j < n0 := by have := (List.getElem?_eq_some_iff.1 hu).1; rw [hcf] at this; exact this
      have := (hlp i c hc).2 j hj
      rw [hu, Addr.add_mid] at this
      rw [show off + i * n0 + j = off + (i * n0 + j) by omega]
      exact this
theorem open_calls {fuel : Nat} {cs : List Value} {x : DataW H × List MemPlace} (h : DataW.trod enc Tryz.prog w base spare held fuel 24 cs = some x) :
    ∃ (A : Option Addr) (len cap : Nat) (l : List CV), cs = [.slice A len cap] ∧ CallS w A len cap l := by
  obtain ⟨A, len, cap, l, h1, h2, h3, h4, h5, h6⟩ := open_list Tryz.underlying24 clC (by omega) cvc (fun _ => True) (fun _ => rfl) (fun h => open_call h) h
  exact ⟨A, len, cap, l, h1, h2, h3, h4, h6⟩
end
end Go.Proofs.YtfglopkglnpokaaGreat
