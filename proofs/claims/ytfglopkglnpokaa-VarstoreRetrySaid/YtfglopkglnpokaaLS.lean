/- List. Condition: sizes. -/
import Derived.Test.YtfglopkglnpokaaHL
namespace Go.Proofs.Ytfglopkglnpokaa
open Go.RowKit
theorem SM.runLen {w : World} {b n : Nat} {V : Vars} (h : SM w b n V) (hV : Srt V) (ty : TypeId) : (Builtin.len_ #[66] ty #[.map (some b)]).run Try.prog w = .ok (.int .i64 V.length) w := by
  obtain ⟨D, hown, g1, _⟩ := h
  have hkp : (V.map (·.1)).Perm (strKeys D) :=
    Collected.perm (left := fun _ => false) (ss := V.map (·.1)) ⟨hV.nodup, fun x => by rw [g1, getV_isSome]; simp⟩ hown kS Try.underlying9 (fun _ => rfl)
  have h2 := hkp.length_eq
  rw [List.length_map] at h2
  have h3 : (strKeys D).length = Maps.size D := by
    obtain ⟨es, rfl⟩ := hown.isMap
    simp [strKeys, Maps.size]
  rw [hown.len Try.underlying66 ty, h2, h3]
theorem Try.infoV : (Try.prog.info? 51).map (fun i => (i.zero, i.size, i.bytes)) = some (some (.agg #[.string ⟨#[]⟩, .string ⟨#[]⟩]), 2, 32) := by kernel_rfl
def vcell (V : Vars) (i j : Nat) : Value := if j < i * 2 then (if j % 2 = 0 then str (V.getD (j / 2) ([], [])).1 else str (V.getD (j / 2) ([], [])).2) else .string ⟨#[]⟩
theorem Rg.vs {w : World} {q L : Nat} {V : Vars} (h : Rg w q 51 (L * 2) (vcell V L)) (hL : V.length = L) (hm : L ≤ maxLen) : VS w (some ⟨q, 0, none⟩) L V := by
  refine ⟨by omega, hm, fun _ => ⟨q, rfl, h.lt, fun j hj => ?_⟩⟩
  rw [hL] at hj
  have e1 : j * 2 / 2 = j := by omega
  have e2 : (j * 2 + 1) / 2 = j := by omega
  have e3 : (j * 2 + 1) % 2 = 1 := by omega
  refine ⟨?_, ?_⟩
  · rw [h.cell (i := j * 2) (by omega)]; unfold vcell; rw [if_pos (by omega), if_pos (by omega), e1]
  · rw [h.cell (i := j * 2 + 1) (by omega)]; unfold vcell; rw [if_pos (by omega), if_neg (by omega), e2]
theorem Rg.vput {w : World} {q L i : Nat} {V : Vars} (h : Rg w q 51 (L * 2) (vcell V i)) (hi : i < L) : Rg ((w.setCell ⟨q, i * 2, none⟩ (str (V.getD i ([], [])).1)).setCell ⟨q, i * 2 + 1, none⟩ (str (V.getD i ([], [])).2)) q 51 (L * 2) (vcell V (i + 1)) :=
  ((h.set (i := i * 2) (by omega) _).set (i := i * 2 + 1) (by omega) _).congr fun j hj => by
    by_cases e : j = i * 2 + 1
    · subst e
      rw [upd_hit]; unfold vcell
      rw [if_pos (by omega), if_neg (by omega), show (i * 2 + 1) / 2 = i by omega]
    · rw [upd_miss _ _ e]
      by_cases e2 : j = i * 2
      · subst e2
        rw [upd_hit]; unfold vcell
        rw [if_pos (by omega), if_pos (by omega), show i * 2 / 2 = i by omega]
      · rw [upd_miss _ _ e2]
        unfold vcell
        by_cases e3 : j < i * 2
        · rw [if_pos e3, if_pos (show j < (i + 1) * 2 by omega)]
        · rw [if_neg e3, if_neg (show ¬ j < (i + 1) * 2 by omega)]
section
variable {w : World} {DS : Nat → Prop} {S X m n : Nat} {st : ST}
set_option maxRecDepth 100000 in
set_option maxHeartbeats 1000000 in
theorem list_any (hs : SW w DS S X m n st) (hn : n ≤ 1000) : Calls Try.prog 17 #[fptr S] w fun e w' => ∃ g, e = .returned (.slice (some ⟨g, 0, none⟩) st.V.length st.V.length) ∧ w.heap.size ≤ g ∧ VS w' (some ⟨g, 0, none⟩) st.V.length st.V ∧ Below w.heap.size w w' := by
  obtain ⟨i0, hi0, hx0, hx1, hx2⟩ := info_parts Try.infoV
  have hlen := hs.map.runLen hs.srt 3
  have hVl : st.V.length ≤ 1000 := by have := hs.map.len hs.srt; omega
  obtain ⟨L, hL⟩ : ∃ L, st.V.length = L := ⟨_, rfl⟩
  rw [hL] at hlen hVl ⊢
  have HLL := Lib.hid hL
  have c1 := hs.c1
  have HS := Lib.hid hs
  have hmk : (Instr.makeSlice 43 (.int .i64 0) (.int .i64 (L : Int))).run Try.prog w = .ok (.slice (some ⟨w.heap.size, 0, none⟩) 0 L) (w.alloc (.cells (madeCells (Value.agg #[.string ⟨#[]⟩, .string ⟨#[]⟩]).cells (L * 2)) 51)) := by
    have := run_make (P := Try.prog) w 43 51 i0 (.agg #[.string ⟨#[]⟩, .string ⟨#[]⟩]) Try.underlying43 hi0 hx0 .i64 .i64 (0 : Int) (L : Int) (by omega) (by omega) (by rw [hx2]; omega) (by omega)
    rw [hx1] at this
    simpa using this
  have R2 := Rg.made2 w 51 (L * 2) (.agg #[.string ⟨#[]⟩, .string ⟨#[]⟩]) (.string ⟨#[]⟩) (.string ⟨#[]⟩) rfl
  have B2 : Below w.heap.size w (w.alloc (.cells (madeCells (Value.agg #[.string ⟨#[]⟩, .string ⟨#[]⟩]).cells (L * 2)) 51)) := (Below.refl _ _).alloc (Nat.le_refl _) _
  obtain ⟨w2, hw2⟩ : ∃ w2, w.alloc (.cells (madeCells (Value.agg #[.string ⟨#[]⟩, .string ⟨#[]⟩]).cells (L * 2)) 51) = w2 := ⟨_, rfl⟩
  obtain ⟨q, hq⟩ : ∃ q, w.heap.size = q := ⟨_, rfl⟩
  rw [hw2] at hmk R2 B2
  rw [hq] at hmk R2
  have hqw : w.heap.size ≤ q := by omega
  have HR : Hid (Rg w2 q 51 (L * 2) (vcell st.V 0)) := R2.congr fun j _ => by unfold vcell; rw [if_neg (show ¬ j < 0 * 2 by omega)]; split <;> rfl
  have HB := Lib.hid B2
  have HS2 := Lib.hid (hs.below B2)
  have c1' := HS2.out.c1
  have HKY := Lib.hid (keys_any m w2)
  have HSO := Lib.hid (sorted_any HS2.out.map HS2.out.srt hn)
  rw [HLL.out] at HSO
  clear hs hL R2 B2 hw2 hq
  go_enter Try.func17, Try.ntmps17
  go_wp2_with fail
  refine HKY.out.mono ?_
  rintro e w3 ⟨rfl, rfl⟩
  go_wp2_with fail
  refine HSO.out.mono ?_
  rintro e w4 ⟨a, cap, rfl, ha0, ha1, b4⟩
  have HA : Hid (st.V ≠ [] → ∃ g, a = some ⟨g, 0, none⟩ ∧ PS w4 g 0 cap (st.V.map (·.1)) ∧ g ≠ q) := fun hne => by
    obtain ⟨g, e, hg, hps⟩ := ha1 hne
    exact ⟨g, e, hps, by have := HR.out.lt; omega⟩
  have HR4 := Lib.hid (HR.out.ch (Ch.of_below b4 (fun _ => False)) id)
  have HB4 : Hid (Below w.heap.size w w4) := HB.out.trans (b4.mono HB.out.size)
  clear ha0 ha1 b4 HKY HSO HR HB hmk hlen c1 c1' HS2
  go_wp2_with fail
  go_loopw [3, 19] (fun x3 z wr => ∃ i : Nat, i ≤ L ∧ x3 = .slice (some ⟨q, 0, none⟩) i L ∧ z = .int .i64 (i : Int) ∧ Hid (Rg wr q 51 (L * 2) (vcell st.V i)) ∧ Hid (Below w.heap.size w wr) ∧ Hid (st.V ≠ [] → ∃ g, a = some ⟨g, 0, none⟩ ∧ PS wr g 0 cap (st.V.map (·.1)) ∧ g ≠ q)) (fun _ z _ => L - (intOf z).toNat)
  case atStart => exact ⟨0, by omega, rfl, rfl, HR4, HB4, HA⟩
  case round =>
    clear HR4 HB4 HA
    obtain ⟨i, hi, rfl, rfl, HR, HB, HA⟩ := hrel
    by_cases hlt : i < L
    · have y0 : (i : Int) < L := by omega
      have hiV : i < st.V.length := by rw [HLL.out]; exact hlt
      have hne : st.V ≠ [] := by intro e; rw [e] at hiV; cases hiV
      obtain ⟨g, rfl, hps, hgq⟩ := HA.out hne
      have hgv : st.V.getD i ([], []) = st.V[i] := by rw [List.getD_eq_getElem?_getD, List.getElem?_eq_getElem hiV]; rfl
      have hc := hps.2.2.2 i (by rw [List.length_map]; exact hiV)
      have hgd : (st.V.map (·.1)).getD i [] = (st.V.getD i ([], [])).1 := by rw [hgv, List.getD_eq_getElem?_getD, List.getElem?_map, List.getElem?_eq_getElem hiV]; rfl
      rw [Nat.zero_add, hgd] at hc
      have hcap : L ≤ cap := by have := hps.2.1; rw [List.length_map, HLL.out] at this; exact this
      obtain ⟨ke, hke⟩ : ∃ s : ByteArray, s = ⟨(st.V.getD i ([], [])).1.toArray⟩ := ⟨_, rfl⟩
      obtain ⟨ve, hve⟩ : ∃ s : ByteArray, s = ⟨(st.V.getD i ([], [])).2.toArray⟩ := ⟨_, rfl⟩
      have hkl : ke.data.toList = (st.V.getD i ([], [])).1 := by rw [hke]
      have hks : ke.size ≤ 24 := by rw [bsz, hkl, hgv]; exact (HS.out.hv _ (List.getElem_mem hiV)).1
      have hSr := HS.out.below HB.out
      have c1 := hSr.c1
      have hlk := hSr.map.look1 (s := ke) (by unfold maxLen; omega)
      rw [hkl, hgv, getV_mem HS.out.srt (List.getElem_mem hiV), ← hgv] at hlk
      have e1 : str (st.V.getD i ([], [])).1 = .string ke := by rw [hke]
      have e2 : str (st.V.getD i ([], [])).2 = .string ve := by rw [hve]
      rw [e1] at hc
      rw [show str ((some (st.V.getD i ([], [])).2).getD []) = .string ve from e2] at hlk
      have b5 : Below w.heap.size w (wr.alloc (.cells #[.string ke, .string ve] 51)) := HB.out.alloc HB.out.size _
      have r5 : Rg (wr.alloc (.cells #[.string ke, .string ve] 51)) q 51 (L * 2) (vcell st.V i) := HR.out.ch (Ch.alloc (Ch.refl (fun _ => False) wr) _) id
      have z0 := r5.cell (i := i * 2) (by omega)
      have f0 := r5.frozen (i * 2)
      have r6 := r5.set (i := i * 2) (by omega) (.string ke)
      have z1 := r6.cell (i := i * 2 + 1) (by omega)
      have f1 := r6.frozen (i * 2 + 1)
      have HR6 : Hid (Rg (((wr.alloc (.cells #[.string ke, .string ve] 51)).setCell ⟨q, i * 2, none⟩ (.string ke)).setCell ⟨q, i * 2 + 1, none⟩ (.string ve)) q 51 (L * 2) (vcell st.V (i + 1))) := by
        have := r5.vput hlt
        rw [e1, e2] at this
        exact this
      have HB6 : Hid (Below w.heap.size w (((wr.alloc (.cells #[.string ke, .string ve] 51)).setCell ⟨q, i * 2, none⟩ (.string ke)).setCell ⟨q, i * 2 + 1, none⟩ (.string ve))) := (b5.setCell (p := ⟨q, i * 2, none⟩) hqw _).setCell (p := ⟨q, i * 2 + 1, none⟩) hqw _
      have HA6 : Hid (st.V ≠ [] → ∃ g', (some ⟨g, 0, none⟩ : Option Addr) = some ⟨g', 0, none⟩ ∧ PS (((wr.alloc (.cells #[.string ke, .string ve] 51)).setCell ⟨q, i * 2, none⟩ (.string ke)).setCell ⟨q, i * 2 + 1, none⟩ (.string ve)) g' 0 cap (st.V.map (·.1)) ∧ g' ≠ q) := fun _ =>
        ⟨g, rfl, hps.ch (((Ch.alloc (Ch.refl (fun x => x = q) wr) _).setCell (p := ⟨q, i * 2, none⟩) (fun _ => rfl) _).setCell (p := ⟨q, i * 2 + 1, none⟩) (fun _ => rfl) _) hgq, hgq⟩
      clear b5 r5 r6 hps hgq hgd hgv hke hve hkl hSr e1 e2 HR HB HA hne hiV hks
      go_wp2_with fail
      go_roundw
      case rel => exact ⟨i + 1, by omega, rfl, by go_num, HR6, HB6, HA6⟩
      case measure => simp [intOf]; omega
    · have ei : i = L := by omega
      have y0 : ¬ (i : Int) < L := by omega
      subst ei
      have HV := Lib.hid (HR.out.vs HLL.out (by unfold maxLen; omega))
      go_wp2_with fail
      go_ret
      exact ⟨q, rfl, hqw, HV.out, HB.out⟩
end
end Go.Proofs.Ytfglopkglnpokaa
