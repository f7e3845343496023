/- Equal on slices of events and of digests that read alike. Condition: at most 1000 elements. -/
import Derived.Test.YtndbbbkdpjkljaaDoorU
namespace Go.Proofs.YtndbbbkdpjkljaaDoor
open Go.RowKit
attribute [local go_sem ↓] alloc26 load26n store26n alloc45 load45n store45n
attribute [local go_sem] stN_uc stN_b8 set_new fold_drew ldN_drew ldN_drewN stN_drew stN_drewN stN_ev set_ev stN_b8c set_newc

theorem part3 (e : Ev) (w : World) : Sem.run Tryd.prog (part 3 (evc e).toArray 0) w = .ok (.int .i64 e.r) w := by kernel_rfl
theorem part26 (e : Ev) (w : World) : Sem.run Tryd.prog (part 26 (evc e).toArray 1) w = .ok (.agg (arr 32 (b8 e.d))) w := by kernel_rfl
theorem part9 (e : Ev) (w : World) : Sem.run Tryd.prog (part 9 (evc e).toArray 33) w = .ok (.string e.t) w := by kernel_rfl
theorem fields45 : (Tryd.prog.fieldsOf 45).toList.map (fun f => (f.name, f.type, f.offset)) = [("Register", 3, 0), ("Digest", 26, 1), ("Text", 9, 33)] := by kernel_rfl
theorem under45 : Tryd.prog.underlying 45 = some (.struct (Tryd.prog.fieldsOf 45)) := by kernel_rfl
theorem eqStr (d : Nat) (t : ByteArray) (w : World) : Sem.run Tryd.prog (Op.equalIn (d + 1) 9 (.string t) (.string t)) w = .ok true w := by
  rw [Op.equalIn]
  simp [run_underlying Tryd.underlying9]
  show t.beq t = true
  unfold ByteArray.beq
  simp
theorem RdE.drew {w : World} {v : Value} {es : List Ev} (h : RdE w v es) : RdE w.drew v es := h
theorem eqE (e : Ev) (hd : Byt e.d) (w : World) : Sem.run Tryd.prog (Op.equalIn 10000 45 (.agg (evc e).toArray) (.agg (evc e).toArray)) w = .ok true w := by
  rw [run_equalIn_struct w 9999 45 _ _ under45 (by kernel_rfl)]
  have h26 : Sem.run Tryd.prog (Op.equalIn 9999 26 (.agg (arr 32 (b8 e.d))) (.agg (arr 32 (b8 e.d)))) w = .ok true w := by
    rw [arr_dl hd]
    have := run_equalIn_bytes (P := Tryd.prog) w 9997 26 5 32 Tryd.underlying26 Tryd.underlying5 (fun _ => by kernel_rfl) (dl e.d) (dl e.d) (dl_len _) (dl_len _)
    simpa using this
  have h3 : Sem.run Tryd.prog (Op.equalIn 9999 3 (.int .i64 e.r) (.int .i64 e.r)) w = .ok true w := by
    rw [run_equalIn_int w 9998 3 .i64 .i64 _ _ Tryd.underlying3]; simp
  have h9 : Sem.run Tryd.prog (Op.equalIn 9999 9 (.string e.t) (.string e.t)) w = .ok true w := by
    exact eqStr 9998 e.t w
  have hf := fields45
  generalize (Tryd.prog.fieldsOf 45).toList = fs at hf ⊢
  rcases fs with _ | ⟨f0, _ | ⟨f1, _ | ⟨f2, _ | ⟨f3, r⟩⟩⟩⟩
  · simp at hf
  · simp at hf
  · simp at hf
  · simp only [List.map_cons, List.map_nil, List.cons.injEq, Prod.mk.injEq, and_true] at hf
    obtain ⟨⟨n0, t0, o0⟩, ⟨n1, t1, o1⟩, n2, t2, o2⟩ := hf
    simp [Op.eqFields, n0, n1, n2, t0, t1, t2, o0, o1, o2, part3, part26, part9, h3, h26, h9]
  · simp at hf
theorem neE (e : Ev) (hd : Byt e.d) (w : World) : (binOp .neq 45 (.agg (evc e).toArray) (.agg (evc e).toArray)).run Tryd.prog w = .ok (.bool false) w := by
  rw [run_neq_struct, eqE e hd w]; rfl

set_option maxHeartbeats 1000000 in
theorem equalE_same (v1 v2 : Value) (es : List Ev) (w : World) (h1 : RdE w v1 es) (h2 : RdE w v2 es) (hl : es.length ≤ 1000) (hw : ∀ e ∈ es, Byt e.d) :
    Calls Tryd.prog 26 #[v1, v2] w fun e w' => e = .returned (.bool true) ∧ Below w.heap.size w w' := by
  obtain ⟨a1, c1, rfl, k1⟩ := h1
  obtain ⟨a2, c2, rfl, k2⟩ := h2
  have H1 : Hid (RdE w (.slice a1 es.length c1) es) := ⟨a1, c1, rfl, k1⟩
  have H2 : Hid (RdE w (.slice a2 es.length c2) es) := ⟨a2, c2, rfl, k2⟩
  have HW := Lib.hid hw
  clear k1 k2 hw
  go_enter Tryd.func26, Tryd.ntmps26
  go_wp2_with fail
  go_loopw [5] (fun x wr => ∃ i : Nat, i ≤ es.length ∧ x = .int .i64 i ∧ Hid (RdE wr (.slice a1 es.length c1) es) ∧ Hid (RdE wr (.slice a2 es.length c2) es) ∧ Hid (Below w.heap.size w wr)) (fun x _ => es.length - (intOf x).toNat)
  case atStart => exact ⟨0, by omega, rfl, H1, H2, Below.refl _ _⟩
  case round =>
    clear H1 H2
    obtain ⟨i, hi, rfl, H1, H2, hb⟩ := hrel
    by_cases hlt : i < es.length
    · have z0 : (i : Int) < es.length := by omega
      have hne : es ≠ [] := by intro h; rw [h] at hlt; simp at hlt
      obtain ⟨x1, y1, e1, k1⟩ := H1.out
      injection e1 with e1 _ e3
      subst e1 e3
      obtain ⟨x2, y2, e1, k2⟩ := H2.out
      injection e1 with e1 _ e3
      subst e1 e3
      obtain ⟨b1, o1, rfl, _, r1⟩ := k1 hne
      obtain ⟨b2, o2, rfl, _, r2⟩ := k2 hne
      obtain ⟨e, he⟩ : ∃ e, es[i]? = some e := ⟨_, List.getElem?_eq_getElem hlt⟩
      have ld1 : ldN 34 wr (.pointer (some ⟨b1, o1 + i * 34, none⟩)) = some (evc e).toArray := ldN_of (by simpa using r1 i e he) (evc_size e)
      have ld2 : ldN 34 wr (.pointer (some ⟨b2, o2 + i * 34, none⟩)) = some (evc e).toArray := ldN_of (by simpa using r2 i e he) (evc_size e)
      have hne2 : ∀ W, (binOp .neq 45 (.agg (evc e).toArray) (.agg (evc e).toArray)).run Tryd.prog W = .ok (.bool false) W := fun W => neE e (HW.out e (List.mem_of_getElem? he)) W
      clear r1 r2 he k1 k2
      go_wp2_with fail
      refine wp_region_still_lit (by kernel_rfl) (by kernel_rfl) ?_
      repeat still_step
      refine wpStill_nil ?_
      change Exit.then _ _ _ _ wr.drew
      have H1' := Lib.hid H1.out.drew
      have H2' := Lib.hid H2.out.drew
      have hb' := Lib.hid hb.out.drew
      generalize wr.drew = V at H1' H2' hb' ⊢
      go_wp2_with fail
      exact ⟨⟨i + 1, by omega, by go_num, H1', H2', hb'⟩, by simp [intOf]; omega⟩
    · have z0 : ¬ (i : Int) < es.length := by omega
      go_wp2_with fail
      go_ret
      exact ⟨rfl, hb.out⟩

/-- v reads as these digests. -/
def RdD (w : World) (v : Value) (Ds : List (Nat → Int)) : Prop := ∃ a c, v = .slice a Ds.length c ∧ (Ds ≠ [] → ∃ b o, a = some ⟨b, o, none⟩ ∧ b < w.heap.size ∧ ∀ i D, Ds[i]? = some D → w.rangeAt b (o + i * 32) (arr 32 (b8 D)).toList)
theorem RdD.below {w w' : World} {v : Value} {es : List (Nat → Int)} {B0 : Nat} (h : RdD w v es) (hb : Below B0 w w') (hB : w.heap.size ≤ B0) : RdD w' v es := by
  obtain ⟨a, c, rfl, h⟩ := h
  refine ⟨a, c, rfl, fun hne => ?_⟩
  obtain ⟨b, o, rfl, hl, hr⟩ := h hne
  exact ⟨b, o, rfl, by have := hb.size; omega, fun i e he => rangeAt_below (hr i e he) hb (by omega)⟩
theorem RdD.drew {w : World} {v : Value} {es : List (Nat → Int)} (h : RdD w v es) : RdD w.drew v es := h
/-- Eight registers as a list. -/
def rgl (G : Nat → Nat → Int) : List (Nat → Int) := (List.range 8).map G
theorem RG.rd {w : World} {g : Nat} {G : Nat → Nat → Int} (h : RG w g G) : RdD w (.slice (some ⟨g, 0, none⟩) 8 8) (rgl G) := by
  refine ⟨_, _, rfl, fun _ => ⟨g, 0, rfl, Row.lt h, fun i D hD => ?_⟩⟩
  have hi : i < 8 := by have := (List.getElem?_eq_some_iff.1 hD).1; simpa [rgl] using this
  have : D = G i := by simpa [rgl, hi] using hD.symm
  subst this
  rw [Nat.zero_add]
  exact h.range hi
theorem nil_rd (w : World) : RdD w (.slice none 0 0) [] := ⟨none, 0, rfl, fun h => absurd rfl h⟩
set_option maxHeartbeats 1000000 in
theorem equalD_same (v1 v2 : Value) (es : List (Nat → Int)) (w : World) (h1 : RdD w v1 es) (h2 : RdD w v2 es) (hl : es.length ≤ 1000) (hw : ∀ e ∈ es, Byt e) :
    Calls Tryd.prog 31 #[v1, v2] w fun e w' => e = .returned (.bool true) ∧ Below w.heap.size w w' := by
  obtain ⟨a1, c1, rfl, k1⟩ := h1
  obtain ⟨a2, c2, rfl, k2⟩ := h2
  have H1 : Hid (RdD w (.slice a1 es.length c1) es) := ⟨a1, c1, rfl, k1⟩
  have H2 : Hid (RdD w (.slice a2 es.length c2) es) := ⟨a2, c2, rfl, k2⟩
  have HW := Lib.hid hw
  clear k1 k2 hw
  go_enter Tryd.func31, Tryd.ntmps31
  go_wp2_with fail
  go_loopw [5] (fun x wr => ∃ i : Nat, i ≤ es.length ∧ x = .int .i64 i ∧ Hid (RdD wr (.slice a1 es.length c1) es) ∧ Hid (RdD wr (.slice a2 es.length c2) es) ∧ Hid (Below w.heap.size w wr)) (fun x _ => es.length - (intOf x).toNat)
  case atStart => exact ⟨0, by omega, rfl, H1, H2, Below.refl _ _⟩
  case round =>
    clear H1 H2
    obtain ⟨i, hi, rfl, H1, H2, hb⟩ := hrel
    by_cases hlt : i < es.length
    · have z0 : (i : Int) < es.length := by omega
      have hne : es ≠ [] := by intro h; rw [h] at hlt; simp at hlt
      obtain ⟨x1, y1, e1, k1⟩ := H1.out
      injection e1 with e1 _ e3
      subst e1 e3
      obtain ⟨x2, y2, e1, k2⟩ := H2.out
      injection e1 with e1 _ e3
      subst e1 e3
      obtain ⟨b1, o1, rfl, _, r1⟩ := k1 hne
      obtain ⟨b2, o2, rfl, _, r2⟩ := k2 hne
      obtain ⟨e, he⟩ : ∃ e, es[i]? = some e := ⟨_, List.getElem?_eq_getElem hlt⟩
      have ld1 : ldN 32 wr (.pointer (some ⟨b1, o1 + i * 32, none⟩)) = some (arr 32 (b8 e)) := ldN_of (r1 i e he) (by simp [arr])
      have ld2 : ldN 32 wr (.pointer (some ⟨b2, o2 + i * 32, none⟩)) = some (arr 32 (b8 e)) := ldN_of (r2 i e he) (by simp [arr])
      have hne2 : ∀ W, (binOp .neq 26 (.agg (arr 32 (b8 e))) (.agg (arr 32 (b8 e)))).run Tryd.prog W = .ok (.bool false) W := fun W => by
        rw [neD (HW.out e (List.mem_of_getElem? he)) (HW.out e (List.mem_of_getElem? he))]; simp
      clear r1 r2 he k1 k2
      go_wp2_with fail
      refine wp_region_still_lit (by kernel_rfl) (by kernel_rfl) ?_
      repeat still_step
      refine wpStill_nil ?_
      change Exit.then _ _ _ _ wr.drew
      have H1' := Lib.hid H1.out.drew
      have H2' := Lib.hid H2.out.drew
      have hb' := Lib.hid hb.out.drew
      generalize wr.drew = V at H1' H2' hb' ⊢
      go_wp2_with fail
      exact ⟨⟨i + 1, by omega, by go_num, H1', H2', hb'⟩, by simp [intOf]; omega⟩
    · have z0 : ¬ (i : Int) < es.length := by omega
      go_wp2_with fail
      go_ret
      exact ⟨rfl, hb.out⟩
end Go.Proofs.YtndbbbkdpjkljaaDoor
