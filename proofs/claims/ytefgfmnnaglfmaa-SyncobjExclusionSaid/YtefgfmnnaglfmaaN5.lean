/- The reference's Held. Condition: few locks and threads. -/
import Derived.Deep.CutBlock
import Derived.Test.YtefgfmnnaglfmaaN4
namespace Go.Proofs.Ytefgfmnnaglfmaa
open Go.RowKit
theorem OI.takeQ {w : World} {g n c k : Nat} {q : List Int} (h : OI w (.slice (some ⟨g, 0, none⟩) n c) q) (hn : q.length = n) (hk : k ≤ n) : QV w (.slice (some ⟨g, 0, none⟩) k c) (q.take k) := by
  obtain ⟨a, cap, e, h1, h2, h3⟩ := own_form h
  injection e with e1 e2 e3
  subst e3
  have hty := own_ty h rfl
  have hl : (q.take k).length = k := by rw [List.length_take]; omega
  refine ⟨some ⟨g, 0, none⟩, c, by rw [hl], by rw [hl]; omega, h2, fun b hb => ?_, fun hq => ⟨g, 0, rfl, fun j hj => ?_⟩⟩
  · have e : g = b := by simpa [Value.ownBlock] using hb
    rw [← e]; exact hty
  · rw [hl] at hj
    obtain ⟨g', e9, _, hc, _⟩ := h3 (by omega)
    rw [← e1] at e9
    injection e9 with e9
    injection e9 with e9
    subst e9
    rw [Nat.zero_add]
    refine hc j _ ?_
    rw [List.getElem?_map, List.getD_eq_getElem?_getD, List.getElem?_take_of_lt hj, List.getElem?_eq_getElem (by omega)]; rfl
theorem OI.dropQ {w : World} {g n c k : Nat} {q : List Int} (h : OI w (.slice (some ⟨g, 0, none⟩) n c) q) (hn : q.length = n) (hk : k ≤ n) : QV w (.slice (if c = k then some (⟨g, 0, none⟩ : Addr) else some ⟨g, k, none⟩) (n - k) (c - k)) (q.drop k) := by
  obtain ⟨a, cap, e, h1, h2, h3⟩ := own_form h
  injection e with e1 e2 e3
  subst e3
  have hty := own_ty h rfl
  have hl : (q.drop k).length = n - k := by rw [List.length_drop]; omega
  refine ⟨_, c - k, by rw [hl], by rw [hl]; omega, by omega, fun b hb => ?_, fun hq => ⟨g, k, ?_, fun j hj => ?_⟩⟩
  · have e : g = b := by
      by_cases h9 : c = k
      · rw [if_pos h9] at hb; simpa [Value.ownBlock] using hb
      · rw [if_neg h9] at hb; simpa [Value.ownBlock] using hb
    rw [← e]; exact hty
  · rw [if_neg]
    intro h9
    have : (q.drop k).length = 0 := by rw [hl]; omega
    exact hq (List.eq_nil_of_length_eq_zero this)
  · rw [hl] at hj
    obtain ⟨g', e9, _, hc, _⟩ := h3 (by omega)
    rw [← e1] at e9
    injection e9 with e9
    injection e9 with e9
    subst e9
    refine hc (k + j) _ ?_
    rw [List.getElem?_map, List.getD_eq_getElem?_getD, List.getElem?_drop, List.getElem?_eq_getElem (by omega)]; rfl
theorem app_cat {w : World} {v v2 : Value} {q q2 : List Int} (ho : OI w v q) (hq : QV w v2 q2) (hl : q.length ≤ 100000) (hl2 : q2.length ≤ 100000) (hn : q ≠ []) :
    ∃ g cap w', (Builtin.append_ #[22, 22] 22 #[v, v2]).run Try.prog w = .ok (.slice (some ⟨g, 0, none⟩) (q ++ q2).length cap) w' ∧ OI w' (.slice (some ⟨g, 0, none⟩) (q ++ q2).length cap) (q ++ q2) ∧ Ch (fun k => v.ownBlock = some k) w w' ∧ (v.ownBlock = some g ∨ w.heap.size ≤ g) := by
  obtain ⟨i0, hi0, hx0, hx1, hx2⟩ := info_parts Try.info3
  obtain ⟨a, cap, rfl, h1, h2, h3, h4⟩ := hq
  by_cases hn2 : q2 = []
  · subst hn2
    rw [List.append_nil]
    obtain ⟨a1, c1, rfl, k1, k2, k3⟩ := own_form ho
    obtain ⟨g, rfl, _⟩ := k3 (List.length_pos_iff.2 hn)
    refine ⟨g, c1, w, run_append_nothing w 22 22 22 3 i0 Try.underlying22 hi0 _ q.length c1 k1 _ ?_, ho, Ch.refl _ _, .inl rfl⟩
    cases a with
    | none => exact Src.ofNil w Try.underlying22 cap
    | some ad => exact Src.ofSlice w Try.underlying22 ad 0 cap [] (by simp) (fun j u h => by simp at h) (fun u h => by cases h)
  · obtain ⟨b, o, rfl, h5⟩ := h4 hn2
    have hn0 : 0 < q2.length := List.length_pos_iff.2 hn2
    obtain ⟨g, c2, w', hr, ho, hg, hat, hlt⟩ := run_append_lies (P := Try.prog) w 22 22 0 3 i0 _ 1 8 Try.underlying22 hi0 hx0 hx1 hx2 rfl (by omega) v q.length _ ho ⟨b, o, none⟩ q2.length cap (q2.map (Value.int .i64)) (by simp) (fun j u hu => by
      have hj : j < q2.length := by
        rcases Nat.lt_or_ge j q2.length with h | h
        · exact h
        · rw [List.getElem?_eq_none (by simpa using h)] at hu; cases hu
      have hadd : (⟨b, o, none⟩ : Addr).add j = ⟨b, o + j, none⟩ := by unfold Addr.add; split <;> simp_all
      rw [hadd, h5 j hj, ← hu, List.getElem?_map, List.getD_eq_getElem?_getD, List.getElem?_eq_getElem hj]; rfl) (fun u hu => by
      obtain ⟨z, _, rfl⟩ := List.mem_map.1 hu; rfl) hn0 (by unfold maxLen; omega) (by omega) (Nat.zero_le _) w.heap.size rfl
    refine ⟨g, c2, w', by rw [List.length_append]; exact hr, ?_, Ch.of_grown hg (fun k hk _ => hk), hat.imp id (fun h => by omega)⟩
    unfold OI
    rw [List.length_append, List.map_append]; exact ho
/-- A number put into its place. -/
theorem ins_sorted {out : List Int} {k : Nat} {y : Int} (hs : out.Pairwise (· < ·)) (hk : k ≤ out.length) (h1 : ∀ j, j < k → out.getD j 0 < y) (h2 : k = out.length ∨ y ≤ out.getD k 0) (hy : y ∉ out) :
    (out.take k ++ [y] ++ out.drop k).Pairwise (· < ·) ∧ ∀ a, a ∈ out.take k ++ [y] ++ out.drop k ↔ a ∈ out ∨ a = y := by
  have hget : ∀ j (h : j < out.length), out.getD j 0 = out[j] := fun j h => by rw [List.getD_eq_getElem?_getD, List.getElem?_eq_getElem h]; rfl
  have hlow : ∀ a ∈ out.take k, a < y := fun a ha => by
    obtain ⟨j, hj, rfl⟩ := List.mem_iff_getElem.1 ha
    rw [List.getElem_take]
    have hj2 : j < k := by rw [List.length_take] at hj; omega
    have := h1 j hj2
    rwa [hget j (by omega)] at this
  have hhigh : ∀ a ∈ out.drop k, y < a := fun a ha => by
    obtain ⟨j, hj, rfl⟩ := List.mem_iff_getElem.1 ha
    rw [List.getElem_drop]
    rw [List.length_drop] at hj
    have hk2 : y ≤ out[k] := by
      rcases h2 with h2 | h2
      · omega
      · rwa [hget k (by omega)] at h2
    have hmem : out[k + j] ∈ out := List.getElem_mem _
    have hne : y ≠ out[k + j] := fun e => hy (by rw [e]; exact hmem)
    rcases Nat.eq_zero_or_pos j with h0 | h0
    · subst h0
      have : out[k + 0] = out[k] := rfl
      rw [this] at hne ⊢
      omega
    · have := List.pairwise_iff_getElem.1 hs k (k + j) (by omega) (by omega) (by omega)
      omega
  refine ⟨?_, fun a => ?_⟩
  · rw [List.pairwise_append, List.pairwise_append]
    refine ⟨⟨hs.sublist (List.take_sublist k out), List.pairwise_singleton _ _, fun a ha b hb => ?_⟩, hs.sublist (List.drop_sublist k out), fun a ha b hb => ?_⟩
    · rw [List.mem_singleton.1 hb]; exact hlow a ha
    · rcases List.mem_append.1 ha with ha | ha
      · have := hlow a ha; have := hhigh b hb; omega
      · rw [List.mem_singleton.1 ha]; exact hhigh b hb
  · have : a ∈ out ↔ a ∈ out.take k ∨ a ∈ out.drop k := by
      conv => lhs; rw [← List.take_append_drop k out]
      exact List.mem_append
    rw [this, List.mem_append, List.mem_append, List.mem_singleton]
    constructor
    · rintro ((h | h) | h)
      · exact .inl (.inl h)
      · exact .inr h
      · exact .inl (.inr h)
    · rintro ((h | h) | h)
      · exact .inl (.inl h)
      · exact .inr h
      · exact .inl (.inr h)
section
variable {w w1 w' : World} {D D1 : Nat → Prop} {X n : Nat} {s : LK} {vl vw : Value} {M : List RL} {W : List RT}
set_option maxRecDepth 100000 in
set_option maxHeartbeats 8000000 in
theorem rheld_any (h : RK w D X n s) (hn : n ≤ 1000) (t : Int) :
    Calls Try.prog 55 #[ptr X, .int .i64 t] w fun e w' => ∃ v E, e = .returned v ∧ E.Pairwise (· < ·) ∧ (∀ id, id ∈ E ↔ ∃ x, s.o id = some x ∧ x.mx = true ∧ 0 < x.ct ∧ x.ow = t) ∧ OI w' v E ∧ Below w.heap.size w w' := by
  obtain ⟨vl, vw, M, W, h1, h2, h3, h4, h5⟩ := h
  have H := Lib.hid h1
  have HO := Lib.hid h4
  have c0 := h1.c0
  obtain ⟨al, cap, e, hc1, hc2⟩ := h1.fl
  obtain ⟨L, hL⟩ : ∃ L, M.length = L := ⟨_, rfl⟩
  rw [hL] at h2 hc1 e
  rw [e] at c0
  have HE := Lib.hid e
  have HL := Lib.hid hL
  unfold maxLen at hc2
  have HOI : Hid (∃ out : List Int, OI w (.slice none 0 0) out ∧ out.length ≤ 0 ∧ out.Pairwise (· < ·) ∧ (∀ id, id ∈ out ↔ ∃ x ∈ M.take 0, x.id = id ∧ x.od = true ∧ x.ow = t) ∧ (∀ g, (Value.slice none 0 0).ownBlock = some g → w.heap.size ≤ g) ∧ Below w.heap.size w w) := ⟨[], OI.nil w, Nat.le_refl _, List.Pairwise.nil, (fun id => by simp), (fun g hg => by cases hg), Below.refl _ _⟩
  clear h1 h4 h5 h3 e hL
  go_enter Try.func55, Try.ntmps55
  go_wp2_with fail
  go_loopw [5, 6] (fun v z wr => ∃ (i : Nat) (vo : Value), i ≤ L ∧ vo = v ∧ z = .int .i64 (i : Int) ∧ Hid (∃ out : List Int, OI wr vo out ∧ out.length ≤ i ∧ out.Pairwise (· < ·) ∧ (∀ id, id ∈ out ↔ ∃ x ∈ M.take i, x.id = id ∧ x.od = true ∧ x.ow = t) ∧ (∀ g, vo.ownBlock = some g → w.heap.size ≤ g) ∧ Below w.heap.size w wr)) (fun _ z _ => L - (intOf z).toNat)
  case atStart => exact ⟨0, _, by omega, rfl, rfl, HOI⟩
  case round =>
    clear HOI c0
    obtain ⟨i, vo, hi, hvo, rfl, HOI⟩ := hrel
    subst hvo
    obtain ⟨out, ho, hol, hos, hom, hob, hbw⟩ := HOI.out
    have HM := Lib.hid (H.out.below hbw)
    have c0 := HM.out.c0
    rw [HE.out] at c0
    by_cases hlt : i < L
    · have y0 : (i : Int) < L := by omega
      obtain ⟨x, hx⟩ : ∃ x, M[i]? = some x := ⟨_, List.getElem?_eq_getElem (by rw [HL.out]; exact hlt)⟩
      obtain ⟨g, cp, e, _, _, hgl, hgD, d0, d1, d2, d3, d4, d5, d6, fr⟩ := HM.out.gl hx
      rw [HE.out, HL.out] at e
      have e1 : al = some ⟨g, 0, none⟩ := by injection e
      subst e1
      obtain ⟨od, hod⟩ : ∃ b, x.od = b := ⟨_, rfl⟩
      rw [hod] at d3
      have hT : ∀ p : RL → Prop, (∃ z ∈ M.take (i + 1), p z) ↔ (∃ z ∈ M.take i, p z) ∨ p x := fun p => by
        obtain ⟨hil, hxe⟩ := List.getElem?_eq_some_iff.1 hx
        rw [List.take_succ_eq_append_getElem hil, hxe]
        constructor
        · rintro ⟨z, hz, hp⟩
          rcases List.mem_append.1 hz with hz | hz
          · exact .inl ⟨z, hz, hp⟩
          · rw [List.mem_singleton.1 hz] at hp; exact .inr hp
        · rintro (⟨z, hz, hp⟩ | hp)
          · exact ⟨z, List.mem_append_left _ hz, hp⟩
          · exact ⟨x, by simp, hp⟩
      have HOI2 : Hid (¬ (od = true ∧ x.ow = t) → ∃ out : List Int, OI wr vo out ∧ out.length ≤ i + 1 ∧ out.Pairwise (· < ·) ∧ (∀ id, id ∈ out ↔ ∃ x ∈ M.take (i + 1), x.id = id ∧ x.od = true ∧ x.ow = t) ∧ (∀ g, vo.ownBlock = some g → w.heap.size ≤ g) ∧ Below w.heap.size w wr) := fun hb => ⟨out, ho, by omega, hos, fun id => by
        rw [hT, hom id]
        constructor
        · exact .inl
        · rintro (h | ⟨_, h1, h2⟩)
          · exact h
          · exact absurd ⟨hod.symm.trans h1, h2⟩ hb, hob, hbw⟩
      by_cases hb : od = true ∧ x.ow = t
      · have hny : x.id ∉ out := fun hmem => by
          obtain ⟨z, hz, h1, _⟩ := (hom x.id).1 hmem
          obtain ⟨j, hj⟩ := List.mem_iff_getElem?.1 hz
          rw [List.getElem?_take] at hj
          split at hj
          · have := nodup_at (f := (·.id)) HO.out.nd hj hx h1; omega
          · cases hj
        obtain ⟨hb1, hb2⟩ := hb
        have HMEM : Hid (∀ id, (∃ x ∈ M.take (i + 1), x.id = id ∧ x.od = true ∧ x.ow = t) ↔ id ∈ out ∨ id = x.id) := fun id => by
          rw [hT, hom id]
          constructor
          · rintro (h | ⟨h, _⟩)
            · exact .inl h
            · exact .inr h.symm
          · rintro (h | h)
            · exact .inl h
            · exact .inr ⟨h.symm, hod.trans hb1, hb2⟩
        have howb : (x.ow == t) = true := by simpa using hb2
        subst hb1
        have hXl : X < wr.heap.size := HM.out.fin X HM.out.dX
        have HS0 : Hid (wr.cell? ⟨X, 0, none⟩ = some (.slice (some ⟨g, 0, none⟩) L cap) ∧ wr.cell? ⟨g, i * 7, none⟩ = some (.int .i64 x.id)) := ⟨c0, d0⟩
        obtain ⟨ra, rc, erf, hrc, hrc2, hrx⟩ := own_form ho
        obtain ⟨rn, hrn⟩ : ∃ m, out.length = m := ⟨_, rfl⟩
        rw [hrn] at erf hrc hrx hol
        have HRN := Lib.hid hrn
        subst erf
        have HC : Hid (0 < rn → ∃ g, ra = some ⟨g, 0, none⟩ ∧ g < wr.heap.size ∧ ∀ j, j < rn → wr.cell? ⟨g, j, none⟩ = some (.int .i64 (out.getD j 0))) := fun h9 => by
          obtain ⟨g9, e9, h10, h11, _⟩ := hrx h9
          refine ⟨g9, e9, h10, fun j hj => h11 j _ ?_⟩
          rw [List.getElem?_map, List.getD_eq_getElem?_getD, List.getElem?_eq_getElem (by omega)]; rfl
        have HOO : Hid (OI wr (.slice ra rn rc) out ∧ out.Pairwise (· < ·) ∧ x.id ∉ out ∧ (∀ g, (Value.slice ra rn rc).ownBlock = some g → w.heap.size ≤ g) ∧ Below w.heap.size w wr) := ⟨ho, hos, hny, hob, hbw⟩
        unfold maxLen at hrc2
        clear e d1 d2 d5 d6 fr hod hT hrn hrx ho hos hny hob hbw hom HOI HOI2 hx hb2
        go_upto_block 2 with fail
        go_cut [7] (fun xk wx => ∃ k : Nat, k ≤ rn ∧ xk = .int .i64 (k : Int) ∧ Hid (∀ j, j < k → out.getD j 0 < x.id) ∧ Hid (k = rn ∨ x.id ≤ out.getD k 0) ∧ Hid (Below wr.heap.size wr wx))
        case first =>
          obtain ⟨wi, hwi⟩ : ∃ z : World, z = wr := ⟨_, rfl⟩
          subst hwi
          have HB0 : Hid (Below wi.heap.size wi wi) := Below.refl _ _
          go_wp2_with fail
          go_loopw [7] (fun z wk => ∃ k : Nat, k ≤ rn ∧ z = .int .i64 (k : Int) ∧ Hid (∀ j, j < k → out.getD j 0 < x.id) ∧ Hid (Below wi.heap.size wi wk)) (fun z _ => rn - (intOf z).toNat)
          case atStart => exact ⟨0, by omega, rfl, fun j hj => by omega, HB0⟩
          case round =>
            clear HB0
            obtain ⟨k, hk, rfl, HL, HB⟩ := hrel
            by_cases hkr : k < rn
            · have y9 : (k : Int) < rn := by omega
              obtain ⟨gq, rfl, hgq, hqc⟩ := HC.out (by omega)
              have hcq := hqc k hkr
              obtain ⟨a, ha⟩ : ∃ a, out.getD k 0 = a := ⟨_, rfl⟩
              rw [ha] at hcq
              have SK : Hid (wr.drew.cell? ⟨X, 0, none⟩ = some (.slice (some ⟨g, 0, none⟩) L cap) ∧ wr.drew.cell? ⟨g, i * 7, none⟩ = some (.int .i64 x.id) ∧ wr.drew.cell? ⟨gq, k, none⟩ = some (.int .i64 a)) := ⟨(HB.out.cell (p := ⟨X, 0, none⟩) hXl).trans HS0.out.1, (HB.out.cell (p := ⟨g, i * 7, none⟩) hgl).trans HS0.out.2, (HB.out.cell (p := ⟨gq, k, none⟩) hgq).trans hcq⟩
              have HB2 : Hid (Below wi.heap.size wi wr.drew) := HB.out.drew
              have HA := Lib.hid ha
              clear hcq hqc ha
              by_cases hay : a < x.id
              · have HL2 : Hid (∀ j, j < k + 1 → out.getD j 0 < x.id) := fun j hj => by
                  rcases (by omega : j < k ∨ j = k) with h1 | h1
                  · exact HL.out j h1
                  · rw [h1, HA.out]; exact hay
                go_wp2_with fail
                refine wp_region_pl (fun Y => Y.cell? ⟨X, 0, none⟩ = some (.slice (some ⟨g, 0, none⟩) L cap) ∧ Y.cell? ⟨g, i * 7, none⟩ = some (.int .i64 x.id) ∧ Y.cell? ⟨gq, k, none⟩ = some (.int .i64 a)) ((0, 0) :: (1, 0) :: (2, 0) :: (3, 0) :: (4, 0) :: (5, 0) :: (6, 0) :: (7, 0) :: (8, 0) :: (9, 0) :: (10, 0) :: (11, 0) :: (12, 0) :: (13, 0) :: (14, 0) :: (15, 0) :: (16, 0) :: (17, 0) :: (18, 0) :: []) (by kernel_rfl) (by kernel_rfl) ?_
                iterate 19 (apply wpP_go; (focus rfl); (focus rfl); (focus exact SK.out); (focus (rintro Q ⟨s0, s1, s2⟩; go_simp; exact rfl)); intro K hK; go_simp; refine hK _ ?_; clear hK K)
                refine wpP_done ?_
                clear SK
                go_wp2_with fail
                go_roundw
                case rel => exact ⟨k + 1, by omega, by go_num, HL2, HB2⟩
                case measure => simp [intOf]; omega
              · have HE9 : Hid (k = rn ∨ x.id ≤ out.getD k 0) := .inr (by rw [HA.out]; omega)
                go_wp2_with fail
                refine wp_region_pl (fun Y => Y.cell? ⟨X, 0, none⟩ = some (.slice (some ⟨g, 0, none⟩) L cap) ∧ Y.cell? ⟨g, i * 7, none⟩ = some (.int .i64 x.id) ∧ Y.cell? ⟨gq, k, none⟩ = some (.int .i64 a)) ((0, 0) :: (1, 0) :: (2, 0) :: (3, 0) :: (4, 0) :: (5, 0) :: (6, 0) :: (7, 0) :: (8, 0) :: (9, 0) :: (10, 0) :: (11, 0) :: (12, 0) :: (13, 0) :: (14, 0) :: (15, 0) :: (16, 0) :: (17, 0) :: (18, 0) :: []) (by kernel_rfl) (by kernel_rfl) ?_
                iterate 19 (apply wpP_go; (focus rfl); (focus rfl); (focus exact SK.out); (focus (rintro Q ⟨s0, s1, s2⟩; go_simp; exact rfl)); intro K hK; go_simp; refine hK _ ?_; clear hK K)
                refine wpP_done ?_
                clear SK
                go_wp2_with fail
                go_meet
                exact ⟨k, hk, rfl, HL, HE9, HB2⟩
            · have y9 : ¬ (k : Int) < rn := by omega
              have HE9 : Hid (k = rn ∨ x.id ≤ out.getD k 0) := .inl (by omega)
              have HB2 : Hid (Below wi.heap.size wi wr.drew) := HB.out.drew
              have SK : Hid (True) := trivial
              go_wp2_with fail
              refine wp_region_pl (fun Y => True) ((0, 0) :: (1, 0) :: (2, 0) :: (3, 0) :: (4, 0) :: (5, 0) :: (6, 0) :: (7, 0) :: (8, 0) :: (9, 0) :: (10, 0) :: (11, 0) :: (12, 0) :: (13, 0) :: (14, 0) :: (15, 0) :: (16, 0) :: (17, 0) :: (18, 0) :: []) (by kernel_rfl) (by kernel_rfl) ?_
              iterate 5 (apply wpP_go; (focus rfl); (focus rfl); (focus exact SK.out); (focus (rintro Q _; go_simp; exact rfl)); intro K hK; go_simp; refine hK _ ?_; clear hK K)
              iterate 13 (apply wpP_not; (focus rfl); (focus rfl); (focus exact SK.out); intro K hK; go_simp; refine hK _ ?_; clear hK K)
              iterate 1 (apply wpP_go; (focus rfl); (focus rfl); (focus exact SK.out); (focus (rintro Q _; go_simp; exact rfl)); intro K hK; go_simp; refine hK _ ?_; clear hK K)
              refine wpP_done ?_
              clear SK
              go_wp2_with fail
              go_meet
              exact ⟨k, hk, rfl, HL, HE9, HB2⟩
        case rest =>
          obtain ⟨k, hk, rfl, HL, HE9, HB⟩ := hcut
          have hwcs := HB.out.size
          have hol9 : out.length ≤ 1000 := by rw [HRN.out]; omega
          have SK : Hid (wc.drew.cell? ⟨X, 0, none⟩ = some (.slice (some ⟨g, 0, none⟩) L cap) ∧ wc.drew.cell? ⟨g, i * 7, none⟩ = some (.int .i64 x.id)) := ⟨(HB.out.cell (p := ⟨X, 0, none⟩) hXl).trans HS0.out.1, (HB.out.cell (p := ⟨g, i * 7, none⟩) hgl).trans HS0.out.2⟩
          have HB2 : Hid (Below wr.heap.size wr wc.drew) := HB.out.drew
          have hra : (ra = none ∧ rn = 0 ∧ rc = 0) ∨ ∃ gq, ra = some ⟨gq, 0, none⟩ := by
            rcases HOO.out.1.2 with ⟨h1, h2⟩ | ⟨gq, cq, cur, h1, _⟩
            · injection h1 with h1 h2 h3
              exact .inl ⟨h1, h2, h3⟩
            · injection h1 with h1
              exact .inr ⟨gq, h1⟩
          have hkc : k ≤ rc := by omega
          rcases hra with ⟨rfl, rfl, rfl⟩ | ⟨gq, rfl⟩
          · obtain rfl : k = 0 := by omega
            have HQ1 : Hid (QV wc.drew (.slice none 0 0) (out.take 0)) := QV.nil _
            have HQ2 : Hid (QV wc.drew (.slice none 0 0) (out.drop 0)) := by
              show QV _ _ _
              rw [List.drop_zero, List.eq_nil_of_length_eq_zero HRN.out]; exact QV.nil _
            go_wp2_with fail
            refine wp_region_tree (fun Y => Y.cell? ⟨X, 0, none⟩ = some (.slice (some ⟨g, 0, none⟩) L cap) ∧ Y.cell? ⟨g, i * 7, none⟩ = some (.int .i64 x.id)) [] (PT.ls ((0, 0) :: (1, 0) :: (2, 0) :: (4, 0) :: (5, 0) :: (6, 0) :: (7, 0) :: (8, 0) :: (9, 0) :: (10, 0) :: (11, 0) :: (14, 0) :: (15, 0) :: (16, 0) :: []) (.f 3 (PT.ls ((12, 1) :: (13, 1) :: (17, 1) :: (18, 0) :: []) .done) 12 (PT.ls ((3, 1) :: (13, 1) :: (17, 1) :: (18, 0) :: []) .done))) (by kernel_rfl) (by kernel_rfl) (by kernel_rfl) ?_
            unfold PT.ls
            have hX3 : X < wc.drew.heap.size := Nat.lt_of_lt_of_le hXl hwcs
            have hg3 : g < wc.drew.heap.size := Nat.lt_of_lt_of_le hgl hwcs
            generalize wc.drew = w3 at *
            iterate 14 (apply wpT_go; (focus rfl); (focus rfl); (focus exact SK.out); (focus (rintro Q ⟨s0, s1⟩; go_simp; exact rfl)); intro K hK; go_simp; refine hK _ ?_; clear hK K)
            apply wpT_fork
            focus rfl
            focus rfl
            · intro K hK
              obtain ⟨R1, wa, hr, ho1, hc1, hb1⟩ := app_copy HQ1.out (by rw [List.length_take]; omega)
              refine step_append_run rfl _ _ 22 rfl rfl _ _ R1 wa rfl rfl hr ?_
              refine hK _ _ (⟨(hc1.cell (p := ⟨X, 0, none⟩) hX3 id).trans SK.out.1, (hc1.cell (p := ⟨g, i * 7, none⟩) hg3 id).trans SK.out.2⟩) ?_
              clear hK K hr
              have cal : Ch (fun _ => False) wa (wa.alloc (.cells #[.int .i64 (x.id)] 3)) := (Ch.refl _ _).alloc _
              have HC4 : Hid (Ch (fun _ => False) w3 (wa.alloc (.cells #[.int .i64 (x.id)] 3))) := hc1.trans cal
              have HO1 : Hid (OI (wa.alloc (.cells #[.int .i64 (x.id)] 3)) R1 (out.take 0)) := ho1.ch cal (fun _ _ h => h)
              have HR1 : Hid (∀ k, R1.ownBlock = some k → w3.heap.size ≤ k ∧ k < (wa.alloc (.cells #[.int .i64 (x.id)] 3)).heap.size) := fun k hk => ⟨(hb1 k hk).1, Nat.lt_of_lt_of_le (hb1 k hk).2 cal.size⟩
              have HB9 : Hid ((wa.alloc (.cells #[.int .i64 (x.id)] 3)).cell? ⟨wa.heap.size, 0, none⟩ = some (.int .i64 (x.id))) := Row.cell (Row.new wa 3 #[.int .i64 (x.id)] (fun _ => .int .i64 (x.id)) (fun j hj => by rcases (by simpa using hj : j = 0) with rfl; rfl)) (i := 0) (by simp)
              apply wpT_one
              focus rfl
              intro K hK
              go_simp
              refine hK _ _ (⟨(HC4.out.cell (p := ⟨X, 0, none⟩) hX3 id).trans SK.out.1, (HC4.out.cell (p := ⟨g, i * 7, none⟩) hg3 id).trans SK.out.2⟩) ?_
              clear hK K cal hc1 ho1 hb1 HQ1
              generalize wa.heap.size = Bz at *
              generalize wa.alloc (.cells #[.int .i64 (x.id)] 3) = w4 at *
              apply wpT_one
              focus rfl
              intro K hK
              obtain ⟨R2, w5, hr5, ho5, hc5, ⟨g5, cap5, e5⟩, hb5⟩ := app_push HO1.out (by rw [List.length_take]; omega) HB9.out
              refine step_append_run rfl _ _ 22 rfl rfl _ _ R2 w5 rfl rfl hr5 ?_
              have hs4 := HC4.out.size
              have HC5 : Hid (Ch (fun _ => False) w3 w5) := HC4.out.andThen hc5 (fun k hk hk2 => by have := (HR1.out k hk).1; omega)
              have HO5 : Hid (OI w5 R2 (out.take 0 ++ [x.id])) := ho5
              have HR5 : Hid (∀ k, R2.ownBlock = some k → w3.heap.size ≤ k ∧ k < w5.heap.size) := fun k hk => by
                obtain ⟨h1, h2⟩ := hb5 k hk
                refine ⟨?_, h2⟩
                rcases h1 with h1 | h1
                · exact (HR1.out k h1).1
                · omega
              have HQ5 : Hid (QV w5 (.slice none 0 0) (out.drop 0)) := HQ2.out.ch HC5.out (fun _ _ h => h)
              refine hK _ _ (⟨(HC5.out.cell (p := ⟨X, 0, none⟩) hX3 id).trans SK.out.1, (HC5.out.cell (p := ⟨g, i * 7, none⟩) hg3 id).trans SK.out.2⟩) ?_
              clear hK K hr5 ho5 hc5 hb5 hs4 HC4 HO1 HR1 HB9 e5 g5 cap5 HQ2
              apply wpT_one
              focus rfl
              intro K hK
              obtain ⟨g6, cap6, w6, hr6, ho6, hc6, hb6⟩ := app_cat HO5.out HQ5.out (by rw [List.length_append, List.length_take]; show _ + 1 ≤ _; omega) (by rw [List.length_drop]; omega) (by simp)
              refine step_append_run rfl _ _ 22 rfl rfl _ _ (.slice (some ⟨g6, 0, none⟩) (out.take 0 ++ [x.id] ++ out.drop 0).length cap6) w6 rfl rfl hr6 ?_
              have hs5 := HC5.out.size
              have HC6 : Hid (Ch (fun _ => False) w3 w6) := HC5.out.andThen hc6 (fun k hk hk2 => by have := (HR5.out k hk).1; omega)
              have HO6 := Lib.hid ho6
              have HG6 : Hid (w3.heap.size ≤ g6) := by
                show _ ≤ _
                rcases hb6 with h1 | h1
                · exact (HR5.out g6 h1).1
                · omega
              refine hK _ _ (⟨(HC6.out.cell (p := ⟨X, 0, none⟩) hX3 id).trans SK.out.1, (HC6.out.cell (p := ⟨g, i * 7, none⟩) hg3 id).trans SK.out.2⟩) ?_
              clear hK K hr6 ho6 hc6 hb6 hs5 HO5 HR5 HC5 HQ5
              obtain ⟨n6, hn6⟩ : ∃ m, (out.take 0 ++ [x.id] ++ out.drop 0).length = m := ⟨_, rfl⟩
              simp only [hn6]
              rw [hn6] at HO6
              clear hn6
              iterate 1 (apply wpT_go; (focus rfl); (focus rfl); (focus exact (by exact ⟨(HC6.out.cell (p := ⟨X, 0, none⟩) hX3 id).trans SK.out.1, (HC6.out.cell (p := ⟨g, i * 7, none⟩) hg3 id).trans SK.out.2⟩)); (focus (rintro Q ⟨s0, s1⟩; go_simp; exact rfl)); intro K hK; go_simp; refine hK _ ?_; clear hK K)
              refine wpT_done ?_
              have HB6 : Hid (Below wr.heap.size wr w6) := HB2.out.trans (HC6.out.below HB2.out.size (fun _ h => h.elim))
              have HG7 : Hid (wr.heap.size ≤ g6) := by have := HB2.out.size; have := HG6.out; exact Nat.le_trans ‹_› ‹_›
              clear SK HC6 HG6
              have HOI3 : Hid (∃ out2 : List Int, OI w6 (.slice (some ⟨g6, 0, none⟩) n6 cap6) out2 ∧ out2.length ≤ i + 1 ∧ out2.Pairwise (· < ·) ∧ (∀ id, id ∈ out2 ↔ ∃ x ∈ M.take (i + 1), x.id = id ∧ x.od = true ∧ x.ow = t) ∧ (∀ g, (Value.slice (some ⟨g6, 0, none⟩) n6 cap6).ownBlock = some g → w.heap.size ≤ g) ∧ Below w.heap.size w w6) := by
                have hin := ins_sorted (k := 0) HOO.out.2.1 (by rw [HRN.out]; omega) HL.out (by rw [HRN.out]; first | exact HE9.out | exact .inl rfl) HOO.out.2.2.1
                have hsw := HOO.out.2.2.2.2.size
                refine ⟨_, HO6.out, by rw [List.length_append, List.length_append, List.length_take, List.length_drop, HRN.out]; show _ + 1 + _ ≤ _; omega, hin.1, fun id => by rw [hin.2 id, HMEM.out id], fun g hg => ?_, HOO.out.2.2.2.2.trans (HB6.out.mono hsw)⟩
                have e : g6 = g := by simpa [Value.ownBlock] using hg
                have := HG7.out
                omega
              clear HO6 HB6 HG7 HMEM HOO HRN HC HS0 HL HE9 HB HB2
              go_wp2_with fail
              go_roundw
              case rel => exact ⟨i + 1, _, by omega, rfl, by go_num, HOI3⟩
              case measure => simp [intOf]; omega
            · intro K hK
              go_simp
              have cal : Ch (fun _ => False) w3 (w3.alloc (.cells #[.int .i64 (x.id)] 3)) := (Ch.refl _ _).alloc _
              have HB0 : Hid ((w3.alloc (.cells #[.int .i64 (x.id)] 3)).cell? ⟨w3.heap.size, 0, none⟩ = some (.int .i64 (x.id))) := Row.cell (Row.new w3 3 #[.int .i64 (x.id)] (fun _ => .int .i64 (x.id)) (fun j hj => by rcases (by simpa using hj : j = 0) with rfl; rfl)) (i := 0) (by simp)
              have HQ4 : Hid (QV (w3.alloc (.cells #[.int .i64 (x.id)] 3)) (.slice none 0 0) (out.take 0)) := HQ1.out.ch cal (fun _ _ h => h)
              have HCL := Lib.hid cal
              have hBl : w3.heap.size < (w3.alloc (.cells #[.int .i64 (x.id)] 3)).heap.size := by simp
              refine hK _ _ (⟨(cal.cell (p := ⟨X, 0, none⟩) hX3 id).trans SK.out.1, (cal.cell (p := ⟨g, i * 7, none⟩) hg3 id).trans SK.out.2⟩) ?_
              clear hK K cal HQ1
              generalize w3.alloc (.cells #[.int .i64 (x.id)] 3) = wa at *
              obtain ⟨Bz, hBz⟩ : ∃ B, w3.heap.size = B := ⟨_, rfl⟩
              simp only [hBz]
              rw [hBz] at HB0 hBl
              apply wpT_one
              focus rfl
              intro K hK
              obtain ⟨R1, w4, hr, ho1, hc1, hb1⟩ := app_copy HQ4.out (by rw [List.length_take]; omega)
              refine step_append_run rfl _ _ 22 rfl rfl _ _ R1 w4 rfl rfl hr ?_
              have HC4 : Hid (Ch (fun _ => False) w3 w4) := HCL.out.trans hc1
              have HO1 : Hid (OI w4 R1 (out.take 0)) := ho1
              have hsl := HCL.out.size
              have HR1 : Hid (∀ k, R1.ownBlock = some k → w3.heap.size ≤ k ∧ k < w4.heap.size) := fun k hk => ⟨by have := (hb1 k hk).1; omega, (hb1 k hk).2⟩
              have HB9 : Hid (w4.cell? ⟨Bz, 0, none⟩ = some (.int .i64 (x.id))) := (hc1.cell (p := ⟨Bz, 0, none⟩) hBl id).trans HB0.out
              refine hK _ _ (⟨(HC4.out.cell (p := ⟨X, 0, none⟩) hX3 id).trans SK.out.1, (HC4.out.cell (p := ⟨g, i * 7, none⟩) hg3 id).trans SK.out.2⟩) ?_
              clear hK K hr hc1 ho1 hb1 HB0 HQ4 HCL hsl hBl hBz
              apply wpT_one
              focus rfl
              intro K hK
              obtain ⟨R2, w5, hr5, ho5, hc5, ⟨g5, cap5, e5⟩, hb5⟩ := app_push HO1.out (by rw [List.length_take]; omega) HB9.out
              refine step_append_run rfl _ _ 22 rfl rfl _ _ R2 w5 rfl rfl hr5 ?_
              have hs4 := HC4.out.size
              have HC5 : Hid (Ch (fun _ => False) w3 w5) := HC4.out.andThen hc5 (fun k hk hk2 => by have := (HR1.out k hk).1; omega)
              have HO5 : Hid (OI w5 R2 (out.take 0 ++ [x.id])) := ho5
              have HR5 : Hid (∀ k, R2.ownBlock = some k → w3.heap.size ≤ k ∧ k < w5.heap.size) := fun k hk => by
                obtain ⟨h1, h2⟩ := hb5 k hk
                refine ⟨?_, h2⟩
                rcases h1 with h1 | h1
                · exact (HR1.out k h1).1
                · omega
              have HQ5 : Hid (QV w5 (.slice none 0 0) (out.drop 0)) := HQ2.out.ch HC5.out (fun _ _ h => h)
              refine hK _ _ (⟨(HC5.out.cell (p := ⟨X, 0, none⟩) hX3 id).trans SK.out.1, (HC5.out.cell (p := ⟨g, i * 7, none⟩) hg3 id).trans SK.out.2⟩) ?_
              clear hK K hr5 ho5 hc5 hb5 hs4 HC4 HO1 HR1 HB9 e5 g5 cap5 HQ2
              apply wpT_one
              focus rfl
              intro K hK
              obtain ⟨g6, cap6, w6, hr6, ho6, hc6, hb6⟩ := app_cat HO5.out HQ5.out (by rw [List.length_append, List.length_take]; show _ + 1 ≤ _; omega) (by rw [List.length_drop]; omega) (by simp)
              refine step_append_run rfl _ _ 22 rfl rfl _ _ (.slice (some ⟨g6, 0, none⟩) (out.take 0 ++ [x.id] ++ out.drop 0).length cap6) w6 rfl rfl hr6 ?_
              have hs5 := HC5.out.size
              have HC6 : Hid (Ch (fun _ => False) w3 w6) := HC5.out.andThen hc6 (fun k hk hk2 => by have := (HR5.out k hk).1; omega)
              have HO6 := Lib.hid ho6
              have HG6 : Hid (w3.heap.size ≤ g6) := by
                show _ ≤ _
                rcases hb6 with h1 | h1
                · exact (HR5.out g6 h1).1
                · omega
              refine hK _ _ (⟨(HC6.out.cell (p := ⟨X, 0, none⟩) hX3 id).trans SK.out.1, (HC6.out.cell (p := ⟨g, i * 7, none⟩) hg3 id).trans SK.out.2⟩) ?_
              clear hK K hr6 ho6 hc6 hb6 hs5 HO5 HR5 HC5 HQ5
              obtain ⟨n6, hn6⟩ : ∃ m, (out.take 0 ++ [x.id] ++ out.drop 0).length = m := ⟨_, rfl⟩
              simp only [hn6]
              rw [hn6] at HO6
              clear hn6
              iterate 1 (apply wpT_go; (focus rfl); (focus rfl); (focus exact (by exact ⟨(HC6.out.cell (p := ⟨X, 0, none⟩) hX3 id).trans SK.out.1, (HC6.out.cell (p := ⟨g, i * 7, none⟩) hg3 id).trans SK.out.2⟩)); (focus (rintro Q ⟨s0, s1⟩; go_simp; exact rfl)); intro K hK; go_simp; refine hK _ ?_; clear hK K)
              refine wpT_done ?_
              have HB6 : Hid (Below wr.heap.size wr w6) := HB2.out.trans (HC6.out.below HB2.out.size (fun _ h => h.elim))
              have HG7 : Hid (wr.heap.size ≤ g6) := by have := HB2.out.size; have := HG6.out; exact Nat.le_trans ‹_› ‹_›
              clear SK HC6 HG6
              have HOI3 : Hid (∃ out2 : List Int, OI w6 (.slice (some ⟨g6, 0, none⟩) n6 cap6) out2 ∧ out2.length ≤ i + 1 ∧ out2.Pairwise (· < ·) ∧ (∀ id, id ∈ out2 ↔ ∃ x ∈ M.take (i + 1), x.id = id ∧ x.od = true ∧ x.ow = t) ∧ (∀ g, (Value.slice (some ⟨g6, 0, none⟩) n6 cap6).ownBlock = some g → w.heap.size ≤ g) ∧ Below w.heap.size w w6) := by
                have hin := ins_sorted (k := 0) HOO.out.2.1 (by rw [HRN.out]; omega) HL.out (by rw [HRN.out]; first | exact HE9.out | exact .inl rfl) HOO.out.2.2.1
                have hsw := HOO.out.2.2.2.2.size
                refine ⟨_, HO6.out, by rw [List.length_append, List.length_append, List.length_take, List.length_drop, HRN.out]; show _ + 1 + _ ≤ _; omega, hin.1, fun id => by rw [hin.2 id, HMEM.out id], fun g hg => ?_, HOO.out.2.2.2.2.trans (HB6.out.mono hsw)⟩
                have e : g6 = g := by simpa [Value.ownBlock] using hg
                have := HG7.out
                omega
              clear HO6 HB6 HG7 HMEM HOO HRN HC HS0 HL HE9 HB HB2
              go_wp2_with fail
              go_roundw
              case rel => exact ⟨i + 1, _, by omega, rfl, by go_num, HOI3⟩
              case measure => simp [intOf]; omega
          · have HQ1 : Hid (QV wc.drew (.slice (some ⟨gq, 0, none⟩) k rc) (out.take k)) := (HOO.out.1.below HB2.out).takeQ HRN.out hk
            have HQ2 : Hid (QV wc.drew (.slice (if rc = k then some (⟨gq, 0, none⟩ : Addr) else some ⟨gq, k, none⟩) (rn - k) (rc - k)) (out.drop k)) := (HOO.out.1.below HB2.out).dropQ HRN.out hk
            go_wp2_with fail
            refine wp_region_tree (fun Y => Y.cell? ⟨X, 0, none⟩ = some (.slice (some ⟨g, 0, none⟩) L cap) ∧ Y.cell? ⟨g, i * 7, none⟩ = some (.int .i64 x.id)) [] (PT.ls ((0, 0) :: (1, 0) :: (2, 0) :: (4, 0) :: (5, 0) :: (6, 0) :: (7, 0) :: (8, 0) :: (9, 0) :: (10, 0) :: (11, 0) :: (14, 0) :: (15, 0) :: (16, 0) :: []) (.f 3 (PT.ls ((12, 1) :: (13, 1) :: (17, 1) :: (18, 0) :: []) .done) 12 (PT.ls ((3, 1) :: (13, 1) :: (17, 1) :: (18, 0) :: []) .done))) (by kernel_rfl) (by kernel_rfl) (by kernel_rfl) ?_
            unfold PT.ls
            have hX3 : X < wc.drew.heap.size := Nat.lt_of_lt_of_le hXl hwcs
            have hg3 : g < wc.drew.heap.size := Nat.lt_of_lt_of_le hgl hwcs
            generalize wc.drew = w3 at *
            iterate 14 (apply wpT_go; (focus rfl); (focus rfl); (focus exact SK.out); (focus (rintro Q ⟨s0, s1⟩; go_simp; exact rfl)); intro K hK; go_simp; refine hK _ ?_; clear hK K)
            generalize (if rc = k then some (⟨gq, 0, none⟩ : Addr) else some ⟨gq, k, none⟩) = av at *
            apply wpT_fork
            focus rfl
            focus rfl
            · intro K hK
              obtain ⟨R1, wa, hr, ho1, hc1, hb1⟩ := app_copy HQ1.out (by rw [List.length_take]; omega)
              refine step_append_run rfl _ _ 22 rfl rfl _ _ R1 wa rfl rfl hr ?_
              refine hK _ _ (⟨(hc1.cell (p := ⟨X, 0, none⟩) hX3 id).trans SK.out.1, (hc1.cell (p := ⟨g, i * 7, none⟩) hg3 id).trans SK.out.2⟩) ?_
              clear hK K hr
              have cal : Ch (fun _ => False) wa (wa.alloc (.cells #[.int .i64 (x.id)] 3)) := (Ch.refl _ _).alloc _
              have HC4 : Hid (Ch (fun _ => False) w3 (wa.alloc (.cells #[.int .i64 (x.id)] 3))) := hc1.trans cal
              have HO1 : Hid (OI (wa.alloc (.cells #[.int .i64 (x.id)] 3)) R1 (out.take k)) := ho1.ch cal (fun _ _ h => h)
              have HR1 : Hid (∀ k, R1.ownBlock = some k → w3.heap.size ≤ k ∧ k < (wa.alloc (.cells #[.int .i64 (x.id)] 3)).heap.size) := fun k hk => ⟨(hb1 k hk).1, Nat.lt_of_lt_of_le (hb1 k hk).2 cal.size⟩
              have HB9 : Hid ((wa.alloc (.cells #[.int .i64 (x.id)] 3)).cell? ⟨wa.heap.size, 0, none⟩ = some (.int .i64 (x.id))) := Row.cell (Row.new wa 3 #[.int .i64 (x.id)] (fun _ => .int .i64 (x.id)) (fun j hj => by rcases (by simpa using hj : j = 0) with rfl; rfl)) (i := 0) (by simp)
              apply wpT_one
              focus rfl
              intro K hK
              go_simp
              refine hK _ _ (⟨(HC4.out.cell (p := ⟨X, 0, none⟩) hX3 id).trans SK.out.1, (HC4.out.cell (p := ⟨g, i * 7, none⟩) hg3 id).trans SK.out.2⟩) ?_
              clear hK K cal hc1 ho1 hb1 HQ1
              generalize wa.heap.size = Bz at *
              generalize wa.alloc (.cells #[.int .i64 (x.id)] 3) = w4 at *
              apply wpT_one
              focus rfl
              intro K hK
              obtain ⟨R2, w5, hr5, ho5, hc5, ⟨g5, cap5, e5⟩, hb5⟩ := app_push HO1.out (by rw [List.length_take]; omega) HB9.out
              refine step_append_run rfl _ _ 22 rfl rfl _ _ R2 w5 rfl rfl hr5 ?_
              have hs4 := HC4.out.size
              have HC5 : Hid (Ch (fun _ => False) w3 w5) := HC4.out.andThen hc5 (fun k hk hk2 => by have := (HR1.out k hk).1; omega)
              have HO5 : Hid (OI w5 R2 (out.take k ++ [x.id])) := ho5
              have HR5 : Hid (∀ k, R2.ownBlock = some k → w3.heap.size ≤ k ∧ k < w5.heap.size) := fun k hk => by
                obtain ⟨h1, h2⟩ := hb5 k hk
                refine ⟨?_, h2⟩
                rcases h1 with h1 | h1
                · exact (HR1.out k h1).1
                · omega
              have HQ5 : Hid (QV w5 (.slice av (rn - k) (rc - k)) (out.drop k)) := HQ2.out.ch HC5.out (fun _ _ h => h)
              refine hK _ _ (⟨(HC5.out.cell (p := ⟨X, 0, none⟩) hX3 id).trans SK.out.1, (HC5.out.cell (p := ⟨g, i * 7, none⟩) hg3 id).trans SK.out.2⟩) ?_
              clear hK K hr5 ho5 hc5 hb5 hs4 HC4 HO1 HR1 HB9 e5 g5 cap5 HQ2
              apply wpT_one
              focus rfl
              intro K hK
              obtain ⟨g6, cap6, w6, hr6, ho6, hc6, hb6⟩ := app_cat HO5.out HQ5.out (by rw [List.length_append, List.length_take]; show _ + 1 ≤ _; omega) (by rw [List.length_drop]; omega) (by simp)
              refine step_append_run rfl _ _ 22 rfl rfl _ _ (.slice (some ⟨g6, 0, none⟩) (out.take k ++ [x.id] ++ out.drop k).length cap6) w6 rfl rfl hr6 ?_
              have hs5 := HC5.out.size
              have HC6 : Hid (Ch (fun _ => False) w3 w6) := HC5.out.andThen hc6 (fun k hk hk2 => by have := (HR5.out k hk).1; omega)
              have HO6 := Lib.hid ho6
              have HG6 : Hid (w3.heap.size ≤ g6) := by
                show _ ≤ _
                rcases hb6 with h1 | h1
                · exact (HR5.out g6 h1).1
                · omega
              refine hK _ _ (⟨(HC6.out.cell (p := ⟨X, 0, none⟩) hX3 id).trans SK.out.1, (HC6.out.cell (p := ⟨g, i * 7, none⟩) hg3 id).trans SK.out.2⟩) ?_
              clear hK K hr6 ho6 hc6 hb6 hs5 HO5 HR5 HC5 HQ5
              obtain ⟨n6, hn6⟩ : ∃ m, (out.take k ++ [x.id] ++ out.drop k).length = m := ⟨_, rfl⟩
              simp only [hn6]
              rw [hn6] at HO6
              clear hn6
              iterate 1 (apply wpT_go; (focus rfl); (focus rfl); (focus exact (by exact ⟨(HC6.out.cell (p := ⟨X, 0, none⟩) hX3 id).trans SK.out.1, (HC6.out.cell (p := ⟨g, i * 7, none⟩) hg3 id).trans SK.out.2⟩)); (focus (rintro Q ⟨s0, s1⟩; go_simp; exact rfl)); intro K hK; go_simp; refine hK _ ?_; clear hK K)
              refine wpT_done ?_
              have HB6 : Hid (Below wr.heap.size wr w6) := HB2.out.trans (HC6.out.below HB2.out.size (fun _ h => h.elim))
              have HG7 : Hid (wr.heap.size ≤ g6) := by have := HB2.out.size; have := HG6.out; exact Nat.le_trans ‹_› ‹_›
              clear SK HC6 HG6
              have HOI3 : Hid (∃ out2 : List Int, OI w6 (.slice (some ⟨g6, 0, none⟩) n6 cap6) out2 ∧ out2.length ≤ i + 1 ∧ out2.Pairwise (· < ·) ∧ (∀ id, id ∈ out2 ↔ ∃ x ∈ M.take (i + 1), x.id = id ∧ x.od = true ∧ x.ow = t) ∧ (∀ g, (Value.slice (some ⟨g6, 0, none⟩) n6 cap6).ownBlock = some g → w.heap.size ≤ g) ∧ Below w.heap.size w w6) := by
                have hin := ins_sorted (k := k) HOO.out.2.1 (by rw [HRN.out]; omega) HL.out (by rw [HRN.out]; first | exact HE9.out | exact .inl rfl) HOO.out.2.2.1
                have hsw := HOO.out.2.2.2.2.size
                refine ⟨_, HO6.out, by rw [List.length_append, List.length_append, List.length_take, List.length_drop, HRN.out]; show _ + 1 + _ ≤ _; omega, hin.1, fun id => by rw [hin.2 id, HMEM.out id], fun g hg => ?_, HOO.out.2.2.2.2.trans (HB6.out.mono hsw)⟩
                have e : g6 = g := by simpa [Value.ownBlock] using hg
                have := HG7.out
                omega
              clear HO6 HB6 HG7 HMEM HOO HRN HC HS0 HL HE9 HB HB2
              go_wp2_with fail
              go_roundw
              case rel => exact ⟨i + 1, _, by omega, rfl, by go_num, HOI3⟩
              case measure => simp [intOf]; omega
            · intro K hK
              go_simp
              have cal : Ch (fun _ => False) w3 (w3.alloc (.cells #[.int .i64 (x.id)] 3)) := (Ch.refl _ _).alloc _
              have HB0 : Hid ((w3.alloc (.cells #[.int .i64 (x.id)] 3)).cell? ⟨w3.heap.size, 0, none⟩ = some (.int .i64 (x.id))) := Row.cell (Row.new w3 3 #[.int .i64 (x.id)] (fun _ => .int .i64 (x.id)) (fun j hj => by rcases (by simpa using hj : j = 0) with rfl; rfl)) (i := 0) (by simp)
              have HQ4 : Hid (QV (w3.alloc (.cells #[.int .i64 (x.id)] 3)) (.slice (some ⟨gq, 0, none⟩) k rc) (out.take k)) := HQ1.out.ch cal (fun _ _ h => h)
              have HCL := Lib.hid cal
              have hBl : w3.heap.size < (w3.alloc (.cells #[.int .i64 (x.id)] 3)).heap.size := by simp
              refine hK _ _ (⟨(cal.cell (p := ⟨X, 0, none⟩) hX3 id).trans SK.out.1, (cal.cell (p := ⟨g, i * 7, none⟩) hg3 id).trans SK.out.2⟩) ?_
              clear hK K cal HQ1
              generalize w3.alloc (.cells #[.int .i64 (x.id)] 3) = wa at *
              obtain ⟨Bz, hBz⟩ : ∃ B, w3.heap.size = B := ⟨_, rfl⟩
              simp only [hBz]
              rw [hBz] at HB0 hBl
              apply wpT_one
              focus rfl
              intro K hK
              obtain ⟨R1, w4, hr, ho1, hc1, hb1⟩ := app_copy HQ4.out (by rw [List.length_take]; omega)
              refine step_append_run rfl _ _ 22 rfl rfl _ _ R1 w4 rfl rfl hr ?_
              have HC4 : Hid (Ch (fun _ => False) w3 w4) := HCL.out.trans hc1
              have HO1 : Hid (OI w4 R1 (out.take k)) := ho1
              have hsl := HCL.out.size
              have HR1 : Hid (∀ k, R1.ownBlock = some k → w3.heap.size ≤ k ∧ k < w4.heap.size) := fun k hk => ⟨by have := (hb1 k hk).1; omega, (hb1 k hk).2⟩
              have HB9 : Hid (w4.cell? ⟨Bz, 0, none⟩ = some (.int .i64 (x.id))) := (hc1.cell (p := ⟨Bz, 0, none⟩) hBl id).trans HB0.out
              refine hK _ _ (⟨(HC4.out.cell (p := ⟨X, 0, none⟩) hX3 id).trans SK.out.1, (HC4.out.cell (p := ⟨g, i * 7, none⟩) hg3 id).trans SK.out.2⟩) ?_
              clear hK K hr hc1 ho1 hb1 HB0 HQ4 HCL hsl hBl hBz
              apply wpT_one
              focus rfl
              intro K hK
              obtain ⟨R2, w5, hr5, ho5, hc5, ⟨g5, cap5, e5⟩, hb5⟩ := app_push HO1.out (by rw [List.length_take]; omega) HB9.out
              refine step_append_run rfl _ _ 22 rfl rfl _ _ R2 w5 rfl rfl hr5 ?_
              have hs4 := HC4.out.size
              have HC5 : Hid (Ch (fun _ => False) w3 w5) := HC4.out.andThen hc5 (fun k hk hk2 => by have := (HR1.out k hk).1; omega)
              have HO5 : Hid (OI w5 R2 (out.take k ++ [x.id])) := ho5
              have HR5 : Hid (∀ k, R2.ownBlock = some k → w3.heap.size ≤ k ∧ k < w5.heap.size) := fun k hk => by
                obtain ⟨h1, h2⟩ := hb5 k hk
                refine ⟨?_, h2⟩
                rcases h1 with h1 | h1
                · exact (HR1.out k h1).1
                · omega
              have HQ5 : Hid (QV w5 (.slice av (rn - k) (rc - k)) (out.drop k)) := HQ2.out.ch HC5.out (fun _ _ h => h)
              refine hK _ _ (⟨(HC5.out.cell (p := ⟨X, 0, none⟩) hX3 id).trans SK.out.1, (HC5.out.cell (p := ⟨g, i * 7, none⟩) hg3 id).trans SK.out.2⟩) ?_
              clear hK K hr5 ho5 hc5 hb5 hs4 HC4 HO1 HR1 HB9 e5 g5 cap5 HQ2
              apply wpT_one
              focus rfl
              intro K hK
              obtain ⟨g6, cap6, w6, hr6, ho6, hc6, hb6⟩ := app_cat HO5.out HQ5.out (by rw [List.length_append, List.length_take]; show _ + 1 ≤ _; omega) (by rw [List.length_drop]; omega) (by simp)
              refine step_append_run rfl _ _ 22 rfl rfl _ _ (.slice (some ⟨g6, 0, none⟩) (out.take k ++ [x.id] ++ out.drop k).length cap6) w6 rfl rfl hr6 ?_
              have hs5 := HC5.out.size
              have HC6 : Hid (Ch (fun _ => False) w3 w6) := HC5.out.andThen hc6 (fun k hk hk2 => by have := (HR5.out k hk).1; omega)
              have HO6 := Lib.hid ho6
              have HG6 : Hid (w3.heap.size ≤ g6) := by
                show _ ≤ _
                rcases hb6 with h1 | h1
                · exact (HR5.out g6 h1).1
                · omega
              refine hK _ _ (⟨(HC6.out.cell (p := ⟨X, 0, none⟩) hX3 id).trans SK.out.1, (HC6.out.cell (p := ⟨g, i * 7, none⟩) hg3 id).trans SK.out.2⟩) ?_
              clear hK K hr6 ho6 hc6 hb6 hs5 HO5 HR5 HC5 HQ5
              obtain ⟨n6, hn6⟩ : ∃ m, (out.take k ++ [x.id] ++ out.drop k).length = m := ⟨_, rfl⟩
              simp only [hn6]
              rw [hn6] at HO6
              clear hn6
              iterate 1 (apply wpT_go; (focus rfl); (focus rfl); (focus exact (by exact ⟨(HC6.out.cell (p := ⟨X, 0, none⟩) hX3 id).trans SK.out.1, (HC6.out.cell (p := ⟨g, i * 7, none⟩) hg3 id).trans SK.out.2⟩)); (focus (rintro Q ⟨s0, s1⟩; go_simp; exact rfl)); intro K hK; go_simp; refine hK _ ?_; clear hK K)
              refine wpT_done ?_
              have HB6 : Hid (Below wr.heap.size wr w6) := HB2.out.trans (HC6.out.below HB2.out.size (fun _ h => h.elim))
              have HG7 : Hid (wr.heap.size ≤ g6) := by have := HB2.out.size; have := HG6.out; exact Nat.le_trans ‹_› ‹_›
              clear SK HC6 HG6
              have HOI3 : Hid (∃ out2 : List Int, OI w6 (.slice (some ⟨g6, 0, none⟩) n6 cap6) out2 ∧ out2.length ≤ i + 1 ∧ out2.Pairwise (· < ·) ∧ (∀ id, id ∈ out2 ↔ ∃ x ∈ M.take (i + 1), x.id = id ∧ x.od = true ∧ x.ow = t) ∧ (∀ g, (Value.slice (some ⟨g6, 0, none⟩) n6 cap6).ownBlock = some g → w.heap.size ≤ g) ∧ Below w.heap.size w w6) := by
                have hin := ins_sorted (k := k) HOO.out.2.1 (by rw [HRN.out]; omega) HL.out (by rw [HRN.out]; first | exact HE9.out | exact .inl rfl) HOO.out.2.2.1
                have hsw := HOO.out.2.2.2.2.size
                refine ⟨_, HO6.out, by rw [List.length_append, List.length_append, List.length_take, List.length_drop, HRN.out]; show _ + 1 + _ ≤ _; omega, hin.1, fun id => by rw [hin.2 id, HMEM.out id], fun g hg => ?_, HOO.out.2.2.2.2.trans (HB6.out.mono hsw)⟩
                have e : g6 = g := by simpa [Value.ownBlock] using hg
                have := HG7.out
                omega
              clear HO6 HB6 HG7 HMEM HOO HRN HC HS0 HL HE9 HB HB2
              go_wp2_with fail
              go_roundw
              case rel => exact ⟨i + 1, _, by omega, rfl, by go_num, HOI3⟩
              case measure => simp [intOf]; omega
      · have HOI3 := Lib.hid (HOI2.out hb)
        clear HOI2 HOI ho hol hos hom hob hbw hT hx e hod
        cases od
        · clear hb
          go_wp2_with fail
          go_roundw
          case rel => exact ⟨i + 1, vo, by omega, rfl, by go_num, HOI3⟩
          case measure => simp [intOf]; omega
        · have howb : (x.ow == t) = false := by simpa using hb
          clear hb
          go_wp2_with fail
          go_roundw
          case rel => exact ⟨i + 1, vo, by omega, rfl, by go_num, HOI3⟩
          case measure => simp [intOf]; omega
    · have y0 : ¬ (i : Int) < L := by omega
      have HF : Hid (∃ E, E.Pairwise (· < ·) ∧ (∀ id, id ∈ E ↔ ∃ x, s.o id = some x ∧ x.mx = true ∧ 0 < x.ct ∧ x.ow = t) ∧ OI wr vo E ∧ Below w.heap.size w wr) := by
        rw [List.take_of_length_le (by rw [HL.out]; omega)] at hom
        refine ⟨out, hos, fun id => ?_, ho, hbw⟩
        rw [hom id]
        constructor
        · rintro ⟨z, hz, rfl, h1, h2⟩
          obtain ⟨h3, h4⟩ := HO.out.is z hz
          rw [h1] at h4
          have h4 := h4.symm
          rw [Bool.and_eq_true] at h4
          exact ⟨_, h3, h4.1, of_decide_eq_true h4.2, h2⟩
        · rintro ⟨y, h1, h2, h3, h4⟩
          obtain ⟨z, hz, rfl⟩ := HO.out.all id (by rw [h1]; rfl)
          obtain ⟨h5, h6⟩ := HO.out.is z hz
          rw [h1] at h5
          injection h5 with h5
          subst h5
          exact ⟨z, hz, rfl, by rw [h6]; exact Bool.and_eq_true _ _ ▸ ⟨h2, decide_eq_true h3⟩, h4⟩
      clear HOI ho hol hos hom hob hbw
      go_wp2_with fail
      go_ret
      obtain ⟨E, h1, h2, h3, h4⟩ := HF.out
      exact ⟨_, rfl, E, h1, h2, h3, h4⟩
end
end Go.Proofs.Ytefgfmnnaglfmaa
