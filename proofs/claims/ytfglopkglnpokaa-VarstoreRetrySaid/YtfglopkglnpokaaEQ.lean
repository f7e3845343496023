/- help.Equal at variables. No condition but sizes. -/
import Derived.Test.YtfglopkglnpokaaLF
import Derived.Laws.StructEq
namespace Go.Proofs.Ytfglopkglnpokaa
open Go.RowKit
theorem fieldsV : (Try.prog.fieldsOf 51).toList.map (fun f => (f.type, f.offset)) = [(9, 0), (9, 1)] := by kernel_rfl
theorem namesV : ((Try.prog.fieldsOf 51).toList.all fun f => f.name != "_") = true := by kernel_rfl
theorem underV : Try.prog.underlying 51 = some (.struct (Try.prog.fieldsOf 51)) := by kernel_rfl
theorem partV (a b : Value) (w : World) : Sem.run Try.prog (part 9 #[a, b] 0) w = .ok a w ∧ Sem.run Try.prog (part 9 #[a, b] 1) w = .ok b w := by
  constructor <;> kernel_rfl
theorem neV (a b c d : ByteArray) (w : World) : (binOp .neq 51 (.agg #[.string a, .string b]) (.agg #[.string c, .string d])).run Try.prog w = .ok (.bool (!(a.toList == c.toList && b.toList == d.toList))) w := by
  have h : Sem.run Try.prog (Op.equalIn 10000 51 (.agg #[.string a, .string b]) (.agg #[.string c, .string d])) w = .ok (a.toList == c.toList && b.toList == d.toList) w := by
    rw [run_equalIn_struct w 9999 51 _ _ underV (by kernel_rfl)]
    have h9 : ∀ x y : ByteArray, Sem.run Try.prog (Op.equalIn 9999 9 (.string x) (.string y)) w = .ok (x.toList == y.toList) w := fun x y => run_equalIn_string w 9998 9 x y Try.underlying9
    have hf := fieldsV
    have hn := namesV
    obtain ⟨p0, p1⟩ := partV (.string a) (.string b) w
    obtain ⟨r0, r1⟩ := partV (.string c) (.string d) w
    generalize (Try.prog.fieldsOf 51).toList = fs at hf hn ⊢
    rcases fs with _ | ⟨f0, _ | ⟨f1, _ | ⟨f2, r⟩⟩⟩
    · simp at hf
    · simp at hf
    · simp only [List.map_cons, List.map_nil, List.cons.injEq, Prod.mk.injEq, and_true] at hf
      simp only [List.all_cons, List.all_nil, Bool.and_true, Bool.and_eq_true, bne_iff_ne, ne_eq] at hn
      obtain ⟨⟨t0, o0⟩, t1, o1⟩ := hf
      obtain ⟨n0, n1⟩ := hn
      cases e1 : (a.toList == c.toList) <;> cases e2 : (b.toList == d.toList) <;> simp [Op.eqFields, n0, n1, t0, t1, o0, o1, p0, p1, r0, r1, h9, e1, e2]
    · simp at hf
  rw [run_neq_struct, h]; rfl
section
variable {w : World} {a1 a2 : Option Addr} {c1 c2 L1 L2 : Nat} {V1 V2 : Vars}
theorem getD_ext {V1 V2 : Vars} (hl : V1.length = V2.length) (h : ∀ j, j < V1.length → V1.getD j ([], []) = V2.getD j ([], [])) : V1 = V2 := by
  apply List.ext_getElem hl
  intro i h1 h2
  have := h i h1
  rw [List.getD_eq_getElem?_getD, List.getD_eq_getElem?_getD, List.getElem?_eq_getElem h1, List.getElem?_eq_getElem h2] at this
  exact this
set_option maxRecDepth 100000 in
set_option maxHeartbeats 1000000 in
theorem equalV_any (h1 : VS w a1 c1 V1) (h2 : VS w a2 c2 V2) (hL1 : V1.length = L1) (hL2 : V2.length = L2) : Calls Try.prog 24 #[.slice a1 L1 c1, .slice a2 L2 c2] w fun e w' => e = .returned (.bool (decide (V1 = V2))) ∧ Ch (fun _ => False) w w' := by
  have H1 := Lib.hid h1
  have H2 := Lib.hid h2
  have HL1 := Lib.hid hL1
  have HL2 := Lib.hid hL2
  have hm : L1 ≤ maxLen := by have := h1.1; have := h1.2.1; omega
  unfold maxLen at hm
  have HC0 : Hid (Ch (fun _ => False) w w) := Ch.refl _ _
  clear h1 h2 hL1 hL2
  by_cases hne : L1 = L2
  · subst hne
    go_enter Try.func24, Try.ntmps24
    go_wp2_with fail
    go_loopw [5] (fun z wr => ∃ i : Nat, i ≤ L1 ∧ z = .int .i64 (i : Int) ∧ Hid (∀ j, j < i → V1.getD j ([], []) = V2.getD j ([], [])) ∧ Hid (Ch (fun _ => False) w wr)) (fun z _ => L1 - (intOf z).toNat)
    case atStart => exact ⟨0, by omega, rfl, fun j hj => by omega, HC0⟩
    case round =>
      clear HC0
      obtain ⟨i, hi, rfl, HJ, HC⟩ := hrel
      by_cases hlt : i < L1
      · have y0 : (i : Int) < L1 := by omega
        have i1 : i < V1.length := by rw [HL1.out]; exact hlt
        have i2 : i < V2.length := by rw [HL2.out]; exact hlt
        obtain ⟨g1, rfl, _, k1⟩ := (H1.out.ch HC.out (fun _ _ h => h)).2.2 (by intro e; rw [e] at i1; cases i1)
        obtain ⟨g2, rfl, _, k2⟩ := (H2.out.ch HC.out (fun _ _ h => h)).2.2 (by intro e; rw [e] at i2; cases i2)
        obtain ⟨p, hp⟩ : ∃ p, V1.getD i ([], []) = p := ⟨_, rfl⟩
        obtain ⟨q, hq⟩ : ∃ q, V2.getD i ([], []) = q := ⟨_, rfl⟩
        have x0 := (k1 i i1).1
        have x1 := (k1 i i1).2
        have z0 := (k2 i i2).1
        have z1 := (k2 i i2).2
        rw [hp] at x0 x1
        rw [hq] at z0 z1
        obtain ⟨pa, hpa⟩ : ∃ s : ByteArray, s = ⟨p.1.toArray⟩ := ⟨_, rfl⟩
        obtain ⟨pb, hpb⟩ : ∃ s : ByteArray, s = ⟨p.2.toArray⟩ := ⟨_, rfl⟩
        obtain ⟨qa, hqa⟩ : ∃ s : ByteArray, s = ⟨q.1.toArray⟩ := ⟨_, rfl⟩
        obtain ⟨qb, hqb⟩ : ∃ s : ByteArray, s = ⟨q.2.toArray⟩ := ⟨_, rfl⟩
        have HPQ : Hid (p = (pa.data.toList, pb.data.toList) ∧ q = (qa.data.toList, qb.data.toList)) := by rw [hpa, hpb, hqa, hqb]; exact ⟨rfl, rfl⟩
        rw [show str p.1 = .string pa by rw [hpa]] at x0
        rw [show str p.2 = .string pb by rw [hpb]] at x1
        rw [show str q.1 = .string qa by rw [hqa]] at z0
        rw [show str q.2 = .string qb by rw [hqb]] at z1
        have S1 : Hid (wr.drew.cell? ⟨g1, i * 2, none⟩ = some (.string pa) ∧ wr.drew.cell? ⟨g1, i * 2 + 1, none⟩ = some (.string pb) ∧ wr.drew.cell? ⟨g2, i * 2, none⟩ = some (.string qa) ∧ wr.drew.cell? ⟨g2, i * 2 + 1, none⟩ = some (.string qb)) := ⟨x0, x1, z0, z1⟩
        have HC2 : Hid (Ch (fun _ => False) w wr.drew) := HC.out.drew
        have hnv := fun W => neV pa pb qa qb W
        obtain ⟨bb, hbb⟩ : ∃ b, (!(pa.toList == qa.toList && pb.toList == qb.toList)) = b := ⟨_, rfl⟩
        have HEQ : Hid (bb = false ↔ p = q) := by
          show _ ↔ _
          rw [← hbb, HPQ.out.1, HPQ.out.2]
          simp only [ByteArray.toList_eq, Bool.not_eq_false', Bool.and_eq_true, beq_iff_eq, Prod.mk.injEq]
        rw [hbb] at hnv
        clear k1 k2 x0 x1 z0 z1 hpa hpb hqa hqb hbb HC
        go_wp2_with fail
        refine wp_region_pl (fun Y => Y.cell? ⟨g1, i * 2, none⟩ = some (.string pa) ∧ Y.cell? ⟨g1, i * 2 + 1, none⟩ = some (.string pb) ∧ Y.cell? ⟨g2, i * 2, none⟩ = some (.string qa) ∧ Y.cell? ⟨g2, i * 2 + 1, none⟩ = some (.string qb)) ((0, 0) :: (1, 0) :: (2, 0) :: (3, 0) :: (4, 0) :: (5, 0) :: (6, 0) :: (7, 0) :: (8, 0) :: []) (by kernel_rfl) (by kernel_rfl) ?_
        iterate 9 (apply wpP_go; (focus rfl); (focus rfl); (focus exact S1.out); (focus (rintro Q ⟨s0, s1, s2, s3⟩; go_simp; exact rfl)); intro K hK; go_simp; refine hK _ ?_; clear hK K)
        refine wpP_done ?_
        clear S1 hnv
        generalize wr.drew = w9 at *
        cases bb
        · have HJ2 : Hid (∀ j, j < i + 1 → V1.getD j ([], []) = V2.getD j ([], [])) := fun j hj => by
            rcases (by omega : j < i ∨ j = i) with e | e
            · exact HJ.out j e
            · rw [e, hp, hq]; exact HEQ.out.1 rfl
          clear hp hq
          go_wp2_with fail
          go_roundw
          case rel => exact ⟨i + 1, by omega, by go_num, HJ2, HC2⟩
          case measure => simp [intOf]; omega
        · have hn : decide (V1 = V2) = false := by
            rw [decide_eq_false_iff_not]
            intro e
            rw [e, hq] at hp
            have := HEQ.out.2 hp.symm
            cases this
          clear hp hq
          go_wp2_with fail
          go_ret
          rw [hn]
          exact ⟨rfl, HC2.out⟩
      · have hy : decide (V1 = V2) = true := by
          rw [decide_eq_true_eq]
          exact getD_ext (by rw [HL1.out, HL2.out]) fun j hj => HJ.out j (by rw [HL1.out] at hj; omega)
        have y0 : ¬ (i : Int) < L1 := by omega
        go_wp2_with fail
        go_ret
        exact ⟨rfl, HC.out⟩
  · have hI : ((L1 : Int) != (L2 : Int)) = true := by rw [bne_iff_ne]; omega
    have hI2 : ¬ (L1 : Int) = (L2 : Int) := by omega
    have hn : decide (V1 = V2) = false := by
      rw [decide_eq_false_iff_not]
      intro e
      exact hne (by rw [← HL1.out, ← HL2.out, e])
    go_enter Try.func24, Try.ntmps24
    go_wp2_with fail
    go_ret
    rw [hn]
    exact ⟨rfl, HC0.out⟩
end
end Go.Proofs.Ytfglopkglnpokaa
