/- slices.Repeat of one string; a new flash. Condition: sizes. -/
import Derived.Test.YtfglopkglnpokaaG
import Derived.Test.YtfglopkglnpokaaSi
import Derived.Laws.MakeOwn
namespace Go.Proofs.Ytfglopkglnpokaa
open Go.RowKit
theorem Ch.setAll {C : Nat → Prop} {a : World} {B : Nat} (hC : B < a.heap.size → C B) : ∀ (vs : List Value) (o : Nat) (w : World), Ch C a w → Ch C a (w.setCells B o vs)
  | [], _, _, h => h
  | u :: r, o, _, h => Ch.setAll hC r (o + 1) _ (h.setCell (p := ⟨B, o, none⟩) hC u)
theorem Rg.fill {B t N : Nat} (u : Value) : ∀ (m k : Nat) (w : World) (v : Nat → Value), Rg w B t N v → k + m ≤ N → Rg (w.setCells B k (List.replicate m u)) B t N (fun i => if k ≤ i ∧ i < k + m then u else v i)
  | 0, k, w, v, h, _ => h.congr fun i _ => by rw [if_neg (by omega)]
  | m + 1, k, w, v, h, hk => by
    have := Rg.fill u m (k + 1) _ _ (h.set (i := k) (by omega) u) (by omega)
    refine Rg.congr this fun i _ => ?_
    by_cases e : i = k
    · subst e
      rw [if_neg (by omega), upd_hit, if_pos (by omega)]
    · rw [upd_miss _ _ e]
      by_cases e2 : k ≤ i ∧ i < k + (m + 1)
      · rw [if_pos (by omega), if_pos e2]
      · rw [if_neg (by omega), if_neg e2]
theorem Try.infoS : (Try.prog.info? 9).map (fun i => (i.zero, i.size, i.bytes)) = some (some (.string ⟨#[]⟩), 1, 16) := by kernel_rfl
theorem Rg.made (w : World) (t n : Nat) (z : Value) (hz : z.cells = #[z]) : Rg (w.alloc (.cells (madeCells z.cells n) t)) w.heap.size t n (fun _ => z) := by
  refine ⟨_, heap_alloc_new w _, fun i hi => ?_⟩
  rw [hz]
  have : i % 1 = 0 := Nat.mod_one i
  simp [madeCells, hi, this]
set_option maxRecDepth 100000 in
set_option maxHeartbeats 4000000 in
theorem repeat_any (w : World) (bx : Nat) (s : ByteArray) (n : Nat) (hn : 1 ≤ n ∧ n ≤ 32) (hbx : bx < w.heap.size) (hc : w.cell? ⟨bx, 0, none⟩ = some (.string s)) :
    Calls Try.prog 44 #[.slice (some ⟨bx, 0, none⟩) 1 1, .int .i64 n] w fun e w' => ∃ g, e = .returned (.slice (some ⟨g, 0, none⟩) n n) ∧ w.heap.size ≤ g ∧ Rg w' g 9 n (fun _ => .string s) ∧ Below w.heap.size w w' := by
  obtain ⟨i0, hi0, hx0, hx1, hx2⟩ := info_parts Try.infoS
  have HM := Lib.hid (Try.bits_Mul 1 n (by omega) (by omega) w)
  have e1 : 1 * n / 18446744073709551616 = 0 := by omega
  have e2 : 1 * n % 18446744073709551616 = n := by omega
  rw [e1, e2] at HM
  have hmk : (Instr.makeSlice 71 (.int .i64 (n : Int)) (.int .i64 (n : Int))).run Try.prog w = .ok (.slice (some ⟨w.heap.size, 0, none⟩) n n) (w.alloc (.cells (madeCells (Value.string ⟨#[]⟩).cells n) 9)) := by
    have := run_make (P := Try.prog) w 71 9 i0 (.string ⟨#[]⟩) Try.underlying71 hi0 hx0 .i64 .i64 (n : Int) (n : Int) (by omega) (by omega) (by rw [hx2]; omega) (by omega)
    rw [hx1] at this
    simpa using this
  obtain ⟨w1, hw1⟩ : ∃ w1, w.alloc (.cells (madeCells (Value.string ⟨#[]⟩).cells n) 9) = w1 := ⟨_, rfl⟩
  have R1 := Rg.made w 9 n (.string ⟨#[]⟩) rfl
  have B1 : Below w.heap.size w w1 := by rw [← hw1]; exact (Below.refl _ _).alloc (Nat.le_refl _) _
  rw [hw1] at R1 hmk
  have hcx : w1.cell? ⟨bx, 0, none⟩ = some (.string s) := (B1.cell (p := ⟨bx, 0, none⟩) hbx).trans hc
  obtain ⟨g, hg⟩ : ∃ g, w.heap.size = g := ⟨_, rfl⟩
  rw [hg] at R1 hmk
  have hr0 : (Builtin.copy_ #[71, 71] 3 #[.slice (some ⟨g, 0, none⟩) n n, .slice (some ⟨bx, 0, none⟩) 1 1]).run Try.prog w1 = .ok (goInt 1) (w1.setCells g 0 [.string s]) :=
    run_copy_cells (P := Try.prog) w1 71 71 3 9 g 0 n n ⟨bx, 0, none⟩ 1 1 [.string s] Try.underlying71 (by rw [hi0]; simp [hx1]) (show 1 = Nat.min 1 n from (Nat.min_eq_left (by omega)).symm) (fun j v hv => by
      have hj : j = 0 := by have := (List.getElem?_eq_some_iff.1 hv).1; simpa using this
      subst hj
      simp at hv
      subst hv
      rw [Addr.add_mid]
      exact hcx) (fun j hj => by
      have hj : j = 0 := by simpa using hj
      subst hj
      rw [R1.cell (i := 0 + 0) (by omega)]; rfl) (fun j hj => R1.frozen _) (by simp [Value.oneCell'])
  have HR0 : Hid (Rg (w1.setCells g 0 [.string s]) g 9 n (fun i => if i < 1 then .string s else .string ⟨#[]⟩)) := by
    have := Rg.fill (.string s) 1 0 w1 _ R1 (by omega)
    exact this.congr fun i _ => by
      by_cases e : i < 1
      · rw [if_pos (by omega), if_pos e]
      · rw [if_neg (by omega), if_neg e]
  have HB0 : Hid (Below g w (w1.setCells g 0 [.string s])) := by
    have hb := B1
    rw [hg] at hb
    exact hb.trans ((Ch.setAll (C := fun k => k = g) (fun _ => rfl) _ _ _ (Ch.refl _ w1)).below (by have := hb.size; omega) (fun k hk => by omega))
  clear hcx B1 R1
  go_enter Try.func44, Try.ntmps44
  go_wp2_with fail
  refine HM.out.mono ?_
  rintro e w2 ⟨rfl, rfl⟩
  go_wp2_with fail
  clear hr0 hmk hw1 HM hc
  generalize w1.setCells g 0 [.string s] = w3 at *
  go_loopw [8] (fun z wr => ∃ k : Nat, 1 ≤ k ∧ k ≤ n ∧ z = .int .i64 (k : Int) ∧ Hid (Rg wr g 9 n (fun i => if i < k then .string s else .string ⟨#[]⟩)) ∧ Hid (Below g w2 wr)) (fun z _ => n - (intOf z).toNat)
  case atStart => exact ⟨1, by omega, by omega, rfl, HR0, HB0⟩
  case round =>
    clear HR0 HB0
    obtain ⟨k, hk1, hkn, rfl, HR, HB⟩ := hrel
    by_cases hk : k < n
    · have y0 : (k : Int) < n := by omega
      obtain ⟨m, hm, hm1⟩ : ∃ m : Nat, Nat.min k (n - k) = m ∧ 1 ≤ m := ⟨_, rfl, Nat.le_min.2 ⟨hk1, by omega⟩⟩
      have hmk2 : m ≤ k ∧ m ≤ n - k := by rw [← hm]; exact ⟨Nat.min_le_left _ _, Nat.min_le_right _ _⟩
      have hrd : Rg wr.drew g 9 n (fun i => if i < k then .string s else .string ⟨#[]⟩) := HR.out.ch ((Ch.refl (fun _ => False) wr).drew) id
      have hrc : (Builtin.copy_ #[71, 71] 3 #[.slice (some ⟨g, k, none⟩) (n - k) (n - k), .slice (some ⟨g, 0, none⟩) k n]).run Try.prog wr.drew = .ok (goInt m) (wr.drew.setCells g k (List.replicate m (.string s))) := by
        have := run_copy_cells (P := Try.prog) wr.drew 71 71 3 9 g k (n - k) (n - k) ⟨g, 0, none⟩ k n (List.replicate m (.string s)) Try.underlying71 (by rw [hi0]; simp [hx1]) (by rw [List.length_replicate]; exact hm.symm) (fun j v hv => by
          have hj : j < m := by have := (List.getElem?_eq_some_iff.1 hv).1; simpa using this
          rw [List.getElem?_replicate, if_pos hj] at hv
          rw [Addr.add_mid, Nat.zero_add, hrd.cell (i := j) (by omega), if_pos (by omega)]
          exact hv) (fun j hj => by
          rw [List.length_replicate] at hj
          rw [hrd.cell (i := k + j) (by omega)]; rfl) (fun j hj => hrd.frozen _) (by intro v hv; rw [List.eq_of_mem_replicate hv]; rfl)
        rw [List.length_replicate] at this
        exact this
      have HR2 : Hid (Rg (wr.drew.setCells g k (List.replicate m (.string s))) g 9 n (fun i => if i < k + m then .string s else .string ⟨#[]⟩)) := by
        have := Rg.fill (.string s) m k wr.drew _ hrd (by omega)
        exact this.congr fun i _ => by
          by_cases e : k ≤ i ∧ i < k + m
          · rw [if_pos e, if_pos (by omega)]
          · rw [if_neg e]
            by_cases e2 : i < k
            · rw [if_pos e2, if_pos (by omega)]
            · rw [if_neg e2, if_neg (by omega)]
      have HB2 : Hid (Below g w2 (wr.drew.setCells g k (List.replicate m (.string s)))) := by
        have hs := HB.out.size
        exact HB.out.trans ((Ch.setAll (C := fun k => k = g) (fun _ => rfl) _ _ _ ((Ch.refl _ wr).drew)).below (by omega) (fun k hk => by omega))
      have hnk : ¬ n = k := by omega
      have hwr : IntKind.i64.wrap ((k : Int) + (m : Int)) = (k : Int) + (m : Int) := IntWalk.i64_in _ ⟨by omega, by omega⟩
      have hg1 : goInt (m : Int) = .int .i64 (m : Int) := rfl
      rw [hg1] at hrc
      clear hm hrd HR HB hg1
      go_wp2_with fail
      refine wp_region_pl (fun _ => True) ((0, 0) :: (1, 0) :: (2, 0) :: (3, 0) :: (4, 0) :: (5, 0) :: (6, 0) :: (7, 1) :: (8, 0) :: (9, 0) :: []) (by kernel_rfl) (by kernel_rfl) ?_
      iterate 7 (apply wpP_go; (focus rfl); (focus rfl); (focus exact trivial); (focus (rintro Z _; go_simp; exact rfl)); intro K hK; go_simp; refine hK _ ?_; clear hK K)
      apply wpP_one
      focus rfl
      intro K hK
      go_simp
      refine hK _ _ trivial ?_
      clear hK K
      iterate 2 (apply wpP_go; (focus rfl); (focus rfl); (focus exact trivial); (focus (rintro Z _; go_simp; exact rfl)); intro K hK; go_simp; refine hK _ ?_; clear hK K)
      refine wpP_done ?_
      clear hrc
      generalize wr.drew.setCells g k (List.replicate m (.string s)) = V at *
      go_wp2_with fail
      go_roundw
      case rel => exact ⟨k + m, by omega, by omega, by go_num, HR2, HB2⟩
      case measure => simp [intOf]; omega
    · have y0 : ¬ (k : Int) < n := by omega
      have ek : k = n := by omega
      subst ek
      go_wp2_with fail
      go_ret
      exact ⟨g, rfl, by omega, HR.out.congr fun i hi => by rw [if_pos hi], HB.out⟩
end Go.Proofs.Ytfglopkglnpokaa
