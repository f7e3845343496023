/- enumerate.Valid. No condition but that the topology lies in memory. -/
import Derived.Test.YtedihfcbpgogoaaJ
import Derived.Test.YtedihfcbpgogoaaMS
namespace Go.Proofs.Ytedihfcbpgogoaa
open Go.RowKit
/-- Function i is valid in its place. -/
structure vI (T : List Fn) (i : Nat) : Prop where
  fn : vF (fAt T i)
  pa : -1 ≤ (fAt T i).pa ∧ (fAt T i).pa < (i : Int)
  br : 0 ≤ (fAt T i).pa → (fAt T (fAt T i).pa.toNat).br = true
  un : ∀ j, j < i → ¬ ((fAt T j).pa = (fAt T i).pa ∧ (fAt T j).sl = (fAt T i).sl)
structure Vld (T : List Fn) : Prop where
  len : T.length ≤ 64
  at' : ∀ i, i < T.length → vI T i
theorem Vld.vt {T : List Fn} (h : Vld T) : VT T where
  sl i hi := (h.at' i hi).fn.head.sl
  sp i hi := (h.at' i hi).fn.head.sp
  pa i hi := (h.at' i hi).pa
  br i hi := (h.at' i hi).br
  un i j hi hj e1 e2 := by
    rcases Nat.lt_trichotomy i j with h1 | h1 | h1
    · exact absurd ⟨e1, e2⟩ ((h.at' j hj).un i h1)
    · exact h1
    · exact absurd ⟨e1.symm, e2.symm⟩ ((h.at' i hi).un j h1)
def seen (T : List Fn) (i : Nat) (x y : Int) : Bool := (List.range i).any fun j => decide ((fAt T j).pa = x ∧ (fAt T j).sl = y)
theorem seen_zero (T : List Fn) : seen T 0 = fun _ _ => false := by funext x y; simp [seen]
theorem seen_succ (T : List Fn) (i : Nat) : seen T (i + 1) = fun x y => decide (x = (fAt T i).pa ∧ y = (fAt T i).sl) || seen T i x y := by
  funext x y
  unfold seen
  rw [List.range_succ, List.any_append, Bool.or_comm]
  simp only [List.any_cons, List.any_nil, Bool.or_false]
  congr 1
  exact decide_eq_decide.2 ⟨fun h => ⟨h.1.symm, h.2.symm⟩, fun h => ⟨h.1.symm, h.2.symm⟩⟩
theorem seen_false {T : List Fn} {i : Nat} {x y : Int} (h : seen T i x y = false) : ∀ j, j < i → ¬ ((fAt T j).pa = x ∧ (fAt T j).sl = y) := by
  unfold seen at h
  rw [List.any_eq_false] at h
  intro j hj
  simpa using h j (by simpa using hj)
theorem seen_true {T : List Fn} {i : Nat} {x y : Int} (h : seen T i x y = true) : ∃ j, j < i ∧ (fAt T j).pa = x ∧ (fAt T j).sl = y := by
  unfold seen at h
  rw [List.any_eq_true] at h
  obtain ⟨j, hj, e⟩ := h
  exact ⟨j, by simpa using hj, by simpa using e⟩
theorem wfF.pa {f : Fn} (h : wfF f) : InI f.pa ∧ InI f.sl := ⟨h.1, h.2.1⟩
set_option maxRecDepth 100000 in
set_option maxHeartbeats 4000000 in
theorem valid_any {w : World} {a : Option Addr} {len cap : Nat} {T : List Fn} (h : FnS w a len cap T) :
    Calls Try.prog 22 #[.slice a len cap] w (VPost (Vld T) w) := by
  have H := Lib.hid h
  obtain ⟨hT, hc, hm⟩ := h.len
  clear h
  have hmm := @run_makeMap Try.prog
  have BN0 : Hid (∀ o : Obj, Below w.heap.size w (w.alloc o)) := fun o => (Below.refl _ _).alloc (Nat.le_refl _) o
  by_cases hl : len ≤ 64
  · have hl2 : ¬ (64 : Int) < len := by omega
    go_enter Try.func22, Try.ntmps22
    go_wp2_with fail
    have M0 : Hid (MSet Try.prog (w.alloc (.map #[] 0)) 71 w.heap.size 0 (seen T 0)) := by rw [seen_zero]; exact MSet.made _ _ _
    have B0 : Hid (Below w.heap.size w (w.alloc (.map #[] 0))) := BN0.out _
    obtain ⟨X, hX⟩ : ∃ X, w.heap.size = X := ⟨_, rfl⟩
    have HX := Lib.hid hX
    rw [hX] at M0 B0 ⊢
    clear hX BN0
    go_loopw [4, 5, 6, 13] (fun _ _ _ z wr => ∃ i : Nat, i ≤ len ∧ z = .int .i64 (i : Int) ∧ Hid (MSet Try.prog wr 71 X i (seen T i)) ∧ Hid (Below X w wr) ∧ Hid (∀ j, j < i → vI T j)) (fun _ _ _ z _ => len - (intOf z).toNat)
    case atStart => exact ⟨0, by omega, rfl, M0, B0, fun j hj => by omega⟩
    case round =>
      clear M0 B0 hmm
      obtain ⟨i, hi, rfl, M, B, HI⟩ := hrel
      by_cases hil : i < len
      · have y1 : (i : Int) < len := by omega
        obtain ⟨b, o, rfl, hb, hwf, hbv, hr⟩ := H.out.at hil
        have hbX : b < X := by rw [← HX.out]; exact hb
        have c : ∀ j u, (cF (fAt T i))[j]? = some u → wr.cell? ⟨b, o + i * 11 + j, none⟩ = some u := fun j u hu => (B.out.cell (p := ⟨b, o + i * 11 + j, none⟩) hbX).trans (rangeAt.cell hr hu)
        have c0 := c 0 _ rfl
        have c1 := c 1 _ rfl
        have c2 := c 2 _ rfl
        have c3 := c 3 _ rfl
        have c4 := c 4 _ rfl
        have c5 := c 5 _ rfl
        have c6 := c 6 _ rfl
        have c7 := c 7 _ rfl
        have c8 := c 8 _ rfl
        have c9 := c 9 _ rfl
        have c10 := c 10 _ rfl
        rw [Nat.add_zero] at c0
        obtain ⟨ab, cb, hbv, hbar⟩ := hbv
        rw [hbv] at c10
        have HB0 : Hid (Below w.heap.size w wr) := by rw [HX.out]; exact B
        have HC : Hid (∀ o, Calls Try.prog 38 #[.agg #[.int .i64 (fAt T i).pa, .int .i64 (fAt T i).sl, .int .i64 (fAt T i).ve, .int .i64 (fAt T i).de, .bool (fAt T i).br, .bool (fAt T i).pf, .bool (fAt T i).hp, .int .i64 (fAt T i).sp, .int .i64 (fAt T i).pn, .int .i64 (fAt T i).vc, .slice ab (fAt T i).ba.length cb]] (wr.alloc o) (VPost (vF (fAt T i)) (wr.alloc o))) := fun o =>
          pvalid_any (SLs.below hbar (HB0.out.trans ((Below.refl _ _).alloc HB0.out.size o)) (Nat.le_refl _))
        have hin := hwf.pa
        have HI2 := Lib.hid (fun (q : vI T i) (j : Nat) (hj : j < i + 1) => (by
          rcases Nat.lt_succ_iff_lt_or_eq.1 hj with h1 | rfl
          · exact HI.out j h1
          · exact q : vI T j))
        have NV : Hid (¬ vI T i → ¬ Vld T) := fun h1 h2 => h1 (h2.at' i (by omega))
        have KV : Hid (vF (fAt T i) → -1 ≤ (fAt T i).pa → (fAt T i).pa < (i : Int) → (0 ≤ (fAt T i).pa → (fAt T (fAt T i).pa.toNat).br = true) → seen T i (fAt T i).pa (fAt T i).sl = false → vI T i) := fun h1 h2 h3 h4 h5 => ⟨h1, ⟨h2, h3⟩, h4, seen_false h5⟩
        have NF : Hid (¬ vF (fAt T i) → ¬ vI T i) := fun h1 h2 => h1 h2.fn
        have NP : Hid (vI T i → -1 ≤ (fAt T i).pa ∧ (fAt T i).pa < (i : Int)) := fun h2 => h2.pa
        have NB : Hid (vI T i → 0 ≤ (fAt T i).pa → (fAt T (fAt T i).pa.toNat).br = true) := fun h2 => h2.br
        have NS : Hid (seen T i (fAt T i).pa (fAt T i).sl = true → ¬ vI T i) := fun h1 h2 => by
          obtain ⟨j, hj, e⟩ := seen_true h1
          exact h2.un j hj e
        have HS := Lib.hid (seen_succ T i)
        have cP : 0 ≤ (fAt T i).pa → (fAt T i).pa < (i : Int) → wr.cell? ⟨b, o + (fAt T i).pa.toNat * 11 + 4, none⟩ = some (.bool (fAt T (fAt T i).pa.toNat).br) := fun h1 h2 => by
          obtain ⟨b', o', e, _, _, _, hr2⟩ := H.out.at (i := (fAt T i).pa.toNat) (by omega)
          injection e with e
          injection e with e1 e2 _
          subst e1 e2
          exact (B.out.cell (p := ⟨b, o + (fAt T i).pa.toNat * 11 + 4, none⟩) hbX).trans (rangeAt.cell hr2 (j := 4) rfl)
        clear c hr hbar hwf
        generalize vI T i = VI at *
        generalize (fAt T (fAt T i).pa.toNat).br = pbr at *
        generalize fAt T i = fi at *
        generalize fi.ba.length = nb at *
        go_wp2_with fail
        refine (HC.out _).mono ?_
        rintro e w1 ⟨bb, rfl, hbb, hb1⟩
        have HBr1 : Hid (Below wr.heap.size wr w1) := ((Below.refl _ _).alloc (Nat.le_refl _) _).trans (hb1.mono (by simp))
        have d0 : w1.cell? ⟨wr.heap.size, 0, none⟩ = some (.int .i64 fi.pa) := (hb1.cell (p := ⟨wr.heap.size, 0, none⟩) (by simp)).trans (cell_of_row _ _ 0 _ _ _ (heap_alloc_new wr _))
        have d1 : w1.cell? ⟨wr.heap.size, 1, none⟩ = some (.int .i64 fi.sl) := (hb1.cell (p := ⟨wr.heap.size, 1, none⟩) (by simp)).trans (cell_of_row _ _ 1 _ _ _ (heap_alloc_new wr _))
        have hz : wr.heap.size < w1.heap.size := by have := hb1.size; simp at this; omega
        have hXr : X < wr.heap.size := M.out.lt
        have B1 : Hid (Below w.heap.size w w1) := HB0.out.trans (HBr1.out.mono HB0.out.size)
        have M1 : Hid (MSet Try.prog w1 71 X i (seen T i)) := M.out.ch (Ch.of_below HBr1.out (fun _ => False)) (fun h => h)
        have e0 : 0 ≤ fi.pa → fi.pa < (i : Int) → w1.cell? ⟨b, o + fi.pa.toNat * 11 + 4, none⟩ = some (.bool pbr) := fun h1 h2 => (HBr1.out.cell (p := ⟨b, o + fi.pa.toNat * 11 + 4, none⟩) (by simp; omega)).trans (cP h1 h2)
        obtain ⟨R, hR⟩ : ∃ R, wr.heap.size = R := ⟨_, rfl⟩
        rw [hR] at d0 d1 hz ⊢
        clear HC c0 c1 c2 c3 c4 c5 c6 c7 c8 c9 c10 hb1 cP hbv
        cases bb
        · have hnv : Hid (¬ Vld T) := NV.out (NF.out (by simpa using hbb))
          clear hbb
          go_wp2_with fail
          go_ret
          exact vno hnv.out B1.out
        · have hvf : Hid (vF fi) := Lib.hid (by simpa using hbb)
          clear hbb
          by_cases p1 : -1 ≤ fi.pa
          · by_cases p2 : fi.pa < (i : Int)
            · have p1' : ¬ fi.pa < -1 := by omega
              have p2' : ¬ (i : Int) ≤ fi.pa := by omega
              have hlen : fi.pa < (len : Int) := by omega
              have M2 : Hid (MSet Try.prog (w1.alloc (.cells #[.int .i64 fi.pa, .int .i64 fi.sl] 71)) 71 X i (seen T i)) := M1.out.ch (Ch.of_below ((Below.refl _ _).alloc (Nat.le_refl _) _) (fun _ => False)) (fun h => h)
              have B2 : Hid (Below w.heap.size w (w1.alloc (.cells #[.int .i64 fi.pa, .int .i64 fi.sl] 71))) := B1.out.alloc B1.out.size _
              by_cases p3 : 0 ≤ fi.pa
              · have e1 := e0 p3 p2
                clear e0
                cases pbr
                · have hnv : Hid (¬ Vld T) := NV.out (fun q => by have := NB.out q p3; cases this)
                  go_wp2_with fail
                  go_ret
                  exact vno hnv.out B1.out
                · have kv : Hid (seen T i fi.pa fi.sl = false → VI) := fun h => KV.out hvf.out p1 p2 (fun h => rfl) h
                  have hL := M2.out.look pk71 Try.underlying68 (zero4 _) hin.1 hin.2
                  obtain ⟨w3, hU, M3, C3⟩ := M2.out.store pk71 Try.underlying68 (by omega) hin.1 hin.2
                  have M4 : Hid (MSet Try.prog w3 71 X (i + 1) (seen T (i + 1))) := by rw [HS.out]; exact M3
                  have B4 : Hid (Below X w w3) := by rw [← HX.out]; exact B2.out.trans (C3.below B2.out.size (fun k hk => by rw [hk, ← HX.out]; exact Nat.le_refl _))
                  clear M3 C3
                  cases hs : seen T i fi.pa fi.sl
                  · have hvi : Hid VI := kv.out hs
                    rw [hs] at hL
                    clear hs
                    go_wp2_with fail
                    go_roundw
                    case rel => exact ⟨i + 1, by omega, by go_num, M4, B4, HI2.out hvi.out⟩
                    case measure => simp [intOf]; omega
                  · have hnv : Hid (¬ Vld T) := NV.out (NS.out hs)
                    rw [hs] at hL
                    clear hs
                    go_wp2_with fail
                    go_ret
                    exact vno hnv.out B2.out
              · clear e0
                have kv : Hid (seen T i fi.pa fi.sl = false → VI) := fun h => KV.out hvf.out p1 p2 (fun h => absurd h p3) h
                have hL := M2.out.look pk71 Try.underlying68 (zero4 _) hin.1 hin.2
                obtain ⟨w3, hU, M3, C3⟩ := M2.out.store pk71 Try.underlying68 (by omega) hin.1 hin.2
                have M4 : Hid (MSet Try.prog w3 71 X (i + 1) (seen T (i + 1))) := by rw [HS.out]; exact M3
                have B4 : Hid (Below X w w3) := by rw [← HX.out]; exact B2.out.trans (C3.below B2.out.size (fun k hk => by rw [hk, ← HX.out]; exact Nat.le_refl _))
                clear M3 C3
                cases hs : seen T i fi.pa fi.sl
                · have hvi : Hid VI := kv.out hs
                  rw [hs] at hL
                  clear hs
                  go_wp2_with fail
                  go_roundw
                  case rel => exact ⟨i + 1, by omega, by go_num, M4, B4, HI2.out hvi.out⟩
                  case measure => simp [intOf]; omega
                · have hnv : Hid (¬ Vld T) := NV.out (NS.out hs)
                  rw [hs] at hL
                  clear hs
                  go_wp2_with fail
                  go_ret
                  exact vno hnv.out B2.out
            · have hnv : Hid (¬ Vld T) := NV.out (fun q => p2 (NP.out q).2)
              have p2' : (i : Int) ≤ fi.pa := by omega
              have p1' : ¬ fi.pa < -1 := by omega
              go_wp2_with fail
              go_ret
              exact vno hnv.out B1.out
          · have hnv : Hid (¬ Vld T) := NV.out (fun q => p1 (NP.out q).1)
            have p1' : fi.pa < -1 := by omega
            go_wp2_with fail
            go_ret
            exact vno hnv.out B1.out
      · have y1 : ¬ (i : Int) < len := by omega
        have hv : Hid (Vld T) := ⟨by omega, fun j hj => HI.out j (by omega)⟩
        go_wp2_with fail
        go_ret
        exact vyes hv.out (by rw [HX.out]; exact B.out)
  · have hl2 : (64 : Int) < len := by omega
    have hv : Hid (¬ Vld T) := fun h => hl (by have := h.len; omega)
    go_enter Try.func22, Try.ntmps22
    go_wp2_with fail
    go_ret
    exact vno hv.out (Below.refl _ _)
end Go.Proofs.Ytedihfcbpgogoaa
