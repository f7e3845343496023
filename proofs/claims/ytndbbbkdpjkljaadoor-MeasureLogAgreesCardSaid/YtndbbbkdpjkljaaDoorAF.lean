/- Measure in the program and in the reference, with the blocks that it may change. Condition: digests of bytes; sizes. -/
import Derived.Test.YtndbbbkdpjkljaaDoorAB
namespace Go.Proofs.YtndbbbkdpjkljaaDoor
open Go.RowKit

/-- The blocks of a log: its own and that of its events. -/
def FP (B : Nat) (v : Value) (k : Nat) : Prop := k = B ∨ v.ownBlock = some k
def LOGN (w0 : World) (v0 : Value) (w : World) (base B : Nat) (es : List Ev) : Prop := base ≤ B ∧ ∃ v, LG w B (regs es) v ∧ w.ownsRow base 45 34 v es.length (evs es) ∧ ∀ g, v.ownBlock = some g → v0.ownBlock = some g ∨ w0.heap.size ≤ g
def RLOGN (w0 : World) (v0 : Value) (w : World) (base B : Nat) (es : List Ev) : Prop := base ≤ B ∧ ∃ v, Row w B 73 1 (fun _ => v) ∧ w.ownsRow base 45 34 v es.length (evs es) ∧ ∀ g, v.ownBlock = some g → v0.ownBlock = some g ∨ w0.heap.size ≤ g
theorem own_new {w0 : World} {v0 : Value} {g n cap : Nat} (h : v0.ownBlock = some g ∨ w0.heap.size ≤ g) : ∀ k, (Value.slice (some ⟨g, 0, none⟩) n cap).ownBlock = some k → v0.ownBlock = some k ∨ w0.heap.size ≤ k := fun k hk => by
  have e : g = k := by simpa [Value.ownBlock] using hk
  rw [← e]; exact h
section
attribute [local go_sem ↓] Go.wp_at_zero Go.wp_at_succ build45 slice46 load26 store26
attribute [local go_sem] bldV slcV
set_option maxRecDepth 100000 in
set_option maxHeartbeats 3200000 in
theorem measure_okF (base B r : Nat) (es : List Ev) (t s : ByteArray) (w : World) (hr : r < 8) (ht : t.size ≤ 64) (hes : es.length < 256) (hs : s.size ≤ 1073741824) (hR : Rnd w) (h0 : 0 < base) (v : Value) (hbB : base ≤ B) (hL : LG w B (regs es) v) (hO : w.ownsRow base 45 34 v es.length (evs es)) :
    Calls Tryd.prog 24 #[.pointer (some ⟨B, 0, none⟩), .int .i64 (r : Int), .string t, .string s] w fun e w' => e = .returned (.int .i64 0) ∧ LOGN w v w' base B (es ++ [⟨r, sumD s.data.toList, t⟩]) ∧ Ch (FP B v) w w' := by
  obtain ⟨va, vc, rfl⟩ := own_len hO
  have hBl := hL.lt
  have h00 : 0 < w.heap.size := by omega
  have c256 : w.cell? ⟨B, 256, none⟩ = some (.slice va es.length vc) := Row.cell hL (i := 256) (by omega)
  have hlen : (es.length : Int) < 256 := by omega
  have d1 : decide ((t.size : Int) > 64) = false := by simp; omega
  have d2 : decide ((es.length : Int) ≥ 256) = false := by simp; omega
  have HL := Lib.hid hL
  have HO := Lib.hid hO
  have HR := Lib.hid hR
  clear hL hO hR
  go_enter Tryd.func24, Tryd.ntmps24
  go_wp2_with (first | (go_at_call 39; refine (isreg_yes r _ hr).mono ?_; rintro e w1 ⟨rfl, rfl⟩) | (go_at_call 15; refine (sum_any s _ hs HR.out (by omega)).mono ?_; rintro e w1 ⟨rfl, hb⟩; have HB := Lib.hid hb; clear hb) | (rw [zz32]; refine wpList_store_mid rfl 26 _ _ rfl w1.heap.size 0 (arr 32 (b8 (sumD s.data.toList))) rfl rfl (by exact (Row.ofList w1 26 (arr 32 zb) zb 32 rfl).there) (by kernel_rfl) (by kernel_rfl) ?_))
  have hbs := HB.out.size
  have DR : Row ((w1.alloc (.cells (arr 32 zb) 26)).setCells w1.heap.size 0 (arr 32 (b8 (sumD s.data.toList))).toList) w1.heap.size 26 32 (b8 (sumD s.data.toList)) := Row.setWhole (Row.ofList w1 26 (arr 32 zb) zb 32 rfl)
  have hBW : Below w.heap.size w ((w1.alloc (.cells (arr 32 zb) 26)).setCells w1.heap.size 0 (arr 32 (b8 (sumD s.data.toList))).toList) := Below.setAll (by omega) _ _ _ (HB.out.alloc (by omega) _)
  have hsz : w1.heap.size < ((w1.alloc (.cells (arr 32 zb) 26)).setCells w1.heap.size 0 (arr 32 (b8 (sumD s.data.toList))).toList).heap.size := DR.lt
  generalize (w1.alloc (.cells (arr 32 zb) 26)).setCells w1.heap.size 0 (arr 32 (b8 (sumD s.data.toList))).toList = W at DR hBW hsz ⊢
  generalize hT : w1.heap.size = T at DR hsz hbs ⊢
  clear hT HB w1
  have hBlt := HL.out.lt
  have L2 : LG W B (regs es) (.slice va es.length vc) := HL.out.below hBW hBlt
  have O2 : W.ownsRow base 45 34 (.slice va es.length vc) es.length (evs es) := HO.out.kept (row := none) ⟨hBW.os, hBW.tape, hBW.output, hBW.size, fun k hk _ => hBW.block k hk⟩ (by cases hv : (Value.slice va es.length vc).ownBlock <;> simp)
  generalize hD : sumD s.data.toList = D at DR ⊢
  have hcs : (arr 32 (b8 D)).toList.length = 32 := by simp [arr]
  have hc1 : ∀ u ∈ (arr 32 (b8 D)).toList, u.oneCell' = true := fun u hu => by
    simp only [arr, List.mem_map] at hu; obtain ⟨i, _, rfl⟩ := hu; rfl
  obtain ⟨cs, hcsd⟩ : ∃ cs, cs = (arr 32 (b8 D)).toList := ⟨_, rfl⟩
  have rT : W.rangeAt T 0 cs := by
    intro j u hu
    rw [hcsd] at hu
    have hj : j < 32 := by have := (List.getElem?_eq_some_iff.1 hu).1; rw [hcs] at this; exact this
    have : u = b8 D j := by simpa [arr, hj] using hu.symm
    rw [this, Nat.zero_add, Row.cell DR hj]
  rw [← hcsd] at hcs hc1
  have hu26 := Tryd.underlying26
  have hi26 : (Tryd.prog.info? 26).map (·.size) = some cs.length := by rw [hcs]; kernel_rfl
  have e256 : W.cell? ⟨B, 256, none⟩ = some (.slice va es.length vc) := Row.cell L2 (i := 256) (by omega)
  have f256 : W.frozen? ⟨B, 256, none⟩ = false := Row.frozen L2 256
  have hne : (Value.slice va es.length vc).ownBlock ≠ some B := own_ne O2 L2 (by decide)
  have hneT : (Value.slice va es.length vc).ownBlock ≠ some T := own_ne O2 DR (by decide)
  have HO2 := Lib.hid O2
  have HL2 := Lib.hid L2
  have HDR := Lib.hid DR
  have HBW := Lib.hid hBW
  have HD := Lib.hid hD
  have Hcsd := Lib.hid hcsd
  have lB : B < W.heap.size := L2.lt
  clear O2 L2 DR hBW hD hcsd c256 HO HL
  obtain ⟨i0, hi0, hz0, hz1, hz2⟩ := info_parts Tryd.info45
  have hnews : ∀ (W' : World) (X : Nat), W'.heap[X]? = some (.cells (.int .i64 (r : Int) :: (cs ++ [.string t])).toArray 45) → ∀ j u, (Value.int .i64 (r : Int) :: (cs ++ [.string t]))[j]? = some u → W'.cell? ((⟨X, 0, none⟩ : Addr).add j) = some u := fun W' X h j u hu => World.news_of_block h j u (by simpa using hu)
  have hone : ∀ u ∈ (Value.int .i64 (r : Int) :: (cs ++ [.string t])), u.oneCell' = true := fun u hu => by
    rcases List.mem_cons.1 hu with rfl | hu
    · rfl
    rcases List.mem_append.1 hu with hu | hu
    · exact hc1 u hu
    · rw [List.mem_singleton.1 hu]; rfl
  have hnl : (Value.int .i64 (r : Int) :: (cs ++ [.string t])).length = 1 * 34 := by simp [hcs]
  have Hone := Lib.hid hone
  have Hnews := Lib.hid hnews
  have Hnl := Lib.hid hnl
  clear hone hnews hnl
  have hl0 : ldV W.drew (.pointer (some ⟨T, 0, none⟩)) = some cs.toArray := ldV_of (by simpa using rT) (by simpa using hcs)
  have hl1 : ∀ o, ldV (W.alloc o).drew (.pointer (some ⟨T, 0, none⟩)) = some cs.toArray := fun o => ldV_of (by simpa using World.rangeAt_alloc rT o) (by simpa using hcs)
  have hBn : ¬ B = W.heap.size := by omega
  have hgc : ∀ o w2, (W.alloc o).drew.grownBy w2 (Value.slice va es.length vc).ownBlock → w2.cell? ⟨B, 256, none⟩ = some (.slice va es.length vc) := fun o w2 hg => by
    have h1 := (HL2.out.alloc o).drew
    rw [World.cell?_of_block (w := (W.alloc o).drew) (hg.block B h1.lt (fun h => hne h.symm)), Row.cell h1 (i := 256) (by omega)]
    rw [lgv_ev]
  have hgf : ∀ o w2, (W.alloc o).drew.grownBy w2 (Value.slice va es.length vc).ownBlock → w2.frozen? ⟨B, 256, none⟩ = false := fun o w2 hg => by
    have h1 := (HL2.out.alloc o).drew
    rw [World.frozen?_of_block (w := (W.alloc o).drew) (hg.block B h1.lt (fun h => hne h.symm))]
    exact Row.frozen h1 256
  have HGC := Lib.hid hgc
  have HGF := Lib.hid hgf
  clear hgc hgf
  go_region_law
    ((refine step_append_lies _ (by rfl) _ _ _ (by rfl) base 45 i0 _ 34 56 Tryd.underlying46 hi0 hz0 hz1 hz2 (by kernel_rfl) (by omega) (.slice va es.length vc) es.length (evs es) (by rfl) ((HO2.out.alloc _).drew)
        ⟨W.heap.size, 0, none⟩ 1 1 (.int .i64 (r : Int) :: (cs ++ [.string t])) (by rfl) Hnl.out (Hnews.out _ _ (heap_alloc_new W _)) Hone.out (by omega) (by simp only [maxLen]; omega) (by omega) (by simp; omega) (W.heap.size + 1) (by simp) ?_; intro g cap w2 hown2 hgrow hat hlt; have hc2 := HGC.out _ _ hgrow; have hf2 := HGF.out _ _ hgrow))
  all_goals
    have L3 : LG w2 B (regs es) (.slice va es.length vc) := Row.ch (w := (W.alloc (.cells (.int .i64 (r : Int) :: (cs ++ [.string t])).toArray 45)).drew) (HL2.out.alloc _).drew (Ch.of_grown (C := fun b => (Value.slice va es.length vc).ownBlock = some b) hgrow (fun k hk _ => hk)) hne
    have D3 : Row w2 T 26 32 (b8 D) := Row.ch (w := (W.alloc (.cells (.int .i64 (r : Int) :: (cs ++ [.string t])).toArray 45)).drew) (HDR.out.alloc _).drew (Ch.of_grown (C := fun b => (Value.slice va es.length vc).ownBlock = some b) hgrow (fun k hk _ => hk)) hneT
    have B3 : Below base w w2 := Below.grown (((HBW.out.mono (by omega)).alloc (by omega) _).drew) hgrow (by simp; omega) (fun k hk => (HO2.out.lt k hk).1)
    have C3 : Ch (FP B (.slice va es.length vc)) w w2 := Ch.andThen (((Ch.of_below HBW.out _).alloc (.cells (.int .i64 (r : Int) :: (cs ++ [.string t])).toArray 45)).drew) (Ch.of_grown (C := fun b => (Value.slice va es.length vc).ownBlock = some b) hgrow (fun k hk _ => hk)) (fun i hi _ => .inr hi)
    have HG : Hid ((Value.slice va es.length vc).ownBlock = some g ∨ w.heap.size ≤ g) := by
      rcases hat with h | h
      · exact .inl h
      · exact .inr (by rw [h]; have := HBW.out.size; omega)
    have C4 : Hid (Ch (FP B (.slice va es.length vc)) w (w2.setCell ⟨B, 256, none⟩ (.slice (some ⟨g, 0, none⟩) (es.length + 1) cap))) := C3.setCell (p := ⟨B, 256, none⟩) (fun _ => .inl rfl) _
    have L4 := L3.ev (.slice (some ⟨g, 0, none⟩) (es.length + 1) cap)
    have D4 : Row (w2.setCell ⟨B, 256, none⟩ (.slice (some ⟨g, 0, none⟩) (es.length + 1) cap)) T 26 32 (b8 D) := Row.far D3 (by show T ≠ B; omega) _
    have O4 := own_set hown2 L3 (by decide) (w2.setCell ⟨B, 256, none⟩ (.slice (some ⟨g, 0, none⟩) (es.length + 1) cap)) ((Ch.refl (fun b => b = B) w2).setCell (p := ⟨B, 256, none⟩) (fun _ => rfl) _)
    have B4 : Below base w (w2.setCell ⟨B, 256, none⟩ (.slice (some ⟨g, 0, none⟩) (es.length + 1) cap)) := B3.setCell (p := ⟨B, 256, none⟩) hbB _
    clear L3 D3 B3 C3 hc2 hf2 hgrow hat hlt hown2 hl0 hl1 e256 f256 rT
    generalize w2.setCell ⟨B, 256, none⟩ (.slice (some ⟨g, 0, none⟩) (es.length + 1) cap) = X at L4 D4 O4 B4 C4 ⊢
    have R4 : Hid (Rnd X.drew) := HR.out.below B4.drew h0
    have hX0 : 0 < X.drew.heap.size := by have := L4.drew.lt; omega
    have rT4 : X.drew.rangeAt T 0 cs := by
      intro j u hu
      rw [Hcsd.out] at hu
      have hj : j < 32 := by have := (List.getElem?_eq_some_iff.1 hu).1; simpa [arr] using this
      have : u = b8 D j := by simpa [arr, hj] using hu.symm
      rw [this, Nat.zero_add, Row.cell D4.drew hj]
    have hl2 : ldV X.drew (.pointer (some ⟨T, 0, none⟩)) = some (arr 32 (b8 D)) := ldV_of (by rw [← Hcsd.out]; exact rT4) (by simp [arr])
    have hl3 : ldV X.drew (.pointer (some ⟨B, r * 32, none⟩)) = some (arr 32 (b8 (regs es r))) := ldV_of (LG.range (L4.drew) hr) (by simp [arr])
    have r8 : (r : Int) < 8 := by omega
    have HL4 := Lib.hid L4
    have HO4 := Lib.hid O4
    have HB4 := Lib.hid B4
    have hDB : Hid (Byt D) := by rw [← HD.out]; exact sumD_byt _
    clear L4 D4 O4 B4 rT4 hu26 hi26 HO2 HL2 HDR HBW Hone Hnews Hnl HGC HGF hne hneT hi0 hz0 hz1 hz2 hc1 hcs
    go_wp2_with fail
    go_region_law (first | (go_simp; go_at_call 40; refine (extend_any (regs es r) D _ (regs_byt _ _) hDB.out (by exact R4.out) hX0).mono ?_; rintro e w3 ⟨rfl, hb3⟩; have hst3 := stV_of (w := w3) (b := B) (o := r * 32) (cs := arr 32 (b8 (sumD (dl (regs es r) ++ dl D)))) (by simp [arr]) (LG.there (HL4.out.drew.below hb3 HL4.out.lt) r hr) (arr_one _)))
    all_goals
      have B5 : Below base w (w3.setCells B (r * 32) (arr 32 (b8 (sumD (dl (regs es r) ++ dl D)))).toList) := Below.setAll hbB _ _ _ (HB4.out.drew.trans (hb3.mono (by have := HL4.out.lt; show base ≤ X.heap.size; omega)))
      have C5 : Hid (Ch (FP B (.slice va es.length vc)) w (w3.setCells B (r * 32) (arr 32 (b8 (sumD (dl (regs es r) ++ dl D)))).toList)) := Ch.setAll (.inl rfl) _ _ _ (C4.out.drew.andThen (Ch.of_below hb3 (fun _ => False)) (fun _ h _ => h.elim))
      have L5 := LG.reg (HL4.out.drew.below hb3 HL4.out.lt) r hr (sumD (dl (regs es r) ++ dl D))
      have O5 := own_set (own_below (w := X.drew) HO4.out.drew hb3 (Nat.le_refl _)) (HL4.out.drew.below hb3 HL4.out.lt) (by decide) (w3.setCells B (r * 32) (arr 32 (b8 (sumD (dl (regs es r) ++ dl D)))).toList) (Ch.setAll (C := fun b => b = B) rfl _ _ _ (Ch.refl _ _))
      have hfin : Hid (LOGN w (.slice va es.length vc) (w3.setCells B (r * 32) (arr 32 (b8 (sumD (dl (regs es r) ++ dl D)))).toList) base B (es ++ [⟨r, sumD s.data.toList, t⟩])) := by
        refine ⟨hbB, .slice (some ⟨g, 0, none⟩) (es.length + 1) cap, ?_, ?_, ?_⟩
        · rw [regs_snoc]
          have e : reg1 (regs es) ⟨r, sumD s.data.toList, t⟩ = fun q => if q = r then sumD (dl (regs es r) ++ dl D) else regs es q := by
            funext q
            unfold reg1
            by_cases hq : q = r
            · subst hq; rw [if_pos rfl, if_pos rfl, HD.out]
            · rw [if_neg (by show ¬ (q : Int) = (r : Int); omega), if_neg hq]
          rw [e]
          exact L5
        · rw [evs_snoc, List.length_append]
          rw [Hcsd.out] at O5
          have e : evc ⟨r, sumD s.data.toList, t⟩ = Value.int .i64 (r : Int) :: ((arr 32 (b8 D)).toList ++ [.string t]) := by rw [← HD.out]; rfl
          rw [e]
          exact O5
        · exact own_new HG.out
      clear L5 O5 hb3 hst3 hl2 hl3
      clear B5
      generalize w3.setCells B (r * 32) (arr 32 (b8 (sumD (dl (regs es r) ++ dl D)))).toList = Z at hfin C5 ⊢
      go_wp2_with fail
      go_ret
      exact ⟨rfl, hfin.out, C5.out⟩
end
section
attribute [local go_sem ↓] alloc26 load26n store26n alloc45 load45n store45n build45 slice46
attribute [local go_sem] stN_uc stN_b8 set_new fold_drew ldN_drew ldN_drewN stN_drew stN_drewN stN_ev set_ev stN_b8c set_newc bldV slcV arr_size evc_len evc_size evc_fold
set_option maxRecDepth 100000 in
set_option maxHeartbeats 2000000 in
theorem rmeasure_okF (base B r : Nat) (es : List Ev) (t s : ByteArray) (w : World) (hr : r < 8) (ht : t.size ≤ 64) (hes : es.length < 256) (hs : s.size ≤ 1073741824) (v : Value) (hbB : base ≤ B) (hL : Row w B 73 1 (fun _ => v)) (hO : w.ownsRow base 45 34 v es.length (evs es)) :
    Calls Tryd.prog 25 #[.pointer (some ⟨B, 0, none⟩), .int .i64 (r : Int), .string t, .string s] w fun e w' => e = .returned (.int .i64 0) ∧ RLOGN w v w' base B (es ++ [⟨r, sumD s.data.toList, t⟩]) ∧ Ch (FP B v) w w' := by
  obtain ⟨va, vc, rfl⟩ := own_len hO
  have hBl := hL.lt
  have d1 : decide ((r : Int) < 0) = false := by simp
  have d2 : decide ((r : Int) ≥ 8) = false := by simp; omega
  have d3 : decide ((t.size : Int) > 64) = false := by simp; omega
  have d4 : decide ((es.length : Int) ≥ 256) = false := by simp; omega
  have c0 : w.cell? ⟨B, 0, none⟩ = some (.slice va es.length vc) := Row.cell hL (i := 0) (by omega)
  have HL := Lib.hid hL
  have HO := Lib.hid hO
  clear hL hO
  obtain ⟨i0, hi0, hz0, hz1, hz2⟩ := info_parts Tryd.info45
  go_enter Tryd.func25, Tryd.ntmps25
  go_wp2_with fail
  have S0 : Hid (w.drew.cell? ⟨B, 0, none⟩ = some (.slice va es.length vc)) := c0
  clear c0
  refine wp_region_pl (fun X => X.cell? ⟨B, 0, none⟩ = some (.slice va es.length vc))
    ((0, 0) :: (1, 0) :: (2, 0) :: (3, 0) :: (4, 0) :: (5, 0) :: (6, 0) :: (8, 0) :: (7, 1) :: (9, 1) :: (10, 1) :: (11, 1) :: (12, 1) :: (13, 1) :: (14, 2) :: []) (by kernel_rfl) (by kernel_rfl) ?_
  iterate 8 (apply wpP_go; (focus rfl); (focus rfl); (focus exact S0.out); (focus (rintro X sX; go_simp; exact rfl)); intro K hK; go_simp; refine hK _ ?_; clear hK K)
  apply wpP_one
  focus rfl
  intro K hK
  go_simp
  refine (rsum_any s _ hs).mono ?_
  rintro _ w1 ⟨rfl, hb1⟩
  have L1 := Lib.hid (HL.out.drew.below hb1 HL.out.lt)
  have O1 : Hid (w1.ownsRow base 45 34 (.slice va es.length vc) es.length (evs es)) := own_below (w := w.drew) HO.out.drew hb1 (Nat.le_refl _)
  have S1 : Hid (w1.cell? ⟨B, 0, none⟩ = some (.slice va es.length vc)) := Row.cell L1.out (i := 0) (by omega)
  have C1 : Hid (Ch (FP B (.slice va es.length vc)) w w1) := ((Ch.refl _ w).drew).andThen (Ch.of_below hb1 (fun _ => False)) (fun _ h _ => h.elim)
  have hs1 : w.heap.size ≤ w1.heap.size := hb1.size
  clear hb1
  refine hK _ _ S1.out ?_
  clear hK K
  obtain ⟨D, hD⟩ : ∃ D : Nat → Int, sumD s.data.toList = D := ⟨_, rfl⟩
  rw [hD]
  have HD := Lib.hid hD
  clear hD
  apply wpP_one
  focus rfl
  intro K hK
  go_simp
  refine hK _ _ S1.out ?_
  clear hK K
  apply wpP_one
  focus rfl
  intro K hK
  go_simp
  have S2 : Hid ((w1.alloc (.cells (evc ⟨r, D, t⟩).toArray 45)).cell? ⟨B, 0, none⟩ = some (.slice va es.length vc)) := Row.cell (L1.out.alloc _) (i := 0) (by omega)
  refine hK _ _ S2.out ?_
  clear hK K
  apply wpP_one
  focus rfl
  intro K hK
  have O2 := Lib.hid (O1.out.alloc (.cells (evc ⟨r, D, t⟩).toArray 45))
  have hbl1 : base ≤ w1.heap.size := by omega
  rw [if_pos (by rfl)]
  refine wp_append_lies _ (.tmp 30) (.tmp 36) 46 rfl base 45 i0 _ 34 56 Tryd.underlying46 hi0 hz0 hz1 hz2 (by kernel_rfl) (by omega) (.slice va es.length vc) es.length (evs es) rfl O2.out ⟨w1.heap.size, 0, none⟩ 1 1 (evc ⟨r, D, t⟩) rfl (by rw [evc_len]) (World.news_of_block (heap_alloc_new w1 _)) ?_ (by omega) (by simp only [maxLen]; omega) (by omega) (by simp; omega) (w1.heap.size + 1) (by simp) ?_
  focus
    intro u hu
    exact Array.all_eq_true_iff_forall_mem.1 (evc_one ⟨r, D, t⟩) u (by simpa using hu)
  intro g cap w2 hown hgrow hat hlt
  have hneB : (Value.slice va es.length vc).ownBlock ≠ some B := own_ne O2.out (L1.out.alloc _) (by decide)
  have L3 : Hid (Row w2 B 73 1 (fun _ => .slice va es.length vc)) := Row.ch (L1.out.alloc _) (Ch.of_grown (C := fun b => (Value.slice va es.length vc).ownBlock = some b) hgrow (fun k hk _ => hk)) hneB
  have C3 : Hid (Ch (FP B (.slice va es.length vc)) w w2) := Ch.andThen (C1.out.alloc _) (Ch.of_grown (C := fun b => (Value.slice va es.length vc).ownBlock = some b) hgrow (fun k hk _ => hk)) (fun i hi _ => .inr hi)
  have HG : Hid ((Value.slice va es.length vc).ownBlock = some g ∨ w.heap.size ≤ g) := by
    rcases hat with h | h
    · exact .inl h
    · exact .inr (by rw [h]; omega)
  have c3 : w2.cell? ⟨B, 0, none⟩ = some (.slice va es.length vc) := Row.cell L3.out (i := 0) (by omega)
  have f3 : w2.frozen? ⟨B, 0, none⟩ = false := Row.frozen L3.out 0
  have O3 := Lib.hid hown
  clear hown hgrow hat S0 S1 S2
  have S3 := Lib.hid c3
  simp only [Act.put]
  refine hK _ _ S3.out ?_
  clear hK K
  apply wpP_one
  focus rfl
  intro K hK
  go_simp
  refine hK _ _ S3.out ?_
  clear hK K
  apply wpP_one
  focus rfl
  intro K hK
  go_simp
  refine hK _ _ S3.out ?_
  clear hK K
  apply wpP_two
  focus rfl
  intro K hK
  go_simp
  refine hK _ _ ?_
  clear hK K
  refine wpP_done ?_
  have L4 : Hid (Row (w2.setCell ⟨B, 0, none⟩ (.slice (some ⟨g, 0, none⟩) (es.length + 1) cap)) B 73 1 (fun _ => .slice (some ⟨g, 0, none⟩) (es.length + 1) cap)) := Row.congr (Row.set L3.out (i := 0) (by omega) _) (fun i hi => by rw [show i = 0 by omega, upd_hit])
  have O4 := Lib.hid (own_set O3.out L3.out (by decide) (w2.setCell ⟨B, 0, none⟩ (.slice (some ⟨g, 0, none⟩) (es.length + 1) cap)) ((Ch.refl (fun b => b = B) w2).setCell (p := ⟨B, 0, none⟩) (fun _ => rfl) _))
  have C4 : Hid (Ch (FP B (.slice va es.length vc)) w (w2.setCell ⟨B, 0, none⟩ (.slice (some ⟨g, 0, none⟩) (es.length + 1) cap))) := C3.out.setCell (p := ⟨B, 0, none⟩) (fun _ => .inl rfl) _
  have hfin : Hid (RLOGN w (.slice va es.length vc) (w2.setCell ⟨B, 0, none⟩ (.slice (some ⟨g, 0, none⟩) (es.length + 1) cap)) base B (es ++ [⟨r, sumD s.data.toList, t⟩])) := by
    refine ⟨hbB, _, L4.out, ?_, own_new HG.out⟩
    rw [evs_snoc, List.length_append, HD.out]
    exact O4.out
  clear L4 O4 c3 f3
  generalize w2.setCell ⟨B, 0, none⟩ (.slice (some ⟨g, 0, none⟩) (es.length + 1) cap) = Z at C4 hfin ⊢
  go_wp2_with fail
  go_ret
  exact ⟨rfl, hfin.out, C4.out⟩
end

/-- Two logs, one of the program and one of the reference, that lie apart, all of it from block N on. -/
def PAIR (w : World) (N Ba Bb : Nat) (ea eb : List Ev) : Prop :=
  N ≤ Ba ∧ N ≤ Bb ∧ ∃ va vb, LG w Ba (regs ea) va ∧ w.ownsRow N 45 34 va ea.length (evs ea) ∧ Row w Bb 73 1 (fun _ => vb) ∧ w.ownsRow N 45 34 vb eb.length (evs eb) ∧ ∀ g, va.ownBlock = some g → vb.ownBlock ≠ some g
theorem row_ne {w : World} {B B' t t' N N' : Nat} {f f' : Nat → Value} (h : Row w B t N f) (h' : Row w B' t' N' f') (hne : t ≠ t') : B ≠ B' := by
  rintro rfl
  obtain ⟨cs, h1, _⟩ := h
  obtain ⟨cs', h2, _⟩ := h'
  rw [h1] at h2
  injection h2 with h2
  injection h2 with _ h3
  exact hne h3
theorem own_ch {w w' : World} {C : Nat → Prop} {base e n size : Nat} {v : Value} {xs : List Value} (h : w.ownsRow base e size v n xs) (k : Ch C w w') (hC : ∀ g, v.ownBlock = some g → ¬ C g) : w'.ownsRow base e size v n xs := by
  obtain ⟨a, b | ⟨g, cap, cur, rfl, c, d, r⟩⟩ := h
  · exact ⟨a, .inl b⟩
  · exact ⟨a, .inr ⟨g, cap, cur, rfl, c, (k.block g (heap_lt d) (hC g rfl)).trans d, r⟩⟩
theorem PAIR.below {w w' : World} {N Ba Bb : Nat} {ea eb : List Ev} (h : PAIR w N Ba Bb ea eb) (hb : Below w.heap.size w w') : PAIR w' N Ba Bb ea eb := by
  obtain ⟨h1, h2, va, vb, a, b, c, d, e⟩ := h
  exact ⟨h1, h2, va, vb, a.below hb a.lt, own_below b hb (Nat.le_refl _), c.below hb c.lt, own_below d hb (Nat.le_refl _), e⟩
theorem PAIR.drew {w : World} {N Ba Bb : Nat} {ea eb : List Ev} (h : PAIR w N Ba Bb ea eb) : PAIR w.drew N Ba Bb ea eb := h
theorem PAIR.sizes {w : World} {N Ba Bb : Nat} {ea eb : List Ev} (h : PAIR w N Ba Bb ea eb) : N < w.heap.size := by
  obtain ⟨h1, h2, va, vb, a, b, c, d, e⟩ := h
  have := a.lt; omega
theorem PAIR.log {w : World} {N Ba Bb : Nat} {ea eb : List Ev} (h : PAIR w N Ba Bb ea eb) : LOG w N Ba ea := by
  obtain ⟨h1, h2, va, vb, a, b, c, d, e⟩ := h
  exact ⟨h1, va, a, b⟩
theorem PAIR.rlog {w : World} {N Ba Bb : Nat} {ea eb : List Ev} (h : PAIR w N Ba Bb ea eb) : RLOG w N Bb eb := by
  obtain ⟨h1, h2, va, vb, a, b, c, d, e⟩ := h
  exact ⟨h2, vb, c, d⟩
/-- What is neither a log nor a row of events stays. -/
def TY (w w' : World) : Prop := ∀ B t n f, Row w B t n f → t ≠ 71 → t ≠ 73 → t ≠ 45 → Row w' B t n f
theorem TY.refl (w : World) : TY w w := fun _ _ _ _ h _ _ _ => h
theorem FP.ty {w w' : World} {B T M N n : Nat} {v : Value} {xs : List Value} {g : Nat → Value} (k : Ch (FP B v) w w') (hT : T = 71 ∨ T = 73) (hr : Row w B T M g) (h : w.ownsRow N 45 34 v n xs) : TY w w' := fun B' t n f hf h1 h2 h3 => hf.ch k (by
  rintro (e | e)
  · exact row_ne hf hr (by omega) e
  · exact own_ne h hf (by omega) e)
theorem FP.below {w w' : World} {B N n : Nat} {v : Value} {xs : List Value} (k : Ch (FP B v) w w') (hB : N ≤ B) (hlt : B < w.heap.size) (h : w.ownsRow N 45 34 v n xs) : Below N w w' :=
  k.below (by omega) (fun i hi => by rcases hi with rfl | hi; exact hB; exact (h.lt i hi).1)
/-- What Measure of either log answers. -/
def mcd (r : Int) (t : ByteArray) : Int := if 0 ≤ r ∧ r < 8 ∧ t.size ≤ 64 then 0 else 1
def mevI (r : Int) (t s : ByteArray) : List Ev := if 0 ≤ r ∧ r < 8 ∧ t.size ≤ 64 then [⟨r, sumD s.data.toList, t⟩] else []
theorem pmeasure (N Ba Bb : Nat) (r : Int) (ea eb : List Ev) (t s : ByteArray) (w : World) (hes : ea.length < 256) (hs : s.size ≤ 1073741824) (hR : Rnd w) (h0 : 0 < N) (h : PAIR w N Ba Bb ea eb) :
    Calls Tryd.prog 24 #[.pointer (some ⟨Ba, 0, none⟩), .int .i64 r, .string t, .string s] w fun e w' => e = .returned (.int .i64 (mcd r t)) ∧ PAIR w' N Ba Bb (ea ++ mevI r t s) eb ∧ Below N w w' ∧ TY w w' := by
  unfold mcd mevI
  by_cases hr : 0 ≤ r ∧ r < 8
  · obtain ⟨q, rfl⟩ : ∃ q : Nat, r = (q : Int) := ⟨r.toNat, by omega⟩
    have hq : q < 8 := by omega
    by_cases ht : t.size ≤ 64
    · rw [if_pos ⟨hr.1, hr.2, ht⟩, if_pos ⟨hr.1, hr.2, ht⟩]
      obtain ⟨h1, h2, va, vb, a, b, c, d, e⟩ := h
      refine (measure_okF N Ba q ea t s w hq ht hes hs hR h0 va h1 a b).mono ?_
      rintro _ w' ⟨rfl, ⟨_, v', a', b', n⟩, k⟩
      have hne : Ba ≠ Bb := row_ne a c (by decide)
      have hob := own_ne d a (by decide)
      have hoa := own_ne b c (by decide)
      refine ⟨rfl, ⟨h1, h2, v', vb, a', b', c.ch k ?_, own_ch d k ?_, ?_⟩, FP.below k h1 a.lt b, FP.ty k (.inl rfl) a b⟩
      · rintro (h | h)
        · exact hne h.symm
        · exact hoa h
      · rintro g hg (h | h)
        · exact hob (h ▸ hg)
        · exact e g h hg
      · intro g hg hgb
        rcases n g hg with h | h
        · exact e g h hgb
        · have := (d.lt g hgb).2; omega
    · rw [if_neg (fun h => ht h.2.2), if_neg (fun h => ht h.2.2), List.append_nil]
      exact (measure_long Ba q t s w (by omega)).mono fun e w' ⟨he, hw⟩ => by subst hw; exact ⟨he, h, Below.refl _ _, TY.refl _⟩
  · rw [if_neg (fun h => hr ⟨h.1, h.2.1⟩), if_neg (fun h => hr ⟨h.1, h.2.1⟩), List.append_nil]
    exact (measure_bad Ba r t s w (by omega)).mono fun e w' ⟨he, hw⟩ => by subst hw; exact ⟨he, h, Below.refl _ _, TY.refl _⟩
theorem prmeasure (N Ba Bb : Nat) (r : Int) (ea eb : List Ev) (t s : ByteArray) (w : World) (hes : eb.length < 256) (hs : s.size ≤ 1073741824) (h : PAIR w N Ba Bb ea eb) :
    Calls Tryd.prog 25 #[.pointer (some ⟨Bb, 0, none⟩), .int .i64 r, .string t, .string s] w fun e w' => e = .returned (.int .i64 (mcd r t)) ∧ PAIR w' N Ba Bb ea (eb ++ mevI r t s) ∧ Below N w w' ∧ TY w w' := by
  unfold mcd mevI
  by_cases hr : 0 ≤ r ∧ r < 8
  · obtain ⟨q, rfl⟩ : ∃ q : Nat, r = (q : Int) := ⟨r.toNat, by omega⟩
    have hq : q < 8 := by omega
    by_cases ht : t.size ≤ 64
    · rw [if_pos ⟨hr.1, hr.2, ht⟩, if_pos ⟨hr.1, hr.2, ht⟩]
      obtain ⟨h1, h2, va, vb, a, b, c, d, e⟩ := h
      refine (rmeasure_okF N Bb q eb t s w hq ht hes hs vb h2 c d).mono ?_
      rintro _ w' ⟨rfl, ⟨_, v', a', b', n⟩, k⟩
      have hne : Ba ≠ Bb := row_ne a c (by decide)
      have hob := own_ne d a (by decide)
      have hoa := own_ne b c (by decide)
      refine ⟨rfl, ⟨h1, h2, va, v', a.ch k ?_, own_ch b k ?_, a', b', ?_⟩, FP.below k h2 c.lt d, FP.ty k (.inr rfl) c d⟩
      · rintro (h | h)
        · exact hne h
        · exact hob h
      · rintro g hg (h | h)
        · exact hoa (h ▸ hg)
        · exact e g hg h
      · intro g hg hgb
        rcases n g hgb with h | h
        · exact e g hg h
        · have := (b.lt g hg).2; omega
    · rw [if_neg (fun h => ht h.2.2), if_neg (fun h => ht h.2.2), List.append_nil]
      exact (rmeasure_long Bb q t s w hq (by omega)).mono fun e w' ⟨he, hw⟩ => by subst hw; exact ⟨he, h, Below.refl _ _, TY.refl _⟩
  · rw [if_neg (fun h => hr ⟨h.1, h.2.1⟩), if_neg (fun h => hr ⟨h.1, h.2.1⟩), List.append_nil]
    exact (rmeasure_bad Bb r t s w (by omega)).mono fun e w' ⟨he, hw⟩ => by subst hw; exact ⟨he, h, Below.refl _ _, TY.refl _⟩
end Go.Proofs.YtndbbbkdpjkljaaDoor
