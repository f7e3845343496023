/- The walk of MeasureQuotes. Condition: the round constants lie in block 0. -/
import Derived.Test.YtndbbbkdpjkljaaDoorAE
import Derived.Test.YtndbbbkdpjkljaaDoorR3
import Derived.Test.YtndbbbkdpjkljaaDoorL10
namespace Go.Proofs.YtndbbbkdpjkljaaDoor
open Go.RowKit
attribute [local go_sem ↓] alloc26 load26n store26n
attribute [local go_sem] stN_uc stN_b8 set_new fold_drew ldN_drew ldN_drewN stN_drew stN_drewN
def qD (key : ByteArray) (Ds : List (Nat → Int)) (nonce : ByteArray) : Nat → Int := if Ds.length = 8 then quoD key Ds nonce else zD
def qc (Ds : List (Nat → Int)) : Int := if Ds.length = 8 then 0 else 1
theorem qD_byt (key : ByteArray) (Ds : List (Nat → Int)) (nonce : ByteArray) : Byt (qD key Ds nonce) := by
  unfold qD; split
  · exact sumD_byt _
  · exact fun _ => ⟨Int.le_refl 0, by show (0 : Int) ≤ 255; decide⟩
theorem quote_each (key nonce : ByteArray) (v : Value) (Ds : List (Nat → Int)) (w : World) (h : RdD w v Ds) (hby : ∀ D ∈ Ds, Byt D) (hk : key.size ≤ 1000) (hs : nonce.size ≤ 1000) (hR : Rnd w) (h0 : 0 < w.heap.size) : Calls Tryd.prog 36 #[.string key, v, .string nonce] w fun e w' => e = .returned (.tuple #[.agg (arr 32 (b8 (qD key Ds nonce))), .int .i64 (qc Ds)]) ∧ Below w.heap.size w w' := by
  unfold qD qc
  by_cases hn : Ds.length = 8
  · rw [if_pos hn, if_pos hn]; exact quote_yes key nonce v Ds w h hby hn hk hs hR h0
  · rw [if_neg hn, if_neg hn]; exact quote_no key nonce v Ds w h hn
theorem rquote_each (key nonce : ByteArray) (v : Value) (Ds : List (Nat → Int)) (w : World) (h : RdD w v Ds) (hby : ∀ D ∈ Ds, Byt D) (hk : key.size ≤ 1000) (hs : nonce.size ≤ 1000) : Calls Tryd.prog 33 #[.string key, v, .string nonce] w fun e w' => e = .returned (.tuple #[.agg (arr 32 (b8 (qD key Ds nonce))), .int .i64 (qc Ds)]) ∧ Below w.heap.size w w' := by
  unfold qD qc
  by_cases hn : Ds.length = 8
  · rw [if_pos hn, if_pos hn]; exact rquote_yes key nonce v Ds w h hby hn hk hs
  · rw [if_neg hn, if_neg hn]; exact rquote_no key nonce v Ds w h hn
/-- Three digests; since w only new blocks changed. -/
def TRI (w X : World) (R1 R2 R3 : Nat) (M E : Nat → Int) : Prop := Row X R1 26 32 (b8 M) ∧ Row X R2 26 32 (b8 E) ∧ Row X R3 26 32 (b8 E) ∧ Below w.heap.size w X
theorem TRI.below {w X X' : World} {R1 R2 R3 : Nat} {M E : Nat → Int} (h : TRI w X R1 R2 R3 M E) (hb : Below X.heap.size X X') : TRI w X' R1 R2 R3 M E := ⟨h.1.below hb h.1.lt, h.2.1.below hb h.2.1.lt, h.2.2.1.below hb h.2.2.1.lt, bss h.2.2.2 hb⟩
theorem TRI.ld {w X : World} {R1 R2 R3 : Nat} {M E : Nat → Int} (h : TRI w X R1 R2 R3 M E) : ldN 32 X (.pointer (some ⟨R1, 0, none⟩)) = some (arr 32 (b8 M)) ∧ ldN 32 X (.pointer (some ⟨R2, 0, none⟩)) = some (arr 32 (b8 E)) ∧ ldN 32 X (.pointer (some ⟨R3, 0, none⟩)) = some (arr 32 (b8 E)) :=
  ⟨ldN_of (Row.range0 h.1) (by simp [arr]), ldN_of (Row.range0 h.2.1) (by simp [arr]), ldN_of (Row.range0 h.2.2.1) (by simp [arr])⟩
set_option maxRecDepth 100000 in
set_option maxHeartbeats 4000000 in
theorem quotes_walk (key nonce : ByteArray) (a : Option Addr) (len cap : Nat) (l : List Cl) (a3 : Option Addr) (len3 cap3 : Nat) (Ds : List (Nat → Int)) (w : World) (h : CallS w a len cap l) (hd : DgS w a3 len3 cap3 Ds) (hr : Rnd w) (h0 : 0 < w.heap.size) :
    Calls Tryd.prog 12 #[.string key, .string nonce, .slice a len cap, .slice a3 len3 cap3] w fun e w' => e = .returned (.bool true) ∧ Below w.heap.size w w' := by
  have HR := Lib.hid hr
  have HC := Lib.hid h
  have hlen : len ≤ 9223372036854775807 := by have h1 := h.2.1; have h2 := h.2.2.1; unfold maxLen at h2; omega
  have hlc : len ≤ cap := h.2.1
  have HLen := Lib.hid h.1
  have HD := Lib.hid hd.rd
  have HDB := Lib.hid hd.2.2.2.1
  have hl3 : Ds.length = len3 := hd.1
  clear hr h hd
  have HLg := Lib.hid (large_any a len cap l w HC.out)
  by_cases hlg : lg l = true
  · rw [hlg] at HLg
    go_enter Tryd.func12, Tryd.ntmps12
    go_wp2_with fail
    refine HLg.out.mono ?_
    rintro e w1 ⟨rfl, rfl⟩
    go_wp2_with fail
    refine (awake_any _ HR.out h0).mono ?_
    rintro e w1 ⟨rfl, hb⟩
    go_wp2_with fail
    go_ret
    exact ⟨rfl, hb⟩
  have hlg' : lg l = false := by simpa using hlg
  rw [hlg'] at HLg
  by_cases hk : 100 < key.size
  · have d1 : decide ((key.size : Int) > 100) = true := by simp; omega
    go_enter Tryd.func12, Tryd.ntmps12
    go_wp2_with fail
    refine HLg.out.mono ?_
    rintro e w1 ⟨rfl, rfl⟩
    go_wp2_with fail
    refine (awake_any _ HR.out h0).mono ?_
    rintro e w1 ⟨rfl, hb⟩
    go_wp2_with fail
    go_ret
    exact ⟨rfl, hb⟩
  have d1 : decide ((key.size : Int) > 100) = false := by simp; omega
  by_cases hn : 100 < nonce.size
  · have d2 : decide ((nonce.size : Int) > 100) = true := by simp; omega
    go_enter Tryd.func12, Tryd.ntmps12
    go_wp2_with fail
    refine HLg.out.mono ?_
    rintro e w1 ⟨rfl, rfl⟩
    go_wp2_with fail
    refine (awake_any _ HR.out h0).mono ?_
    rintro e w1 ⟨rfl, hb⟩
    go_wp2_with fail
    go_ret
    exact ⟨rfl, hb⟩
  have d2 : decide ((nonce.size : Int) > 100) = false := by simp; omega
  by_cases hx : 12 < len3
  · have d3 : decide ((len3 : Int) > 12) = true := by simp; omega
    go_enter Tryd.func12, Tryd.ntmps12
    go_wp2_with fail
    refine HLg.out.mono ?_
    rintro e w1 ⟨rfl, rfl⟩
    go_wp2_with fail
    refine (awake_any _ HR.out h0).mono ?_
    rintro e w1 ⟨rfl, hb⟩
    go_wp2_with fail
    go_ret
    exact ⟨rfl, hb⟩
  have d3 : decide ((len3 : Int) > 12) = false := by simp; omega
  obtain ⟨h12, hsm⟩ := lg_no hlg'
  have HSM := Lib.hid hsm
  have h12' : len ≤ 12 := by have := HLen.out; omega
  clear hlg hlg' hsm
  go_enter Tryd.func12, Tryd.ntmps12
  go_wp2_with fail
  refine HLg.out.mono ?_
  rintro e w1 ⟨rfl, rfl⟩
  go_wp2_with fail
  refine (measured_any a len cap l w HC.out (by omega) (fun c hc => by have := (HSM.out c hc).2; omega) HR.out h0).mono ?_
  rintro e w1 ⟨rfl, hL1, hb1⟩
  have LA1 := Lib.hid hL1
  have B1 := Lib.hid hb1
  have hlt1 : w.heap.size < w1.heap.size := by obtain ⟨_, _, h, _⟩ := hL1; exact h.lt
  clear hL1 hb1 HLg
  have hle : (mea l).length ≤ 12 := by have := mea_len l; omega
  have HOK := Lib.hid (mea_ok l)
  have HBY := Lib.hid (mea_byt l)
  generalize mea l = es at LA1 hle HOK HBY
  go_wp2_with fail
  refine (events_any _ w.heap.size es w1 LA1.out (by omega)).mono ?_
  rintro e w2 ⟨v2, rfl, hO2, hb2⟩
  have R2 := Lib.hid hO2.rd
  have A2 := Lib.hid (LA1.out.below hb2 (Nat.le_refl _))
  have B2 := Lib.hid (bss B1.out hb2)
  clear hO2 hb2 LA1 B1
  go_wp2_with fail
  refine (replay_any v2 es w2 R2.out (by omega) HBY.out (HR.out.below B2.out h0) (by have := B2.out.size; omega)).mono ?_
  rintro e w3 hrep
  obtain ⟨g, rfl, hg, hG, hb3⟩ := hrep.ok HOK.out
  have A3 := Lib.hid (A2.out.below hb3 (Nat.le_refl _))
  have B3 := Lib.hid (bss B2.out hb3)
  have G3 := Lib.hid hG
  clear hb3 hG hrep A2 R2 B2
  obtain ⟨M, hM⟩ : ∃ M : Nat → Int, quoD key (rgl (regs es)) nonce = M := ⟨_, rfl⟩
  have HQ : Hid (∀ V, RG V g (regs es) → Rnd V → 0 < V.heap.size → Calls Tryd.prog 36 #[.string key, .slice (some ⟨g, 0, none⟩) 8 8, .string nonce] V fun e w' => e = .returned (.tuple #[.agg (arr 32 (b8 M)), .int .i64 0]) ∧ Below V.heap.size V w') := fun V h h1 h2 => by
    rw [← hM]; exact quote_yes key nonce _ (rgl (regs es)) V h.rd (fun D hD => by obtain ⟨i, _, rfl⟩ := List.mem_map.1 hD; exact regs_byt _ _) (by simp [rgl]) (by omega) (by omega) h1 h2
  have bM : Hid (Byt M) := by rw [← hM]; exact sumD_byt _
  have HV : Hid (∀ V v, RdE V v es → Rnd V → 0 < V.heap.size → Calls Tryd.prog 34 #[.string key, v, .string nonce, .agg (arr 32 (b8 M))] V fun e w' => e = .returned (.bool true) ∧ Below V.heap.size V w') := fun V v h1 h2 h3 => by
    have := verify_any key nonce v es M V h1 HBY.out (by omega) bM.out (by omega) (by omega) h2 h3
    have e : vq key es nonce M = true := by unfold vq; rw [HOK.out, hM]; simp
    rw [e] at this
    exact this
  obtain ⟨E, hE⟩ : ∃ E : Nat → Int, qD key Ds nonce = E := ⟨_, rfl⟩
  have bE : Hid (Byt E) := by rw [← hE]; exact qD_byt _ _ _
  obtain ⟨ec, hec⟩ : ∃ ec : Int, qc Ds = ec := ⟨_, rfl⟩
  have HQ1 : Hid (∀ V, RdD V (.slice a3 len3 cap3) Ds → Rnd V → 0 < V.heap.size → Calls Tryd.prog 36 #[.string key, .slice a3 len3 cap3, .string nonce] V fun e w' => e = .returned (.tuple #[.agg (arr 32 (b8 E)), .int .i64 ec]) ∧ Below V.heap.size V w') := fun V h h1 h2 => by
    rw [← hE, ← hec]; exact quote_each key nonce _ Ds V h HDB.out (by omega) (by omega) h1 h2
  have HQ2 : Hid (∀ V, RdD V (.slice a3 len3 cap3) Ds → Calls Tryd.prog 33 #[.string key, .slice a3 len3 cap3, .string nonce] V fun e w' => e = .returned (.tuple #[.agg (arr 32 (b8 E)), .int .i64 ec]) ∧ Below V.heap.size V w') := fun V h => by
    rw [← hE, ← hec]; exact rquote_each key nonce _ Ds V h HDB.out (by omega) (by omega)
  clear hM hE hec d1 d2 d3
  go_wp2_with fail
  refine (HQ.out w3 G3.out (HR.out.below B3.out h0) (by have := B3.out.size; omega)).mono ?_
  rintro e w4 ⟨rfl, hb4⟩
  have B4 : Hid (Below w.heap.size w (w4.alloc (.cells (arr 32 (b8 M)) 26))) := (bss B3.out hb4).alloc (bss B3.out hb4).size _
  have A4 := Lib.hid ((A3.out.below hb4 (Nat.le_refl _)).below ((Below.refl w4.heap.size w4).alloc (Nat.le_refl _) (.cells (arr 32 (b8 M)) 26)) (Nat.le_refl _))
  have r4 : Hid (Row (w4.alloc (.cells (arr 32 (b8 M)) 26)) w4.heap.size 26 32 (b8 M)) := Row.ofList w4 26 _ _ 32 rfl
  clear hb4 A3 G3 B3 HQ
  go_wp2_with fail
  generalize w4.alloc (.cells (arr 32 (b8 M)) 26) = V4 at B4 A4 r4 ⊢
  generalize w4.heap.size = R1 at r4 ⊢
  refine (HQ1.out V4 (HD.out.below B4.out (Nat.le_refl _)) (HR.out.below B4.out h0) (by have := B4.out.size; omega)).mono ?_
  rintro e w5 ⟨rfl, hb5⟩
  have B5 : Hid (Below w.heap.size w (w5.alloc (.cells (arr 32 (b8 E)) 26))) := (bss B4.out hb5).alloc (bss B4.out hb5).size _
  have A5 := Lib.hid ((A4.out.below hb5 (Nat.le_refl _)).below ((Below.refl w5.heap.size w5).alloc (Nat.le_refl _) (.cells (arr 32 (b8 E)) 26)) (Nat.le_refl _))
  have r45 := Lib.hid ((r4.out.below hb5 r4.out.lt).alloc (.cells (arr 32 (b8 E)) 26))
  have r5 : Hid (Row (w5.alloc (.cells (arr 32 (b8 E)) 26)) w5.heap.size 26 32 (b8 E)) := Row.ofList w5 26 _ _ 32 rfl
  clear hb5 A4 B4 r4 HQ1
  go_wp2_with fail
  generalize w5.alloc (.cells (arr 32 (b8 E)) 26) = V5 at B5 A5 r45 r5 ⊢
  generalize w5.heap.size = R2 at r5 ⊢
  refine (HQ2.out V5 (HD.out.below B5.out (Nat.le_refl _))).mono ?_
  rintro e w6 ⟨rfl, hb6⟩
  have B6 : Hid (Below w.heap.size w (w6.alloc (.cells (arr 32 (b8 E)) 26))) := (bss B5.out hb6).alloc (bss B5.out hb6).size _
  have A6 := Lib.hid ((A5.out.below hb6 (Nat.le_refl _)).below ((Below.refl w6.heap.size w6).alloc (Nat.le_refl _) (.cells (arr 32 (b8 E)) 26)) (Nat.le_refl _))
  have r46 := Lib.hid ((r45.out.below hb6 r45.out.lt).alloc (.cells (arr 32 (b8 E)) 26))
  have r56 := Lib.hid ((r5.out.below hb6 r5.out.lt).alloc (.cells (arr 32 (b8 E)) 26))
  have r6 : Hid (Row (w6.alloc (.cells (arr 32 (b8 E)) 26)) w6.heap.size 26 32 (b8 E)) := Row.ofList w6 26 _ _ 32 rfl
  clear hb6 A5 B5 r45 r5 HQ2
  have heq : ∀ W, (binOp .eql 26 (.agg (arr 32 (b8 E))) (.agg (arr 32 (b8 E)))).run Tryd.prog W = .ok (.bool true) W := fun W => by
    rw [eqD bE.out bE.out]; simp
  go_wp2_with fail
  generalize w6.alloc (.cells (arr 32 (b8 E)) 26) = V6 at B6 A6 r46 r56 r6 ⊢
  generalize w6.heap.size = R3 at r6 ⊢
  have T6 : Hid (TRI w V6.drew R1 R2 R3 M E ∧ LOG V6.drew w.heap.size w.heap.size es) := ⟨⟨r46.out, r56.out, r6.out, B6.out.drew⟩, A6.out.below ((Below.refl _ _).drew (B := V6.heap.size)) (Nat.le_refl _)⟩
  have S0 := Lib.hid T6.out.1.ld
  clear B6 A6 r46 r56 r6
  refine wp_region_pl (fun X => ldN 32 X (.pointer (some ⟨R1, 0, none⟩)) = some (arr 32 (b8 M)) ∧ ldN 32 X (.pointer (some ⟨R2, 0, none⟩)) = some (arr 32 (b8 E)) ∧ ldN 32 X (.pointer (some ⟨R3, 0, none⟩)) = some (arr 32 (b8 E)))
    ((0, 0) :: (1, 0) :: (2, 0) :: (3, 0) :: (4, 0) :: (5, 0) :: (6, 0) :: (7, 0) :: (8, 0) :: (10, 0) :: (11, 0) :: (9, 1) :: (12, 1) :: (13, 0) :: (14, 0) :: (15, 0) :: (16, 0) :: (17, 0) :: (18, 0) :: (19, 0) :: (20, 0) :: (21, 0) :: (22, 0) :: (23, 0) :: (24, 0) :: (25, 1) :: (26, 0) :: (27, 0) :: []) (by kernel_rfl) (by kernel_rfl) ?_
  iterate 11 (apply wpP_go; (focus rfl); (focus rfl); (focus exact S0.out); (focus (rintro X ⟨s0, s1, s2⟩; go_simp; exact rfl)); intro K hK; go_simp; refine hK _ ?_; clear hK K)
  apply wpP_one
  focus rfl
  intro K hK
  go_simp
  refine (events_any _ w.heap.size es _ T6.out.2 (by omega)).mono ?_
  rintro e w7 ⟨v7, rfl, hO7, hb7⟩
  have T7 := Lib.hid (T6.out.1.below hb7)
  have E7 := Lib.hid hO7.rd
  have S7 := Lib.hid T7.out.ld
  clear hb7 hO7 T6 S0
  refine hK _ _ S7.out ?_
  clear hK K
  apply wpP_one
  focus rfl
  intro K hK
  go_simp
  refine (HV.out w7 v7 E7.out (HR.out.below T7.out.2.2.2 h0) (by have := T7.out.2.2.2.size; omega)).mono ?_
  rintro e w8 ⟨rfl, hb8⟩
  have T8 := Lib.hid (T7.out.below hb8)
  have S8 := Lib.hid T8.out.ld
  clear hb8 T7 S7 E7
  refine hK _ _ S8.out ?_
  clear hK K
  iterate 12 (apply wpP_go; (focus rfl); (focus rfl); (focus exact S8.out); (focus (rintro X ⟨s0, s1, s2⟩; go_simp; exact rfl)); intro K hK; go_simp; refine hK _ ?_; clear hK K)
  apply wpP_one
  focus rfl
  intro K hK
  go_simp
  refine (awake_any _ (HR.out.below T8.out.2.2.2 h0) (by have := T8.out.2.2.2.size; omega)).mono ?_
  rintro e w9 ⟨rfl, hb9⟩
  have T9 := Lib.hid (T8.out.below hb9)
  have S9 := Lib.hid T9.out.ld
  clear hb9 T8 S8
  refine hK _ _ S9.out ?_
  clear hK K
  iterate 2 (apply wpP_go; (focus rfl); (focus rfl); (focus exact S9.out); (focus (rintro X ⟨s0, s1, s2⟩; go_simp; exact rfl)); intro K hK; go_simp; refine hK _ ?_; clear hK K)
  refine wpP_done ?_
  have B9 := T9.out.2.2.2
  go_wp2_with fail
  go_ret
  exact ⟨rfl, B9⟩
end Go.Proofs.YtndbbbkdpjkljaaDoor
