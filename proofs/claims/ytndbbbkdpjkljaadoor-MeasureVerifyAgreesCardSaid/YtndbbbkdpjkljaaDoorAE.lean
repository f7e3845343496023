/- VerifyQuote in the program and in the reference. -/
import Derived.Test.YtndbbbkdpjkljaaDoorAD
namespace Go.Proofs.YtndbbbkdpjkljaaDoor
open Go.RowKit
attribute [local go_sem ↓] build26 alloc26 load26n store26n alloc45 load45n store45n
attribute [local go_sem] stN_uc stN_b8 set_new fold_drew ldN_drew ldN_drewN stN_drew stN_drewN stN_ev set_ev stN_b8c set_newc
def vq (key : ByteArray) (es : List Ev) (nonce : ByteArray) (D : Nat → Int) : Bool := es.all okE && (dl (quoD key (rgl (regs es)) nonce) == dl D)
set_option maxRecDepth 100000 in
set_option maxHeartbeats 2000000 in
theorem verify_any (key nonce : ByteArray) (v : Value) (es : List Ev) (D : Nat → Int) (w : World) (h : RdE w v es) (hby : ∀ e ∈ es, Byt e.d) (hl : es.length ≤ 1000) (hD : Byt D) (hk : key.size ≤ 1000) (hs : nonce.size ≤ 1000) (hR : Rnd w) (h0 : 0 < w.heap.size) : Calls Tryd.prog 34 #[.string key, v, .string nonce, .agg (arr 32 (b8 D))] w fun e w' => e = .returned (.bool (vq key es nonce D)) ∧ Below w.heap.size w w' := by
  have HRd := Lib.hid (h.below ((Below.refl w.heap.size w).alloc (Nat.le_refl _) (.cells (arr 32 (b8 D)) 26)) (Nat.le_refl _))
  have HBY := Lib.hid hby
  have bD := Lib.hid hD
  have HR := Lib.hid hR
  have a1 : Hid (Row (w.alloc (.cells (arr 32 (b8 D)) 26)) w.heap.size 26 32 (b8 D)) := Row.ofList w 26 _ _ 32 rfl
  have b1 : Hid (Below w.heap.size w (w.alloc (.cells (arr 32 (b8 D)) 26))) := (Below.refl _ _).alloc (Nat.le_refl _) _
  clear h hby hD hR
  go_enter Tryd.func34, Tryd.ntmps34
  go_wp2_with fail
  generalize w.alloc (.cells (arr 32 (b8 D)) 26) = W at HRd a1 b1 ⊢
  refine (replay_any v es _ (by exact HRd.out) hl HBY.out (by exact HR.out.below b1.out h0) (by have := b1.out.size; omega)).mono ?_
  rintro e w1 hrep
  rcases hrep with ⟨hok, g, rfl, hg, hG, hb⟩ | ⟨hok, rfl, hb⟩
  · obtain ⟨M, hM⟩ : ∃ M : Nat → Int, quoD key (rgl (regs es)) nonce = M := ⟨_, rfl⟩
    have HQ : Hid (∀ V, RG V g (regs es) → Rnd V → 0 < V.heap.size → Calls Tryd.prog 36 #[.string key, .slice (some ⟨g, 0, none⟩) 8 8, .string nonce] V fun e w' => e = .returned (.tuple #[.agg (arr 32 (b8 M)), .int .i64 0]) ∧ Below V.heap.size V w') := fun V h h1 h2 => by
      rw [← hM]; exact quote_yes key nonce _ (rgl (regs es)) V h.rd (fun D hD => by obtain ⟨i, _, rfl⟩ := List.mem_map.1 hD; exact regs_byt _ _) (by simp [rgl]) hk hs h1 h2
    have bM : Hid (Byt M) := by rw [← hM]; exact sumD_byt _
    have HV : Hid (vq key es nonce D = (dl M == dl D)) := by
      show vq key es nonce D = _
      unfold vq
      rw [hok, hM]; rfl
    have a2 := Lib.hid (Row.below a1.out hb a1.out.lt)
    have B2 := Lib.hid (bss b1.out hb)
    have G2 := Lib.hid hG
    clear hM hb hG hok
    go_wp2_with fail
    refine (HQ.out w1 G2.out (HR.out.below B2.out h0) (by have := B2.out.size; omega)).mono ?_
    rintro e w2 ⟨rfl, hb2⟩
    have B3 := Lib.hid ((bss B2.out hb2).alloc (bss B2.out hb2).size (.cells (arr 32 (b8 M)) 26))
    have a3 := Lib.hid (Row.alloc (Row.below a2.out hb2 a2.out.lt) (.cells (arr 32 (b8 M)) 26))
    have r3 : Hid (Row (w2.alloc (.cells (arr 32 (b8 M)) 26)) w2.heap.size 26 32 (b8 M)) := Row.ofList w2 26 _ _ 32 rfl
    clear hb2
    have lA : ldN 32 (w2.alloc (.cells (arr 32 (b8 M)) 26)) (.pointer (some ⟨w2.heap.size, 0, none⟩)) = some (arr 32 (b8 M)) := ldN_of (Row.range0 r3.out) (by simp [arr])
    have lB : ldN 32 (w2.alloc (.cells (arr 32 (b8 M)) 26)) (.pointer (some ⟨w.heap.size, 0, none⟩)) = some (arr 32 (b8 D)) := ldN_of (Row.range0 a3.out) (by simp [arr])
    have heq : ∀ X, (binOp .eql 26 (.agg (arr 32 (b8 M))) (.agg (arr 32 (b8 D)))).run Tryd.prog X = .ok (.bool (dl M == dl D)) X := fun X => eqD bM.out bD.out X
    obtain ⟨t, ht⟩ : ∃ t : Bool, (dl M == dl D) = t := ⟨_, rfl⟩
    rw [ht] at heq HV
    clear ht
    go_wp2_with fail
    go_ret
    exact ⟨by rw [HV.out]; rfl, B3.out⟩
  · have HV : Hid (vq key es nonce D = false) := by
      show vq key es nonce D = _
      unfold vq
      rw [hok]; rfl
    have B2 := Lib.hid (bss b1.out hb)
    clear hb hok
    go_wp2_with fail
    go_ret
    exact ⟨by rw [HV.out]; rfl, B2.out⟩
set_option maxRecDepth 100000 in
set_option maxHeartbeats 2000000 in
theorem rverify_any (key nonce : ByteArray) (v : Value) (es : List Ev) (D : Nat → Int) (w : World) (h : RdE w v es) (hby : ∀ e ∈ es, Byt e.d) (hl : es.length ≤ 1000) (hD : Byt D) (hk : key.size ≤ 1000) (hs : nonce.size ≤ 1000) : Calls Tryd.prog 35 #[.string key, v, .string nonce, .agg (arr 32 (b8 D))] w fun e w' => e = .returned (.bool (vq key es nonce D)) ∧ Below w.heap.size w w' := by
  have HRd := Lib.hid (h.below ((Below.refl w.heap.size w).alloc (Nat.le_refl _) (.cells (arr 32 (b8 D)) 26)) (Nat.le_refl _))
  have HBY := Lib.hid hby
  have bD := Lib.hid hD

  have a1 : Hid (Row (w.alloc (.cells (arr 32 (b8 D)) 26)) w.heap.size 26 32 (b8 D)) := Row.ofList w 26 _ _ 32 rfl
  have b1 : Hid (Below w.heap.size w (w.alloc (.cells (arr 32 (b8 D)) 26))) := (Below.refl _ _).alloc (Nat.le_refl _) _
  clear h hby hD
  go_enter Tryd.func35, Tryd.ntmps35
  go_wp2_with fail
  generalize w.alloc (.cells (arr 32 (b8 D)) 26) = W at HRd a1 b1 ⊢
  refine (rreplay_any v es _ (by exact HRd.out) hl HBY.out).mono ?_
  rintro e w1 hrep
  rcases hrep with ⟨hok, g, rfl, hg, hG, hb⟩ | ⟨hok, rfl, hb⟩
  · obtain ⟨M, hM⟩ : ∃ M : Nat → Int, quoD key (rgl (regs es)) nonce = M := ⟨_, rfl⟩
    have HQ : Hid (∀ V, RG V g (regs es) → Calls Tryd.prog 33 #[.string key, .slice (some ⟨g, 0, none⟩) 8 8, .string nonce] V fun e w' => e = .returned (.tuple #[.agg (arr 32 (b8 M)), .int .i64 0]) ∧ Below V.heap.size V w') := fun V h => by
      rw [← hM]; exact rquote_yes key nonce _ (rgl (regs es)) V h.rd (fun D hD => by obtain ⟨i, _, rfl⟩ := List.mem_map.1 hD; exact regs_byt _ _) (by simp [rgl]) hk hs
    have bM : Hid (Byt M) := by rw [← hM]; exact sumD_byt _
    have HV : Hid (vq key es nonce D = (dl M == dl D)) := by
      show vq key es nonce D = _
      unfold vq
      rw [hok, hM]; rfl
    have a2 := Lib.hid (Row.below a1.out hb a1.out.lt)
    have B2 := Lib.hid (bss b1.out hb)
    have G2 := Lib.hid hG
    clear hM hb hG hok
    go_wp2_with fail
    refine (HQ.out w1 G2.out).mono ?_
    rintro e w2 ⟨rfl, hb2⟩
    have B3 := Lib.hid ((bss B2.out hb2).alloc (bss B2.out hb2).size (.cells (arr 32 (b8 M)) 26))
    have a3 := Lib.hid (Row.alloc (Row.below a2.out hb2 a2.out.lt) (.cells (arr 32 (b8 M)) 26))
    have r3 : Hid (Row (w2.alloc (.cells (arr 32 (b8 M)) 26)) w2.heap.size 26 32 (b8 M)) := Row.ofList w2 26 _ _ 32 rfl
    clear hb2
    have lA : ldN 32 (w2.alloc (.cells (arr 32 (b8 M)) 26)) (.pointer (some ⟨w2.heap.size, 0, none⟩)) = some (arr 32 (b8 M)) := ldN_of (Row.range0 r3.out) (by simp [arr])
    have lB : ldN 32 (w2.alloc (.cells (arr 32 (b8 M)) 26)) (.pointer (some ⟨w.heap.size, 0, none⟩)) = some (arr 32 (b8 D)) := ldN_of (Row.range0 a3.out) (by simp [arr])
    have heq : ∀ X, (binOp .eql 26 (.agg (arr 32 (b8 M))) (.agg (arr 32 (b8 D)))).run Tryd.prog X = .ok (.bool (dl M == dl D)) X := fun X => eqD bM.out bD.out X
    obtain ⟨t, ht⟩ : ∃ t : Bool, (dl M == dl D) = t := ⟨_, rfl⟩
    rw [ht] at heq HV
    clear ht
    go_wp2_with fail
    go_ret
    exact ⟨by rw [HV.out]; rfl, B3.out⟩
  · have HV : Hid (vq key es nonce D = false) := by
      show vq key es nonce D = _
      unfold vq
      rw [hok]; rfl
    have B2 := Lib.hid (bss b1.out hb)
    clear hb hok
    go_wp2_with fail
    go_ret
    exact ⟨by rw [HV.out]; rfl, B2.out⟩
end Go.Proofs.YtndbbbkdpjkljaaDoor
