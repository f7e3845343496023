/- The reference's block: what it computes. Condition: a block of 64 bytes, numbers below 2^32. -/
import Derived.Test.YtndbbbkdpjkljaaDoorH
import Derived.Test.YtndbbbkdpjkljaaDoorV
namespace Go.Proofs.YtndbbbkdpjkljaaDoor
open Go.RowKit
attribute [local go_sem ↓] alloc26 alloc63 alloc77 load63n store63n load77n store77n
attribute [local go_sem] stN_uc set_new

theorem Row.range0 {w : World} {B t N : Nat} {v : Nat → Value} (h : Row w B t N v) : w.rangeAt B 0 (YtndbbbkdpjkljaaDoor.arr N v).toList := fun j u hu => by
  have hj : j < N := by have := (List.getElem?_eq_some_iff.1 hu).1; simpa [YtndbbbkdpjkljaaDoor.arr] using this
  have : u = v j := by simpa [YtndbbbkdpjkljaaDoor.arr, hj] using hu.symm
  rw [this, Nat.zero_add, Row.cell h hj]
theorem t1_w (rk wk : Int) (x : S8) : IntKind.u32.wrap (IntKind.u32.wrap (IntKind.u32.wrap (IntKind.u32.wrap (x.h + bits BinOp.xor IntKind.u32 (bits BinOp.xor IntKind.u32 (rr 64 67108864 x.e) (rr 2048 2097152 x.e)) (rr 33554432 128 x.e)) +
    bits BinOp.xor IntKind.u32 (bits BinOp.and IntKind.u32 x.e x.f) (bits BinOp.and IntKind.u32 (bits BinOp.xor IntKind.u32 IntKind.u32.max x.e) x.g)) + rk) + wk) = t1 rk wk x := by
  simp only [IntKind.wrap_u32']; rfl
theorem t2_w (x : S8) : IntKind.u32.wrap (bits BinOp.xor IntKind.u32 (bits BinOp.xor IntKind.u32 (rr 4 1073741824 x.a) (rr 8192 524288 x.a)) (rr 4194304 1024 x.a) +
    bits BinOp.xor IntKind.u32 (bits BinOp.xor IntKind.u32 (bits BinOp.and IntKind.u32 x.a x.b) (bits BinOp.and IntKind.u32 x.a x.c)) (bits BinOp.and IntKind.u32 x.b x.c)) = t2 x := by
  simp only [IntKind.wrap_u32']; rfl
def pr (hv : Nat → Int) (x : S8) (j q : Nat) : Int := if q < j then ad3 (x.get q) (hv q) else x.get q
theorem pr_hi (hv : Nat → Int) (x : S8) (j q : Nat) (h : j ≤ q) : pr hv x j q = x.get q := if_neg (by omega)
theorem pr_lo (hv : Nat → Int) (x : S8) (j q : Nat) (h : q < j) : pr hv x j q = ad3 (x.get q) (hv q) := if_pos h
theorem pr_step (hv : Nat → Int) (x : S8) (j : Nat) : upd (pr hv x j) j (ad3 (x.get j) (hv j)) = pr hv x (j + 1) := by
  funext q
  by_cases e : q = j
  · subst e; rw [upd_hit, pr_lo _ _ _ _ (by omega)]
  · rw [upd_miss _ _ e]
    by_cases h : q < j
    · rw [pr_lo _ _ _ _ h, pr_lo _ _ _ _ (by omega)]
    · rw [pr_hi _ _ _ _ (by omega), pr_hi _ _ _ _ (by omega)]
structure BI (w wr : World) (Kb Sb : Nat) (hv f g : Nat → Int) : Prop where
  rW : Row wr (Kb + 1) 77 64 (uc f)
  rK : Row wr Kb 77 64 (uc rc)
  rH : Row wr w.heap.size 63 8 (uc hv)
  rO : Row wr (w.heap.size + 1) 63 8 (uc fun _ => 0)
  rS : Row wr Sb 63 8 (uc g)
  bel : Below w.heap.size w wr
theorem BI.drew {w wr : World} {Kb Sb : Nat} {hv f g : Nat → Int} (h : BI w wr Kb Sb hv f g) : BI w wr.drew Kb Sb hv f g := ⟨h.rW.drew, h.rK.drew, h.rH.drew, h.rO.drew, h.rS.drew, h.bel.drew⟩
theorem stp_row {W : World} {Sb t : Nat} {g : Nat → Int} (h : Row W Sb t 8 (uc g)) (y : S8) : Row (W.setCells Sb 0 [.int .u32 y.a, .int .u32 y.b, .int .u32 y.c, .int .u32 y.d, .int .u32 y.e, .int .u32 y.f, .int .u32 y.g, .int .u32 y.h]) Sb t 8 (uc y.get) := by
  refine Row.congr (Row.setAll _ 0 W _ h (by simp)) fun i hi => ?_
  match i, hi with
  | 0, _ => rfl
  | 1, _ => rfl
  | 2, _ => rfl
  | 3, _ => rfl
  | 4, _ => rfl
  | 5, _ => rfl
  | 6, _ => rfl
  | 7, _ => rfl
theorem Row.farAll {B t N : Nat} {v : Nat → Value} {b : Nat} (hb : B ≠ b) : ∀ (vs : List Value) (o : Nat) (w : World), Row w B t N v → Row (w.setCells b o vs) B t N v
  | [], _, _, h => h
  | u :: r, o, _, h => Row.farAll hb r (o + 1) _ (h.far (p := ⟨b, o, none⟩) hb u)
set_option maxRecDepth 100000 in
set_option maxHeartbeats 4000000 in
theorem block_any (hv : Nat → Int) (s : ByteArray) (w : World) (hs : s.size = 64) (hu : ∀ i, U (hv i)) :
    Calls Tryd.prog 38 #[.agg (arr 8 (uc hv)), .string s] w fun e w' => e = .returned (.agg (arr 8 (uc (blk hv s.data.toList)))) ∧ Below w.heap.size w w' := by
  have HZ := Lib.hid hs
  have HU := Lib.hid hu
  have hz1 : s.size ≤ 64 := by omega
  have hz2 : 64 ≤ s.size := by omega
  clear hs hu
  go_enter Tryd.func38, Tryd.ntmps38
  go_wp2_with (first | (go_at_call 43; refine (words_any _).mono ?_; rintro e w1 ⟨rfl, hb⟩))
  have hbs := hb.size
  simp at hbs
  have r1 : Row (w.alloc (.cells (arr 8 (uc hv)) 63)) w.heap.size 63 8 (uc hv) := Row.ofList w 63 _ _ 8 rfl
  have r2 : Row ((w.alloc (.cells (arr 8 (uc hv)) 63)).alloc (.cells (arr 8 (uc fun _ => 0)) 63)) (w.heap.size + 1) 63 8 (uc fun _ => 0) := Row.ofListAt _ _ 63 (by simp) _ _ 8 rfl
  have q1 := ((r1.alloc _).below hb (by simp; omega)).alloc (.cells (arr 64 (uc rc)) 77) |>.alloc (.cells (arr 64 (uc fun _ => 0)) 77)
  have q2 := (r2.below hb (by simp)).alloc (.cells (arr 64 (uc rc)) 77) |>.alloc (.cells (arr 64 (uc fun _ => 0)) 77)
  have q3 := (Row.ofList w1 77 (arr 64 (uc rc)) (uc rc) 64 rfl).alloc (.cells (arr 64 (uc fun _ => 0)) 77)
  have q4 : Row ((w1.alloc (.cells (arr 64 (uc rc)) 77)).alloc (.cells (arr 64 (uc fun _ => 0)) 77)) (w1.heap.size + 1) 77 64 (uc fun _ => 0) := Row.ofListAt _ _ 77 (by simp) _ _ 64 rfl
  have hbW : Below w.heap.size w ((w1.alloc (.cells (arr 64 (uc rc)) 77)).alloc (.cells (arr 64 (uc fun _ => 0)) 77)) := (((((Below.refl _ _).alloc (Nat.le_refl _) _).alloc (by simp) _).trans (hb.mono (by simp; omega))).alloc (by omega) _).alloc (by simp; omega) _
  clear hb r1 r2
  have HQ1 := Lib.hid q1
  have HQ2 := Lib.hid q2
  have HQ3 := Lib.hid q3
  have HQ4 := Lib.hid q4
  clear q1 q2 q3 q4
  generalize hG : (w1.alloc (.cells (arr 64 (uc rc)) 77)).alloc (.cells (arr 64 (uc fun _ => 0)) 77) = W at HQ1 HQ2 HQ3 HQ4 hbW ⊢
  generalize w1.heap.size = Kb at hbs HQ3 HQ4 ⊢
  clear hG w1
  have hne1 : w.heap.size ≠ Kb + 1 := by omega
  have hne2 : w.heap.size + 1 ≠ Kb + 1 := by omega
  have hne3 : Kb ≠ Kb + 1 := by omega
  have hle : w.heap.size ≤ Kb + 1 := by omega
  go_loopw [7] (fun i wr => ∃ (k : Nat) (f : Nat → Int), k ≤ 64 ∧ i = .int .i64 k ∧ Hid (Row wr (Kb + 1) 77 64 (uc f)) ∧ Hid (∀ j, j < k → f j = sw s.data.toList j) ∧ Hid (Row wr Kb 77 64 (uc rc)) ∧ Hid (Row wr w.heap.size 63 8 (uc hv)) ∧ Hid (Row wr (w.heap.size + 1) 63 8 (uc fun _ => 0)) ∧ Below w.heap.size w wr) (fun i _ => 64 - (intOf i).toNat)
  case atStart => exact ⟨0, fun _ => 0, by omega, rfl, HQ4, fun j hj => by omega, HQ3, HQ1, HQ2, hbW⟩
  case round =>
    clear HQ1 HQ2 HQ3 HQ4 hbW
    obtain ⟨k, f, hk, rfl, hrow, hf, hK, hH, hO, hbel⟩ := hrel
    have hsz := hrow.out.lt
    by_cases hlt : k < 64
    · have k1 : (k : Int) < 64 := by omega
      by_cases hlt6 : k < 16
      · have k2 : (k : Int) < 16 := by omega
        have fr := Row.frozen hrow.out k
        have ce := Row.cell hrow.out (show k < 64 by omega)
        unfold uc at ce
        have i0 : (0 : Int) ≤ 4 * k ∧ (4 : Int) * k < s.size := by omega
        have i1 : (0 : Int) ≤ 4 * k + 1 ∧ (4 : Int) * k + 1 < s.size := by omega
        have i2 : (0 : Int) ≤ 4 * k + 2 ∧ (4 : Int) * k + 2 < s.size := by omega
        have i3 : (0 : Int) ≤ 4 * k + 3 ∧ (4 : Int) * k + 3 < s.size := by omega
        have w0 : IntKind.i64.wrap (4 * (k : Int)) = 4 * k := IntWalk.i64_in _ (by omega)
        have w1 : IntKind.i64.wrap (4 * (k : Int) + 1) = 4 * k + 1 := IntWalk.i64_in _ (by omega)
        have w2 : IntKind.i64.wrap (4 * (k : Int) + 2) = 4 * k + 2 := IntWalk.i64_in _ (by omega)
        have w3 : IntKind.i64.wrap (4 * (k : Int) + 3) = 4 * k + 3 := IntWalk.i64_in _ (by omega)
        go_wp2
        go_still_tail 31, (by kernel_rfl)
        change wpList _ _ _ _ _ wr.drew
        go_wp2
        have HE := Lib.hid (wdr_eq s k (by omega) (by omega) (by omega) (by omega))
        go_roundw
        case rel =>
          have ev : ((((s[4 * k].toNat : Nat) : Int) % 4294967296 * 16777216) + (((s[4 * k + 1].toNat : Nat) : Int) % 4294967296 * 65536) + (((s[4 * k + 2].toNat : Nat) : Int) % 4294967296 * 256) + ((s[4 * k + 3].toNat : Nat) : Int)) % 4294967296 = wd s.data.toList k := by rw [← HE.out]; omega
          rw [ev]
          refine ⟨k + 1, upd f k (wd s.data.toList k), by omega, by go_num, ?_, fun j hj => ?_, hK.out.far hne3 _, hH.out.far hne1 _, hO.out.far hne2 _, (hbel.setCell hle _).drew⟩
          · have := Row.set hrow.out (i := k) (by omega) (.int .u32 (wd s.data.toList k))
            rw [uc_upd] at this
            exact this
          · by_cases e : j = k
            · subst e; rw [upd_hit, sw_last _ _ (by omega), if_pos hlt6]
            · rw [upd_miss _ _ e]; exact hf.out j (by omega)
        case measure => simp [intOf]; omega
      · have k2 : ¬ (k : Int) < 16 := by omega
        have c15 := Row.cell hrow.out (show k - 15 < 64 by omega)
        have c2 := Row.cell hrow.out (show k - 2 < 64 by omega)
        have c16 := Row.cell hrow.out (show k - 16 < 64 by omega)
        have c7 := Row.cell hrow.out (show k - 7 < 64 by omega)
        have ck := Row.cell hrow.out (show k < 64 by omega)
        have fr := Row.frozen hrow.out k
        unfold uc at c15 c2 c16 c7 ck
        rw [hf.out _ (by omega)] at c15 c2 c16 c7
        have u15 := sw_u s.data.toList (k - 15) (by omega)
        have u2 := sw_u s.data.toList (k - 2) (by omega)
        have u16 := sw_u s.data.toList (k - 16) (by omega)
        have u7 := sw_u s.data.toList (k - 7) (by omega)
        have e15 : IntKind.i64.wrap ((k : Int) - 15) = (k : Int) - 15 := IntWalk.i64_in _ (by omega)
        have e2 : IntKind.i64.wrap ((k : Int) - 2) = (k : Int) - 2 := IntWalk.i64_in _ (by omega)
        have e16 : IntKind.i64.wrap ((k : Int) - 16) = (k : Int) - 16 := IntWalk.i64_in _ (by omega)
        have e7 : IntKind.i64.wrap ((k : Int) - 7) = (k : Int) - 7 := IntWalk.i64_in _ (by omega)
        have HN := Lib.hid (sw_last s.data.toList k hlt)
        generalize sw s.data.toList (k - 15) = x15 at c15 u15 HN
        generalize sw s.data.toList (k - 2) = x2 at c2 u2 HN
        generalize sw s.data.toList (k - 16) = x16 at c16 u16 HN
        generalize sw s.data.toList (k - 7) = x7 at c7 u7 HN
        have U15 := Lib.hid u15
        have U2 := Lib.hid u2
        clear u15 u2
        have b16 : (k : Int) - 16 < 64 := by omega
        have b7 : (k : Int) - 7 < 64 := by omega
        have b7' : (7 : Int) ≤ k := by omega
        have b16' : (16 : Int) ≤ k := by omega
        go_wp2_with fail
        go_quiet (fail)
        go_wp2_with fail
        have t16 : (wr.drewN nq).cell? ⟨Kb + 1, ((k : Int) - 16).toNat, none⟩ = some (.int .u32 x16) := by rw [show ((k : Int) - 16).toNat = k - 16 by omega]; exact c16
        have t7 : (wr.drewN nq).cell? ⟨Kb + 1, ((k : Int) - 7).toNat, none⟩ = some (.int .u32 x7) := by rw [show ((k : Int) - 7).toNat = k - 7 by omega]; exact c7
        have tk : (wr.drewN nq).cell? ⟨Kb + 1, k, none⟩ = some (.int .u32 (f k)) := ck
        have tf : (wr.drewN nq).frozen? ⟨Kb + 1, k, none⟩ = false := fr
        have hrow2 := Lib.hid (hrow.out.drewN nq)
        have hK2 := Lib.hid (hK.out.drewN nq)
        have hH2 := Lib.hid (hH.out.drewN nq)
        have hO2 := Lib.hid (hO.out.drewN nq)
        have hbel2 := below_drewN hbel nq
        have hsz2 := hrow2.out.lt
        clear hrow hK hH hO hbel c15 c2 c16 c7 ck fr hsz
        generalize wr.drewN nq = W2 at t16 t7 tk tf hrow2 hK2 hH2 hO2 hbel2 hsz2 ⊢
        go_still_tail 29, (by kernel_rfl)
        still_call (stl (ref7 _ _ U15.out))
        repeat still_step
        still_call (stl (ref18 _ _ U15.out))
        repeat still_step
        still_call (stl (ref17 _ _ U2.out))
        repeat still_step
        still_call (stl (ref19 _ _ U2.out))
        repeat still_step
        refine wpStill_nil ?_
        change wpList _ _ _ _ _ W2.drew
        go_wp2_with fail
        go_roundw
        case rel =>
          have ev : sw s.data.toList k = nx x16 x15 x7 x2 := by rw [HN.out, if_neg (by omega)]
          rw [nx_eq, ← ev]
          refine ⟨k + 1, upd f k (sw s.data.toList k), by omega, by go_num, ?_, fun j hj => ?_, hK2.out.far hne3 _, hH2.out.far hne1 _, hO2.out.far hne2 _, (hbel2.setCell hle _).drew⟩
          · have := Row.set hrow2.out (i := k) (by omega) (.int .u32 (sw s.data.toList k))
            rw [uc_upd] at this
            exact this
          · by_cases e : j = k
            · subst e; rw [upd_hit]
            · rw [upd_miss _ _ e]; exact hf.out j (by omega)
        case measure => simp [intOf]; omega
    · have k1 : ¬ (k : Int) < 64 := by omega
      have hk64 : Hid (k = 64) := (by omega : k = 64)
      have hAH := Lib.hid hH.out.arr
      have hld : ldN 8 wr (.pointer (some ⟨w.heap.size, 0, none⟩)) = some (arr 8 (uc hv)) := ldN_of (Row.range0 hH.out) (by simp [arr])
      go_wp2_with fail
      have hI0 : Hid (BI w (wr.alloc (.cells (arr 8 (uc hv)) 63)) Kb wr.heap.size hv f (S8.of hv).get) := ⟨hrow.out.alloc _, hK.out.alloc _, hH.out.alloc _, hO.out.alloc _, Row.congr (Row.ofList wr 63 (arr 8 (uc hv)) (uc hv) 8 rfl) (fun i hi => by
        match i, hi with
        | 0, _ => rfl
        | 1, _ => rfl
        | 2, _ => rfl
        | 3, _ => rfl
        | 4, _ => rfl
        | 5, _ => rfl
        | 6, _ => rfl
        | 7, _ => rfl), hbel.alloc hbel.size _⟩
      have hS1 : Kb + 1 < wr.heap.size := hsz
      clear hld hAH hrow hK hH hO hbel hsz
      generalize wr.alloc (.cells (arr 8 (uc hv)) 63) = W0 at hI0 ⊢
      generalize wr.heap.size = Sb at hI0 hS1 ⊢
      have hx0 : (S8.of hv).u := ⟨HU.out 0, HU.out 1, HU.out 2, HU.out 3, HU.out 4, HU.out 5, HU.out 6, HU.out 7⟩
      have HX0 := Lib.hid hx0
      clear hx0
      have hf64 : Hid (∀ j, j < 64 → f j = sw s.data.toList j) := by have := hf.out; rw [hk64.out] at this; exact this
      have ne1 : Kb + 1 ≠ Sb := by omega
      have ne2 : Kb ≠ Sb := by omega
      have ne3 : w.heap.size ≠ Sb := by omega
      have ne4 : w.heap.size + 1 ≠ Sb := by omega
      have hleS : w.heap.size ≤ Sb := by omega
      clear hk64 hf hlt k1 hk
      go_loopw [11] (fun i wr => ∃ (k : Nat) (x : S8), k ≤ 64 ∧ i = .int .i64 k ∧ Hid (x = rnds rc (sw s.data.toList) (S8.of hv) k) ∧ Hid (BI w wr Kb Sb hv f x.get)) (fun i _ => 64 - (intOf i).toNat)
      case atStart => exact ⟨0, S8.of hv, by omega, rfl, rfl, hI0⟩
      case round =>
        clear hI0
        obtain ⟨k, x, hk, rfl, hx, hI⟩ := hrel
        by_cases hlt : k < 64
        · have k1 : (k : Int) < 64 := by omega
          have hxu : x.u := by rw [hx.out]; exact rnds_u HX0.out k
          obtain ⟨ua, ub, uc', ud, ue, uf, ug, uh⟩ := hxu
          have UA := Lib.hid ua
          have UE := Lib.hid ue
          obtain ⟨ue0, ue1⟩ := ue
          have kc := rc_u k
          have kw := sw_u s.data.toList k hlt
          have HST : Hid (rnds rc (sw s.data.toList) (S8.of hv) (k + 1) = stp (rc k) (sw s.data.toList k) x) := (by rw [hx.out]; rfl : rnds rc (sw s.data.toList) (S8.of hv) (k + 1) = stp (rc k) (sw s.data.toList k) x)
          have HCK : Hid (∀ V, BI w V Kb Sb hv f x.get → V.cell? ⟨Kb, k, none⟩ = some (.int .u32 (rc k)) ∧ V.cell? ⟨Kb + 1, k, none⟩ = some (.int .u32 (sw s.data.toList k)) ∧ V.cell? ⟨Sb, 0, none⟩ = some (.int .u32 x.a) ∧ V.cell? ⟨Sb, 1, none⟩ = some (.int .u32 x.b) ∧ V.cell? ⟨Sb, 2, none⟩ = some (.int .u32 x.c) ∧ V.cell? ⟨Sb, 3, none⟩ = some (.int .u32 x.d) ∧ V.cell? ⟨Sb, 4, none⟩ = some (.int .u32 x.e) ∧ V.cell? ⟨Sb, 5, none⟩ = some (.int .u32 x.f) ∧ V.cell? ⟨Sb, 6, none⟩ = some (.int .u32 x.g) ∧ V.cell? ⟨Sb, 7, none⟩ = some (.int .u32 x.h)) := fun V h =>
            ⟨Row.cell h.rK hlt, by rw [Row.cell h.rW hlt]; unfold uc; rw [hf64.out k hlt], Row.cell h.rS (i := 0) (by omega), Row.cell h.rS (i := 1) (by omega), Row.cell h.rS (i := 2) (by omega), Row.cell h.rS (i := 3) (by omega), Row.cell h.rS (i := 4) (by omega), Row.cell h.rS (i := 5) (by omega), Row.cell h.rS (i := 6) (by omega), Row.cell h.rS (i := 7) (by omega)⟩
          generalize rc k = rk at kc HST HCK
          generalize sw s.data.toList k = wk at kw HST HCK
          obtain ⟨ck, cw, c0, c1, c2, c3, c4, c5, c6, c7⟩ := HCK.out _ hI.out
          go_wp2_with fail
          refine wp_region_still_lit (by kernel_rfl) (by kernel_rfl) ?_
          repeat still_step
          refine wpStill_nil ?_
          change Exit.then _ _ _ _ wr.drew
          have hI1 := Lib.hid hI.out.drew
          clear ck cw c0 c1 c2 c3 c4 c5 c6 c7 hI
          generalize wr.drew = V1 at hI1 ⊢
          obtain ⟨ck, cw, c0, c1, c2, c3, c4, c5, c6, c7⟩ := HCK.out _ hI1.out
          go_wp2_with fail
          refine wp_region_still_lit (by kernel_rfl) (by kernel_rfl) ?_
          repeat still_step
          still_call (stl (ref6 _ _ UE.out))
          repeat still_step
          still_call (stl (ref11 _ _ UE.out))
          repeat still_step
          still_call (stl (ref25 _ _ UE.out))
          repeat still_step
          refine wpStill_nil ?_
          change Exit.then _ _ _ _ V1.drew
          have hI2 := Lib.hid hI1.out.drew
          clear ck cw c0 c1 c2 c3 c4 c5 c6 c7 hI1
          generalize V1.drew = V2 at hI2 ⊢
          obtain ⟨ck, cw, c0, c1, c2, c3, c4, c5, c6, c7⟩ := HCK.out _ hI2.out
          go_wp2_with fail
          refine wp_region_still_lit (by kernel_rfl) (by kernel_rfl) ?_
          repeat still_step
          still_call (stl (ref2 _ _ UA.out))
          repeat still_step
          still_call (stl (ref13 _ _ UA.out))
          repeat still_step
          still_call (stl (ref22 _ _ UA.out))
          repeat still_step
          refine wpStill_nil ?_
          change Exit.then _ _ _ _ V2.drew
          have hI3 := Lib.hid hI2.out.drew
          clear ck cw c0 c1 c2 c3 c4 c5 c6 c7 hI2
          generalize V2.drew = V3 at hI3 ⊢
          obtain ⟨ck, cw, c0, c1, c2, c3, c4, c5, c6, c7⟩ := HCK.out _ hI3.out
          rw [t1_w, t2_w]
          have hU1 : U (t1 rk wk x) := ad3_u _ _
          have hU2 : U (t2 x) := ad3_u _ _
          generalize hT1 : t1 rk wk x = T1 at hU1 ⊢
          generalize hT2 : t2 x = T2 at hU2 ⊢
          have HT1 := Lib.hid hT1
          have HT2 := Lib.hid hT2
          clear hT1 hT2
          have hst : ∀ a0 a1 a2 a3 a4 a5 a6 a7 : Int, stN 8 V3 (.pointer (some ⟨Sb, 0, none⟩)) (.agg #[.int .u32 a0, .int .u32 a1, .int .u32 a2, .int .u32 a3, .int .u32 a4, .int .u32 a5, .int .u32 a6, .int .u32 a7]) = some (Sb, 0, #[.int .u32 a0, .int .u32 a1, .int .u32 a2, .int .u32 a3, .int .u32 a4, .int .u32 a5, .int .u32 a6, .int .u32 a7]) := fun _ _ _ _ _ _ _ _ => stN_of rfl hI3.out.rS.there (by kernel_rfl)
          go_wp2_with fail
          refine ⟨⟨k + 1, stp rk wk x, by omega, by go_num, HST.out.symm, ?_⟩, by simp [intOf]; omega⟩
          have hr := stp_row hI3.out.rS (stp rk wk x)
          have e : stp rk wk x = ⟨(T1 + T2) % 4294967296, x.a, x.b, x.c, (x.d + T1) % 4294967296, x.e, x.f, x.g⟩ := by rw [← HT1.out, ← HT2.out]; rfl
          rw [e] at hr ⊢
          exact ⟨Row.farAll ne1 _ _ _ hI3.out.rW, Row.farAll ne2 _ _ _ hI3.out.rK, Row.farAll ne3 _ _ _ hI3.out.rH, Row.farAll ne4 _ _ _ hI3.out.rO, hr, Below.setAll hleS _ _ _ hI3.out.bel⟩
        · have k1 : ¬ (k : Int) < 64 := by omega
          have hk64 : Hid (k = 64) := (by omega : k = 64)
          have hxe : Hid (x = rnds rc (sw s.data.toList) (S8.of hv) 64) := by have := hx.out; rw [hk64.out] at this; exact this
          go_wp2_with fail
          obtain ⟨wq, rfl⟩ : ∃ wq : World, wq = wr := ⟨_, rfl⟩
          go_loopw [16] (fun i wr => ∃ (j : Nat), j ≤ 8 ∧ i = .int .i64 j ∧ Hid (BI w wr Kb Sb hv f (pr hv x j))) (fun i _ => 8 - (intOf i).toNat)
          case atStart => exact ⟨0, by omega, rfl, hI⟩
          case round =>
            clear hI
            obtain ⟨j, hj, rfl, hI⟩ := hrel
            by_cases hj8 : j < 8
            · have j1 : (j : Int) < 8 := by omega
              have cj := Row.cell hI.out.rS hj8
              have ch := Row.cell hI.out.rH hj8
              unfold uc at cj ch
              rw [pr_hi _ _ _ _ (Nat.le_refl _)] at cj
              have fj := Row.frozen hI.out.rS j
              go_wp2_with fail
              go_still_tail 9, (by kernel_rfl)
              change wpList _ _ _ _ _ wr.drew
              go_wp2_with fail
              refine ⟨⟨j + 1, by omega, by go_num, ?_⟩, by simp [intOf]; omega⟩
              have hr := Row.set hI.out.rS (i := j) hj8 (.int .u32 (ad3 (x.get j) (hv j)))
              rw [uc_upd, pr_step] at hr
              exact BI.drew ⟨hI.out.rW.far ne1 _, hI.out.rK.far ne2 _, hI.out.rH.far ne3 _, hI.out.rO.far ne4 _, hr, hI.out.bel.setCell hleS _⟩
            · have j1 : ¬ (j : Int) < 8 := by omega
              have hlR : ldN 8 wr (.pointer (some ⟨Sb, 0, none⟩)) = some (arr 8 (uc (pr hv x j))) := ldN_of (Row.range0 hI.out.rS) (by simp [arr])
              have hsR : stN 8 wr (.pointer (some ⟨w.heap.size + 1, 0, none⟩)) (.agg (arr 8 (uc (pr hv x j)))) = some (w.heap.size + 1, 0, arr 8 (uc (pr hv x j))) := stN_of (by simp [arr]) hI.out.rO.there (all_one _ _ (fun _ => rfl))
              have hrow := Lib.hid (Row.setWhole (u := uc (pr hv x j)) hI.out.rO)
              go_wp2_with fail
              refine bodyPost_ret (v := .agg (arr 8 (uc (pr hv x j)))) (results_cell_row rfl _ _ (w.heap.size + 1) 63 (arr 8 (uc (pr hv x j))) (0, 0) _ rfl hrow.out.arr Tryd.underlying63 rfl (by kernel_rfl)) rfl ⟨?_, Below.setAll (by omega) _ _ _ hI.out.bel⟩
              have hj : j = 8 := by omega
              rw [hj]
              have e : arr 8 (uc (pr hv x 8)) = arr 8 (uc (blk hv s.data.toList)) := by
                unfold arr
                congr 1
                apply List.map_congr_left
                intro i hi
                unfold uc blk
                rw [pr_lo _ _ _ _ (by have := List.mem_range.1 hi; omega), ← hxe.out]
                unfold ad3
                rw [Int.add_comm]
              rw [e]
end Go.Proofs.YtndbbbkdpjkljaaDoor
