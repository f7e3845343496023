/- mix: what it does to the state. Condition: a block of 64 bytes. -/
import Derived.Test.YtndbbbkdpjkljaaDoorP
namespace Go.Proofs.YtndbbbkdpjkljaaDoor
open Go.RowKit

/-- Cells of 32-bit numbers. -/
def uc (f : Nat → Int) (i : Nat) : Value := .int .u32 (f i)
theorem uc_upd (f : Nat → Int) (k : Nat) (v : Int) : upd (uc f) k (.int .u32 v) = uc (upd f k v) := by
  funext j
  by_cases e : j = k
  · subst e; rw [upd_hit]; unfold uc; rw [upd_hit]
  · rw [upd_miss _ _ e]; unfold uc; rw [upd_miss _ _ e]

theorem byte_at (s : ByteArray) (i : Nat) (h : i < s.size) : ((s[i].toNat : Nat) : Int) = bt s.data.toList i := by
  unfold bt
  rw [List.getD_eq_getElem?_getD, List.getElem?_eq_getElem (by simpa using h)]
  rfl
theorem wd_eq (s : ByteArray) (k : Nat) (h0 : 4 * k < s.size) (h1 : 4 * k + 1 < s.size) (h2 : 4 * k + 2 < s.size) (h3 : 4 * k + 3 < s.size) :
    bits BinOp.or IntKind.u32 (bits BinOp.or IntKind.u32 (bits BinOp.or IntKind.u32 (((s[4 * k].toNat : Nat) : Int) % 4294967296 * 16777216 % 4294967296)
      (((s[4 * k + 1].toNat : Nat) : Int) % 4294967296 * 65536 % 4294967296)) (((s[4 * k + 2].toNat : Nat) : Int) % 4294967296 * 256 % 4294967296)) (((s[4 * k + 3].toNat : Nat) : Int) % 4294967296) = wd s.data.toList k := by
  rw [byte_at s _ h0, byte_at s _ h1, byte_at s _ h2, byte_at s _ h3]
  have b0 := bt_bd s.data.toList (4 * k)
  have b1 := bt_bd s.data.toList (4 * k + 1)
  have b2 := bt_bd s.data.toList (4 * k + 2)
  have b3 := bt_bd s.data.toList (4 * k + 3)
  unfold wd or3
  congr 1
  · congr 1
    · congr 1 <;> omega
    · omega
  · omega

theorem nx_eq (a b c d : Int) : (a + bits BinOp.xor IntKind.u32 (bits BinOp.xor IntKind.u32 (rr 128 33554432 b) (rr 262144 16384 b)) (b / 8) + c +
    bits BinOp.xor IntKind.u32 (bits BinOp.xor IntKind.u32 (rr 131072 32768 d) (rr 524288 8192 d)) (d / 1024)) % 4294967296 = nx a b c d := by
  show (a + sg0 b + c + sg1 d) % 4294967296 = nx a b c d
  unfold nx ad3
  omega

theorem t1_eq (rk wk : Int) (x : S8) : (x.h + bits BinOp.xor IntKind.u32 (bits BinOp.xor IntKind.u32 (rr 64 67108864 x.e) (rr 2048 2097152 x.e)) (rr 33554432 128 x.e) +
    bits BinOp.xor IntKind.u32 (bits BinOp.and IntKind.u32 x.e x.f) (bits BinOp.and IntKind.u32 (bits BinOp.xor IntKind.u32 IntKind.u32.max x.e) x.g) + rk + wk) % 4294967296 = t1 rk wk x := by
  show (x.h + bs1 x.e + chc x.e x.f x.g + rk + wk) % 4294967296 = t1 rk wk x
  unfold t1 ad3
  omega
theorem t2_eq (x : S8) : (bits BinOp.xor IntKind.u32 (bits BinOp.xor IntKind.u32 (rr 4 1073741824 x.a) (rr 8192 524288 x.a)) (rr 4194304 1024 x.a) +
    bits BinOp.xor IntKind.u32 (bits BinOp.xor IntKind.u32 (bits BinOp.and IntKind.u32 x.a x.b) (bits BinOp.and IntKind.u32 x.a x.c)) (bits BinOp.and IntKind.u32 x.b x.c)) % 4294967296 = t2 x := rfl
def pt (hv : Nat → Int) (x : S8) (j q : Nat) : Int := if q < j then ad3 (hv q) (x.get q) else hv q
theorem pt_hi (hv : Nat → Int) (x : S8) (j q : Nat) (h : j ≤ q) : pt hv x j q = hv q := if_neg (by omega)
theorem pt_lo (hv : Nat → Int) (x : S8) (j q : Nat) (h : q < j) : pt hv x j q = ad3 (hv q) (x.get q) := if_pos h
theorem pt_step (hv : Nat → Int) (x : S8) (j : Nat) : upd (pt hv x j) j (ad3 (hv j) (x.get j)) = pt hv x (j + 1) := by
  funext q
  by_cases e : q = j
  · subst e; rw [upd_hit, pt_lo _ _ _ _ (by omega)]
  · rw [upd_miss _ _ e]
    by_cases h : q < j
    · rw [pt_lo _ _ _ _ h, pt_lo _ _ _ _ (by omega)]
    · rw [pt_hi _ _ _ _ (by omega), pt_hi _ _ _ _ (by omega)]
theorem idx8 (x : S8) : ∀ (j : Nat), j < 8 → ∀ W, (Instr.index 63 (.agg #[.int .u32 x.a, .int .u32 x.b, .int .u32 x.c, .int .u32 x.d, .int .u32 x.e, .int .u32 x.f, .int .u32 x.g, .int .u32 x.h]) (.int .i64 (j : Int))).run Tryd.prog W = .ok (.int .u32 (x.get j)) W := by
  intro j hj
  match j, hj with
  | 0, _ => exact fun _ => by kernel_rfl
  | 1, _ => exact fun _ => by kernel_rfl
  | 2, _ => exact fun _ => by kernel_rfl
  | 3, _ => exact fun _ => by kernel_rfl
  | 4, _ => exact fun _ => by kernel_rfl
  | 5, _ => exact fun _ => by kernel_rfl
  | 6, _ => exact fun _ => by kernel_rfl
  | 7, _ => exact fun _ => by kernel_rfl

/-- The round constants lie in block 0. -/
def Rnd (w : World) : Prop := ∀ i, i < 64 → w.cell? ⟨0, i, none⟩ = some (.int .u32 (rc i))
theorem Rnd.below {w w' : World} {B : Nat} (h : Rnd w) (hb : Below B w w') (hB : 0 < B) : Rnd w' := fun i hi => (hb.cell (p := ⟨0, i, none⟩) hB).trans (h i hi)

set_option maxRecDepth 100000 in
set_option maxHeartbeats 4000000 in
theorem mix_any (B : Nat) (hv : Nat → Int) (s : ByteArray) (w : World) (hs : s.size = 64) (hst : Row w B 63 8 (uc hv)) (hu : ∀ i, i < 8 → U (hv i)) (hr : Rnd w) (h0 : 0 < w.heap.size) :
    Calls Tryd.prog 37 #[.pointer (some ⟨B, 0, none⟩), .string s] w fun e w' => e = .returned (.tuple #[]) ∧ Row w' B 63 8 (uc (blk hv s.data.toList)) ∧ Ch (· = B) w w' := by
  have HS := Lib.hid hst
  have HZ := Lib.hid hs
  have HU := Lib.hid hu
  have HR := Lib.hid hr
  have hz1 : s.size ≤ 64 := by omega
  have hz2 : 64 ≤ s.size := by omega
  have hB : B < w.heap.size := hst.lt
  clear hst hs hu hr
  go_enter Tryd.func37, Tryd.ntmps37
  go_wp2
  go_loopw [28] (fun i wr => ∃ (k : Nat) (f : Nat → Int), k ≤ 16 ∧ i = .int .i64 k ∧ Hid (Row wr w.heap.size 77 64 (uc f)) ∧ Hid (∀ j, j < k → f j = sw s.data.toList j) ∧ Below w.heap.size w wr) (fun i _ => 16 - (intOf i).toNat)
  case atStart =>
    refine ⟨0, fun _ => 0, by omega, rfl, ?_, fun j hj => by omega, (Below.refl _ _).alloc (Nat.le_refl _) _⟩
    exact Row.ofList w 77 _ _ 64 (by kernel_rfl)
  case round =>
    obtain ⟨k, f, hk, rfl, hrow, hf, hbel⟩ := hrel
    have hsz := hrow.out.lt
    by_cases hlt : k < 16
    · have k1 : (k : Int) < 16 := by omega
      have fr := Row.frozen hrow.out k
      have ce := Row.cell hrow.out (show k < 64 by omega)
      unfold uc at ce
      have i0 : (0 : Int) ≤ 4 * k ∧ (4 : Int) * k < s.size := by omega
      have i1 : (0 : Int) ≤ 4 * k + 1 ∧ (4 : Int) * k + 1 < s.size := by omega
      have i2 : (0 : Int) ≤ 4 * k + 2 ∧ (4 : Int) * k + 2 < s.size := by omega
      have i3 : (0 : Int) ≤ 4 * k + 3 ∧ (4 : Int) * k + 3 < s.size := by omega
      have w0 : IntKind.i64.wrap (4 * (k : Int)) = 4 * k := IntWalk.i64_in _ (by omega)
      have w1 : IntKind.i64.wrap (4 * (k : Int) + 1) = 4 * k + 1 := IntWalk.i64_in _ (by omega)
      have w2 : IntKind.i64.wrap (4 * (k : Int) + 2) = 4 * k + 2 := IntWalk.i64_in _ (by omega)
      have w3 : IntKind.i64.wrap (4 * (k : Int) + 3) = 4 * k + 3 := IntWalk.i64_in _ (by omega)
      go_wp2
      go_region
      go_wp2
      go_roundw
      case rel =>
        rw [wd_eq s k (by omega) (by omega) (by omega) (by omega)]
        refine ⟨k + 1, upd f k (wd s.data.toList k), by omega, by go_num, ?_, fun j hj => ?_, (hbel.setCell (Nat.le_refl _) _).drew⟩
        · have := Row.set hrow.out (i := k) (by omega) (.int .u32 (wd s.data.toList k))
          rw [uc_upd] at this
          exact this
        · by_cases e : j = k
          · subst e; rw [upd_hit, sw_last _ _ (by omega), if_pos hlt]
          · rw [upd_miss _ _ e]; exact hf.out j (by omega)
      case measure => simp [intOf]; omega
    · have k1 : ¬ (k : Int) < 16 := by omega
      obtain rfl : k = 16 := by omega
      go_wp2_with fail
      obtain ⟨wo, rfl⟩ : ∃ wo : World, wo = wr := ⟨_, rfl⟩
      go_loopw [6] (fun i wr => ∃ (k : Nat) (f : Nat → Int), 16 ≤ k ∧ k ≤ 64 ∧ i = .int .i64 k ∧ Hid (Row wr w.heap.size 77 64 (uc f)) ∧ Hid (∀ j, j < k → f j = sw s.data.toList j) ∧ Below w.heap.size w wr) (fun i _ => 64 - (intOf i).toNat)
      case atStart => exact ⟨16, f, by omega, by omega, rfl, hrow, hf, hbel⟩
      case round =>
        clear hrow hf hbel hsz
        obtain ⟨k, f, hk16, hk, rfl, hrow, hf, hbel⟩ := hrel
        have hsz := hrow.out.lt
        by_cases hlt2 : k < 64
        · have k2 : (k : Int) < 64 := by omega
          have c15 := Row.cell hrow.out (show k - 15 < 64 by omega)
          have c2 := Row.cell hrow.out (show k - 2 < 64 by omega)
          have c16 := Row.cell hrow.out (show k - 16 < 64 by omega)
          have c7 := Row.cell hrow.out (show k - 7 < 64 by omega)
          have ck := Row.cell hrow.out (show k < 64 by omega)
          have fr := Row.frozen hrow.out k
          unfold uc at c15 c2 c16 c7 ck
          rw [hf.out _ (by omega)] at c15 c2 c16 c7
          have u15 := sw_u s.data.toList (k - 15) (by omega)
          have u2 := sw_u s.data.toList (k - 2) (by omega)
          have u16 := sw_u s.data.toList (k - 16) (by omega)
          have u7 := sw_u s.data.toList (k - 7) (by omega)
          have e15 : IntKind.i64.wrap ((k : Int) - 15) = (k : Int) - 15 := IntWalk.i64_in _ (by omega)
          have e2 : IntKind.i64.wrap ((k : Int) - 2) = (k : Int) - 2 := IntWalk.i64_in _ (by omega)
          have e16 : IntKind.i64.wrap ((k : Int) - 16) = (k : Int) - 16 := IntWalk.i64_in _ (by omega)
          have e7 : IntKind.i64.wrap ((k : Int) - 7) = (k : Int) - 7 := IntWalk.i64_in _ (by omega)
          have HN := Lib.hid (sw_last s.data.toList k hlt2)
          generalize sw s.data.toList (k - 15) = x15 at c15 u15 HN
          generalize sw s.data.toList (k - 2) = x2 at c2 u2 HN
          generalize sw s.data.toList (k - 16) = x16 at c16 u16 HN
          generalize sw s.data.toList (k - 7) = x7 at c7 u7 HN
          have U15 := Lib.hid u15
          have U2 := Lib.hid u2
          clear u15 u2
          go_wp2_with fail
          go_region
          go_wp2_with fail
          refine (rot7 _ _ U15.out).mono ?_
          rintro e w3 ⟨rfl, rfl⟩
          go_wp2_with fail
          refine (rot18 _ _ U15.out).mono ?_
          rintro e w3 ⟨rfl, rfl⟩
          go_wp2_with fail
          refine (rot17 _ _ U2.out).mono ?_
          rintro e w3 ⟨rfl, rfl⟩
          go_wp2_with fail
          refine (rot19 _ _ U2.out).mono ?_
          rintro e w3 ⟨rfl, rfl⟩
          go_wp2_with fail
          go_region
          go_wp2_with fail
          go_roundw
          case rel =>
            have ev : sw s.data.toList k = nx x16 x15 x7 x2 := by rw [HN.out, if_neg (by omega)]
            rw [nx_eq, ← ev]
            refine ⟨k + 1, upd f k (sw s.data.toList k), by omega, by omega, by go_num, ?_, fun j hj => ?_, (hbel.setCell (Nat.le_refl _) _).drew.drew⟩
            · have := Row.set hrow.out (i := k) (by omega) (.int .u32 (sw s.data.toList k))
              rw [uc_upd] at this
              exact this
            · by_cases e : j = k
              · subst e; rw [upd_hit]
              · rw [upd_miss _ _ e]; exact hf.out j (by omega)
          case measure => simp [intOf]; omega
        · have k2 : ¬ (k : Int) < 64 := by omega
          obtain rfl : k = 64 := by omega
          have z0 := Row.cell (HS.out.below hbel hB) (i := 0) (by omega)
          have z1 := Row.cell (HS.out.below hbel hB) (i := 1) (by omega)
          have z2 := Row.cell (HS.out.below hbel hB) (i := 2) (by omega)
          have z3 := Row.cell (HS.out.below hbel hB) (i := 3) (by omega)
          have z4 := Row.cell (HS.out.below hbel hB) (i := 4) (by omega)
          have z5 := Row.cell (HS.out.below hbel hB) (i := 5) (by omega)
          have z6 := Row.cell (HS.out.below hbel hB) (i := 6) (by omega)
          have z7 := Row.cell (HS.out.below hbel hB) (i := 7) (by omega)
          unfold uc at z0 z1 z2 z3 z4 z5 z6 z7
          go_wp2_with fail
          go_quiet (fail)
          go_wp2_with fail
          obtain ⟨wp, rfl⟩ : ∃ wp : World, wp = wr := ⟨_, rfl⟩
          clear z0 z1 z2 z3 z4 z5 z6 z7
          have hx0 : (S8.of hv).u := ⟨HU.out 0 (by omega), HU.out 1 (by omega), HU.out 2 (by omega), HU.out 3 (by omega), HU.out 4 (by omega), HU.out 5 (by omega), HU.out 6 (by omega), HU.out 7 (by omega)⟩
          have HX0 := Lib.hid hx0
          clear hx0
          go_loopw [11, 12, 13, 14, 15, 16, 17, 18, 138] (fun sa sb sc sd se sf sg sh i wr => ∃ (k : Nat) (x : S8), k ≤ 64 ∧ i = .int .i64 k ∧ Hid (x = rnds rc (sw s.data.toList) (S8.of hv) k) ∧ sa = .int .u32 x.a ∧ sb = .int .u32 x.b ∧ sc = .int .u32 x.c ∧ sd = .int .u32 x.d ∧ se = .int .u32 x.e ∧ sf = .int .u32 x.f ∧ sg = .int .u32 x.g ∧ sh = .int .u32 x.h ∧ Hid (Row wr w.heap.size 77 64 (uc f)) ∧ Below w.heap.size w wr) (fun _ _ _ _ _ _ _ _ i _ => 64 - (intOf i).toNat)
          case atStart => exact ⟨0, S8.of hv, by omega, rfl, rfl, rfl, rfl, rfl, rfl, rfl, rfl, rfl, rfl, hrow, below_drewN hbel _⟩
          case round =>
            clear hrow hbel hsz
            obtain ⟨k, x, hk3, rfl, hx, rfl, rfl, rfl, rfl, rfl, rfl, rfl, rfl, hrow, hbel⟩ := hrel
            have hsz := hrow.out.lt
            by_cases hlt3 : k < 64
            · have k3 : (k : Int) < 64 := by omega
              have hxu : x.u := by rw [hx.out]; exact rnds_u HX0.out k
              have ck := Row.cell hrow.out hlt3
              unfold uc at ck
              rw [hf.out k hlt3] at ck
              have cr := HR.out.below hbel h0 k hlt3
              obtain ⟨ua, ub, uc', ud, ue, uf, ug, uh⟩ := hxu
              have UA := Lib.hid ua
              have UE := Lib.hid ue
              obtain ⟨ue0, ue1⟩ := ue
              have kc := rc_u k
              have kw := sw_u s.data.toList k hlt3
              have HST : Hid (rnds rc (sw s.data.toList) (S8.of hv) (k + 1) = stp (rc k) (sw s.data.toList k) x) := (by rw [hx.out]; rfl : rnds rc (sw s.data.toList) (S8.of hv) (k + 1) = stp (rc k) (sw s.data.toList k) x)
              generalize rc k = rk at cr kc HST
              generalize sw s.data.toList k = wk at ck kw HST
              go_wp2_with fail
              refine (rot6 _ _ UE.out).mono ?_
              rintro e w3 ⟨rfl, rfl⟩
              go_wp2_with fail
              refine (rot11 _ _ UE.out).mono ?_
              rintro e w3 ⟨rfl, rfl⟩
              go_wp2_with fail
              refine (rot25 _ _ UE.out).mono ?_
              rintro e w3 ⟨rfl, rfl⟩
              go_wp2_with fail
              go_quiet (fail)
              go_wp2_with fail
              refine (rot2 _ _ UA.out).mono ?_
              rintro e w3 ⟨rfl, rfl⟩
              go_wp2_with fail
              refine (rot13 _ _ UA.out).mono ?_
              rintro e w3 ⟨rfl, rfl⟩
              go_wp2_with fail
              refine (rot22 _ _ UA.out).mono ?_
              rintro e w3 ⟨rfl, rfl⟩
              go_wp2_with fail
              go_roundw
              case rel =>
                rw [t1_eq, t2_eq]
                exact ⟨k + 1, stp rk wk x, by omega, by go_num, HST.out.symm, rfl, rfl, rfl, rfl, rfl, rfl, rfl, rfl, hrow, below_drewN hbel _⟩
              case measure => simp [intOf]; omega
            · have k3 : ¬ (k : Int) < 64 := by omega
              obtain rfl : k = 64 := by omega
              have hxu : x.u := by rw [hx.out]; exact rnds_u HX0.out 64
              have HXU := Lib.hid hxu
              clear hxu
              have HX8 : Hid (∀ (j : Nat), j < 8 → ∀ W, (Instr.index 63 (.agg #[.int .u32 x.a, .int .u32 x.b, .int .u32 x.c, .int .u32 x.d, .int .u32 x.e, .int .u32 x.f, .int .u32 x.g, .int .u32 x.h]) (.int .i64 (j : Int))).run Tryd.prog W = .ok (.int .u32 (x.get j)) W) := idx8 x
              go_wp2_with fail
              obtain ⟨wq, rfl⟩ : ∃ wq : World, wq = wr := ⟨_, rfl⟩
              go_loopw [214] (fun i wr => ∃ (j : Nat), j ≤ 8 ∧ i = .int .i64 j ∧ Hid (Row wr B 63 8 (uc (pt hv x j))) ∧ Ch (· = B) w wr) (fun i _ => 8 - (intOf i).toNat)
              case atStart => exact ⟨0, by omega, rfl, Row.congr (HS.out.below hbel hB) (fun i hi => by unfold uc; rw [pt_hi _ _ _ _ (Nat.zero_le _)]), Ch.of_below hbel _⟩
              case round =>
                obtain ⟨j, hj, rfl, hrow8, hch⟩ := hrel
                by_cases hj8 : j < 8
                · have j1 : (j : Int) < 8 := by omega
                  have hx8 := HX8.out j hj8
                  have cj := Row.cell hrow8.out hj8
                  unfold uc at cj
                  rw [pt_hi _ _ _ _ (Nat.le_refl _)] at cj
                  have fj := Row.frozen hrow8.out j
                  go_wp2_with fail
                  go_region
                  go_wp2_with fail
                  go_roundw
                  case rel =>
                    refine ⟨j + 1, by omega, by go_num, ?_, (hch.setCell (fun _ => rfl) _).drew⟩
                    have := Row.set hrow8.out (i := j) hj8 (.int .u32 (ad3 (hv j) (x.get j)))
                    rw [uc_upd, pt_step] at this
                    exact this
                  case measure => simp [intOf]; omega
                · have j1 : ¬ (j : Int) < 8 := by omega
                  obtain rfl : j = 8 := by omega
                  go_wp2_with fail
                  go_end0
                  refine ⟨rfl, Row.congr hrow8.out fun i hi => ?_, hch⟩
                  unfold uc blk
                  rw [pt_lo _ _ _ _ hi, hx.out]
end Go.Proofs.YtndbbbkdpjkljaaDoor
