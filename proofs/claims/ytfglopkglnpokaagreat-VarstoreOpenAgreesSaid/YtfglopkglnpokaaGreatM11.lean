/- The reference's read, with, without, Get, write. Conditions: those that each theorem names. -/
import Derived.Test.YtfglopkglnpokaaGreatM10
namespace Go.Proofs.YtfglopkglnpokaaGreat
open Go.RowKit
theorem decF_iff {F : Str} {k n v : Nat} (hk : k = (F.getD 0 0).toNat) (hn : n = (F.getD 1 0).toNat) (hv : v = (F.getD 2 0).toNat) (hok : okLens k n v = true) (hlen : 5 + n + v ≤ F.length) :
    decF F = if pgs (5 + n + v) * 64 ≤ F.length ∧ F.take (pgs (5 + n + v) * 64) = pad (recd k ((F.drop 5).take n) ((F.drop (5 + n)).take v)) then some (k, (F.drop 5).take n, (F.drop (5 + n)).take v, pgs (5 + n + v)) else none := by
  have l1 : ((F.drop 5).take n).length = n := by rw [List.length_take, List.length_drop]; omega
  have l2 : ((F.drop (5 + n)).take v).length = v := by rw [List.length_take, List.length_drop]; omega
  by_cases hc : pgs (5 + n + v) * 64 ≤ F.length ∧ F.take (pgs (5 + n + v) * 64) = pad (recd k ((F.drop 5).take n) ((F.drop (5 + n)).take v))
  · rw [if_pos hc]
    have hF : F = pad (recd k ((F.drop 5).take n) ((F.drop (5 + n)).take v)) ++ F.drop (pgs (5 + n + v) * 64) := by
      rw [← hc.2, List.take_append_drop]
    have hd := decF_pad (k := k) (n := (F.drop 5).take n) (v := (F.drop (5 + n)).take v) (by rw [l1, l2]; exact hok) (F.drop (pgs (5 + n + v) * 64))
    rw [← hF, l1, l2] at hd
    exact hd
  · rw [if_neg hc]
    cases hd : decF F with
    | none => rfl
    | some q =>
      exfalso
      apply hc
      obtain ⟨k', n', v', c'⟩ := q
      have hs := decF_some hd
      have hd' := hd
      unfold decF at hd'
      rw [← hk, ← hn, ← hv, if_neg (by rw [hok]; simp)] at hd'
      split at hd'
      · cases hd'
      · split at hd'
        · simp only [Option.some.injEq, Prod.mk.injEq] at hd'
          obtain ⟨e1, e2, e3, e4⟩ := hd'
          obtain ⟨s1, s2, s3, s4⟩ := hs
          rw [← e4] at s3 s4
          refine ⟨s4, ?_⟩
          rw [e1, e2, e3]
          have hp : (pad (recd k' n' v')).length = pgs (5 + n + v) * 64 := by
            rw [pad_len, recd_len, ← s2, ← e4]
          conv => lhs; rw [s3]
          exact List.take_left' hp
        · cases hd'
def rdOk (o : Option (Nat × Str × Str × Nat)) (a0 a1 a2 a3 : Value) (ok : Bool) : Prop :=
  (∀ k n v c, o = some (k, n, v, c) → ok = true ∧ a0 = .int .u8 (k : Int) ∧ a1 = str n ∧ a2 = str v ∧ a3 = .int .i64 (c : Int)) ∧ (o = none → ok = false)
def RdP (o : Option (Nat × Str × Str × Nat)) (B : Nat) (w : World) (e : Ending) (w' : World) : Prop := ∃ (k0 : Int) (n0 v0 : ByteArray) (c0 : Int) (ok : Bool), e = .returned (.tuple #[.agg #[.int .u8 k0, .string n0, .string v0, .int .i64 c0], .bool ok]) ∧ rdOk o (.int .u8 k0) (.string n0) (.string v0) (.int .i64 c0) ok ∧ Below B w w'
theorem Row.load4r {w : World} {B : Nat} {v : Nat → Value} (h : Row w B 109 4 v) : (loadVar 109 ⟨B, 0, none⟩).run Tryz.prog w = .ok (.agg #[v 0, v 1, v 2, v 3]) w :=
  run_loadVar_row w B 109 _ _ (0, 0) _ h.arr4 Tryz.underlying109 rfl (by kernel_rfl)
theorem rd_end {w W : World} {R : Nat} {vv : Nat → Value} {o : Option (Nat × Str × Str × Nat)} (hb : Below R w W) (hr : Row W R 109 4 vv) (k0 : Int) (n0 v0 : ByteArray) (c0 : Int) (ok : Bool) {tmps : Array Value}
    (hp : tmps.getD 2 undef = .pointer (some ⟨R, 0, none⟩)) (hy : tmps.getD 3 undef = .bool ok) (hQ : rdOk o (.int .u8 k0) (.string n0) (.string v0) (.int .i64 c0) ok) :
    bodyPost Tryz.prog Tryz.f59 (fun e w' => RdP o R w e w') Exit.ret { tmps := tmps, defers := [] } ((((W.setCell ⟨R, 0, none⟩ (.int .u8 k0)).setCell ⟨R, 1, none⟩ (.string n0)).setCell ⟨R, 2, none⟩ (.string v0)).setCell ⟨R, 3, none⟩ (.int .i64 c0)) :=
  bodyPost_ret (v := .tuple #[.agg #[.int .u8 k0, .string n0, .string v0, .int .i64 c0], .bool ok]) (res2 rfl _ _ R #[.int .u8 k0, .string n0, .string v0, .int .i64 c0] (.bool ok) hp hy ((hr.set4 (.int .u8 k0) (.string n0) (.string v0) (.int .i64 c0)).load4r)) rfl
    ⟨k0, n0, v0, c0, ok, rfl, hQ, (((hb.setCell (p := ⟨R, 0, none⟩) (Nat.le_refl _) _).setCell (p := ⟨R, 1, none⟩) (Nat.le_refl _) _).setCell (p := ⟨R, 2, none⟩) (Nat.le_refl _) _).setCell (p := ⟨R, 3, none⟩) (Nat.le_refl _) _⟩
set_option maxRecDepth 100000 in
set_option maxHeartbeats 4000000 in
theorem rread_any (s : ByteArray) (w : World) (h1 : 64 ≤ s.size) (h2 : s.size ≤ 2048) :
    Calls Tryz.prog 59 #[.string s] w fun e w' => RdP (decF s.data.toList) w.heap.size w e w' := by
  have p0 : 0 < s.size := by omega
  have p1 : 1 < s.size := by omega
  have p2 : 2 < s.size := by omega
  have hsl : s.data.toList.length = s.size := Array.length_toList
  have B0 : Below w.heap.size w (w.alloc (.cells #[.int .u8 0, .string ⟨#[]⟩, .string ⟨#[]⟩, .int .i64 0] 109)) := (Below.refl _ _).alloc (Nat.le_refl _) _
  obtain ⟨w1, hw1⟩ : ∃ w1, (w.alloc (.cells #[.int .u8 0, .string ⟨#[]⟩, .string ⟨#[]⟩, .int .i64 0] 109)).drew = w1 := ⟨_, rfl⟩
  have HR1 : Hid (Row w1 w.heap.size 109 4 (fun j => if j = 0 then .int .u8 0 else if j = 1 then str [] else if j = 2 then str [] else .int .i64 0)) := by
    rw [← hw1]
    have := Row.ofList w 109 #[.int .u8 0, .string ⟨#[]⟩, .string ⟨#[]⟩, .int .i64 0] (fun j => if j = 0 then .int .u8 0 else if j = 1 then str [] else if j = 2 then str [] else .int .i64 0) 4 rfl
    exact this.drew
  have HB1 : Hid (Below w.heap.size w w1) := by rw [← hw1]; exact B0.drew
  have y5 : ¬ (s.size : Int) < 5 := by omega
  obtain ⟨k, hk⟩ : ∃ k, (s[0]'p0).toNat = k := ⟨_, rfl⟩
  obtain ⟨n, hn⟩ : ∃ n, (s[1]'p1).toNat = n := ⟨_, rfl⟩
  obtain ⟨v, hv⟩ : ∃ v, (s[2]'p2).toNat = v := ⟨_, rfl⟩
  have hk0 : k = (s.data.toList.getD 0 0).toNat := by rw [← hk, List.getD_eq_getElem?_getD, List.getElem?_eq_getElem (by omega)]; rfl
  have hn0 : n = (s.data.toList.getD 1 0).toNat := by rw [← hn, List.getD_eq_getElem?_getD, List.getElem?_eq_getElem (by omega)]; rfl
  have hv0 : v = (s.data.toList.getD 2 0).toNat := by rw [← hv, List.getD_eq_getElem?_getD, List.getElem?_eq_getElem (by omega)]; rfl
  have hk8 : k < 256 := by rw [← hk]; exact (s[0]'p0).toNat_lt
  have hn8 : n < 256 := by rw [← hn]; exact (s[1]'p1).toNat_lt
  have hv8 : v < 256 := by rw [← hv]; exact (s[2]'p2).toNat_lt
  have HFT : Hid (∀ W, Calls Tryz.prog 71 #[.int .u8 (k : Int), .int .i64 (n : Int), .int .i64 (v : Int)] W fun e w' => e = .returned (.bool (okLens k n v)) ∧ W = w') := fun W => rfits_any k n v W (by omega) (by omega)
  have HD1 : Hid (okLens k n v = false → decF s.data.toList = none) := fun h => by
    show _ = _
    unfold decF
    rw [← hk0, ← hn0, ← hv0, if_pos h]
  have HD2 : Hid (s.size < 5 + n + v → decF s.data.toList = none) := fun h => by
    show _ = _
    have hp : 5 + n + v ≤ pgs (5 + n + v) * 64 := pgs_le _
    unfold decF
    rw [← hk0, ← hn0, ← hv0, hsl, if_pos (show s.size < pgs (5 + n + v) * 64 by omega)]
    simp
  have HD3 := Lib.hid (decF_iff hk0 hn0 hv0)
  rw [hsl] at HD3
  have wn : IntKind.i64.wrap (n : Int) = (n : Int) := IntWalk.i64_in _ ⟨by omega, by omega⟩
  have wv : IntKind.i64.wrap (v : Int) = (v : Int) := IntWalk.i64_in _ ⟨by omega, by omega⟩
  obtain ⟨R, hR⟩ : ∃ R, w.heap.size = R := ⟨_, rfl⟩
  rw [hR] at HR1 HB1 ⊢
  have HRS := Lib.hid hR
  clear hk0 hn0 hv0 hsl B0 hR
  go_enter Tryz.func59, Tryz.ntmps59
  go_wp2_with fail
  refine wp_region_pl (fun _ => True) ((0, 0) :: (1, 0) :: (2, 0) :: (3, 0) :: (4, 0) :: (5, 0) :: (6, 0) :: (7, 0) :: (8, 0) :: (9, 0) :: (10, 0) :: (11, 0) :: (12, 0) :: (13, 0) :: (14, 0) :: []) (by kernel_rfl) (by kernel_rfl) ?_
  have y5 : decide ((s.size : Int) < 5) = false := by simp; omega
  have p0I : (0 : Int) < (s.size : Int) := by omega
  have p1I : (1 : Int) < (s.size : Int) := by omega
  have p2I : (2 : Int) < (s.size : Int) := by omega
  iterate 12 (apply wpP_go; (focus rfl); (focus rfl); (focus exact trivial); (focus (rintro Z _; go_simp; exact rfl)); intro K hK; go_simp; refine hK _ ?_; clear hK K)
  apply wpP_call
  focus rfl
  focus rfl
  focus exact trivial
  focus (rintro Z _; go_simp; exact ⟨rfl, rfl⟩)
  focus (intro Z _; exact HFT.out Z)
  intro K hK
  go_simp
  refine hK _ ?_
  clear hK K
  iterate 2 (apply wpP_go; (focus rfl); (focus rfl); (focus exact trivial); (focus (rintro Z _; go_simp; exact rfl)); intro K hK; go_simp; refine hK _ ?_; clear hK K)
  refine wpP_done ?_
  rw [hw1, HRS.out]
  clear hw1 y5
  have r0 := HR1.out.cell (i := 0) (by omega)
  have r1 := HR1.out.cell (i := 1) (by omega)
  have r2 := HR1.out.cell (i := 2) (by omega)
  have r3 := HR1.out.cell (i := 3) (by omega)
  have f0 := HR1.out.frozen 0
  have f1 := HR1.out.frozen 1
  have f2 := HR1.out.frozen 2
  have f3 := HR1.out.frozen 3
  rcases hok : okLens k n v with _ | _
  · have HN : Hid (rdOk (decF s.data.toList) (.int .u8 0) (str []) (str []) (.int .i64 0) false) := ⟨fun k' n' v' c' h => (by rw [HD1.out hok] at h; cases h), fun _ => rfl⟩
    go_wp2_with fail
    exact rd_end HB1.out HR1.out _ _ _ _ _ rfl rfl HN.out
  · obtain ⟨L, hL⟩ : ∃ L, 5 + n + v = L := ⟨_, rfl⟩
    have hLI : (5 : Int) + (n : Int) + (v : Int) = (L : Int) := by omega
    go_wp2_with fail
    refine wp_region_pl (fun _ => True) ((0, 0) :: (1, 0) :: (2, 0) :: (3, 0) :: (4, 0) :: (5, 0) :: (6, 0) :: (7, 0) :: []) (by kernel_rfl) (by kernel_rfl) ?_
    iterate 8 (apply wpP_go; (focus rfl); (focus rfl); (focus exact trivial); (focus (rintro Z _; go_simp; exact rfl)); intro K hK; go_simp; refine hK _ ?_; clear hK K)
    refine wpP_done ?_
    have HR2 : Hid (Row w1.drew R 109 4 (fun j => if j = 0 then .int .u8 0 else if j = 1 then str [] else if j = 2 then str [] else .int .i64 0)) := HR1.out.drew
    have HB2 : Hid (Below R w w1.drew) := HB1.out.drew
    clear HR1 HB1 r0 r1 r2 r3 f0 f1 f2 f3
    generalize w1.drew = w2 at *
    have r0 := HR2.out.cell (i := 0) (by omega)
    have r1 := HR2.out.cell (i := 1) (by omega)
    have r2 := HR2.out.cell (i := 2) (by omega)
    have r3 := HR2.out.cell (i := 3) (by omega)
    have f0 := HR2.out.frozen 0
    have f1 := HR2.out.frozen 1
    have f2 := HR2.out.frozen 2
    have f3 := HR2.out.frozen 3
    by_cases hsh : s.size < L
    · have hshI : (s.size : Int) < L := by omega
      have HN : Hid (rdOk (decF s.data.toList) (.int .u8 0) (str []) (str []) (.int .i64 0) false) := ⟨fun k' n' v' c' h => (by rw [HD2.out (by omega)] at h; cases h), fun _ => rfl⟩
      go_wp2_with fail
      exact rd_end HB2.out HR2.out _ _ _ _ _ rfl rfl HN.out
    · have hshI : ¬ (s.size : Int) < L := by omega
      clear r0 r1 r2 r3 f0 f1 f2 f3
      go_wp2_with fail
      have a1 : (0 : Int) ≤ 5 + (n : Int) := by omega
      have a2 : (5 : Int) + (n : Int) ≤ (s.size : Int) := by omega
      have a3 : (5 : Int) ≤ 5 + (n : Int) := by omega
      have a4 : (L : Int) ≤ (s.size : Int) := by omega
      have a5 : (5 : Int) + (n : Int) ≤ (L : Int) := by omega
      have p0J : (0 : Int) < (s.size : Int) := by omega
      have hwL : IntKind.i64.wrap (L : Int) = (L : Int) := IntWalk.i64_in _ ⟨by omega, by omega⟩
      have a6 : (0 : Int) ≤ (L : Int) := by omega
      have hw5 : IntKind.i64.wrap (5 + (n : Int)) = 5 + (n : Int) := IntWalk.i64_in _ ⟨by omega, by omega⟩
      refine wp_region_pl (fun _ => True) ((0, 0) :: (1, 0) :: (2, 0) :: (3, 0) :: (4, 0) :: (5, 0) :: (6, 0) :: (7, 0) :: (8, 0) :: (9, 0) :: (10, 0) :: (11, 0) :: (12, 0) :: (13, 0) :: (14, 0) :: (15, 1) :: (16, 1) :: []) (by kernel_rfl) (by kernel_rfl) ?_
      iterate 15 (apply wpP_go; (focus rfl); (focus rfl); (focus exact trivial); (focus (rintro Z _; go_simp; exact rfl)); intro K hK; go_simp; refine hK _ ?_; clear hK K)
      apply wpP_one
      focus rfl
      intro K hK
      go_simp
      refine hK _ _ trivial ?_
      clear hK K
      apply wpP_one
      focus rfl
      intro K hK
      go_simp
      refine hK _ _ trivial ?_
      clear hK K
      refine wpP_done ?_
      obtain ⟨nm, hnm⟩ : ∃ nm : ByteArray, s.extract 5 (5 + (n : Int)).toNat = nm := ⟨_, rfl⟩
      obtain ⟨vl, hvl⟩ : ∃ vl : ByteArray, s.extract (5 + (n : Int)).toNat L = vl := ⟨_, rfl⟩
      have e5 : (5 + (n : Int)).toNat = 5 + n := by omega
      have hnml : nm.data.toList = (s.data.toList.drop 5).take n := by rw [← hnm, e5, ext_toList]; congr 1; omega
      have hvll : vl.data.toList = (s.data.toList.drop (5 + n)).take v := by rw [← hvl, e5, ext_toList]; congr 1; omega
      have hnms : nm.size = n := by rw [← hnm, e5, ext_size _ _ _ (by omega)]; omega
      have hvls : vl.size = v := by rw [← hvl, e5, ext_size _ _ _ (by omega)]; omega
      rw [hnm, hvl]
      have hd3 := HD3.out hok (by omega)
      rw [← hnml, ← hvll] at hd3
      clear hnm hvl hnml hvll a1 a2 a3 a5 a6 hw5 hwL
      obtain ⟨w3, hw3⟩ : ∃ w3, (w2.alloc (.cells #[.int .u8 k, .string nm, .string vl, .int .i64 0] 109)).drew = w3 := ⟨_, rfl⟩
      have B3 : Below w2.heap.size w2 w3 := by rw [← hw3]; exact ((Below.refl _ _).alloc (Nat.le_refl _) _).drew
      obtain ⟨T, hT⟩ : ∃ T, w2.heap.size = T := ⟨_, rfl⟩
      have HRT : Hid (Row w3 T 109 4 (fun j => if j = 0 then .int .u8 k else if j = 1 then .string nm else if j = 2 then .string vl else .int .i64 0)) := by
        rw [← hw3, ← hT]
        have := Row.ofList w2 109 #[.int .u8 k, .string nm, .string vl, .int .i64 0] (fun j => if j = 0 then .int .u8 k else if j = 1 then .string nm else if j = 2 then .string vl else .int .i64 0) 4 rfl
        exact this.drew
      have HR3 : Hid (Row w3 R 109 4 (fun j => if j = 0 then .int .u8 0 else if j = 1 then str [] else if j = 2 then str [] else .int .i64 0)) := HR2.out.ch (Ch.of_below B3 (fun _ => False)) id
      have HB3 : Hid (Below R w w3) := HB2.out.trans (B3.mono (by have := HB2.out.size; rw [HRS.out] at this; exact this))
      have hRT : R < T := by rw [← hT]; exact HR2.out.lt
      rw [hw3, hT]
      clear HR2 HB2 B3 hT hw3
      have t0 : w3.cell? ⟨T, 0, none⟩ = some (.int .u8 k) := HRT.out.cell (i := 0) (by omega)
      have t1 : w3.cell? ⟨T, 1, none⟩ = some (.string nm) := HRT.out.cell (i := 1) (by omega)
      have t2 : w3.cell? ⟨T, 2, none⟩ = some (.string vl) := HRT.out.cell (i := 2) (by omega)
      have HEN := Lib.hid (rrecord_any k nm vl w3 (by omega) (by omega) (by omega))
      obtain ⟨er, her⟩ : ∃ er : ByteArray, er = ⟨(recd k nm.data.toList vl.data.toList).toArray⟩ := ⟨_, rfl⟩
      have herl : er.data.toList = recd k nm.data.toList vl.data.toList := by rw [her]
      have hers : er.size = 5 + n + v := by
        have h9 : er.data.toList.length = er.size := Array.length_toList
        have l1 : nm.data.toList.length = nm.size := Array.length_toList
        have l2 : vl.data.toList.length = vl.size := Array.length_toList
        rw [← h9, herl, recd_len, l1, l2, hnms, hvls]
      rw [← her] at HEN
      rw [← herl] at hd3
      have HD4 := Lib.hid hd3
      have HERL := Lib.hid herl
      have HERS := Lib.hid hers
      clear hd3 her herl hers
      go_wp2_with fail
      refine HEN.out.mono ?_
      rintro e w4 ⟨rfl, b4⟩
      have HT4 : Hid (Row w4 T 109 4 (fun j => if j = 0 then .int .u8 k else if j = 1 then .string nm else if j = 2 then .string vl else .int .i64 0)) := HRT.out.ch (Ch.of_below b4 (fun _ => False)) id
      have HR4 : Hid (Row w4 R 109 4 (fun j => if j = 0 then .int .u8 0 else if j = 1 then str [] else if j = 2 then str [] else .int .i64 0)) := HR3.out.ch (Ch.of_below b4 (fun _ => False)) id
      have hs3 := HB3.out.size
      rw [HRS.out] at hs3
      have HB4 : Hid (Below R w w4) := HB3.out.trans (b4.mono hs3)
      have HPG := Lib.hid (rpages_any er w4 (by have := HERS.out; omega) (by have := HERS.out; omega))
      obtain ⟨c, hcd⟩ : ∃ c, pgs (5 + n + v) = c := ⟨_, rfl⟩
      have hc9 : c ≤ 9 := by rw [← hcd]; unfold pgs; omega
      have hc1 : 1 ≤ c := by rw [← hcd]; unfold pgs; omega
      rw [HERS.out, hcd] at HPG
      have HCD := Lib.hid hcd
      rw [hcd] at HD4
      clear b4 HRT HR3 HB3 hs3 HEN t0 t1 t2 hcd
      go_wp2_with fail
      refine HPG.out.mono ?_
      rintro e w5 ⟨g, cap, rfl, hps, hg5, b5⟩
      have HPS := Lib.hid hps
      have HT5 : Hid (Row w5 T 109 4 (fun j => if j = 0 then .int .u8 k else if j = 1 then .string nm else if j = 2 then .string vl else .int .i64 0)) := HT4.out.ch (Ch.of_below b5 (fun _ => False)) id
      have HR5 : Hid (Row w5 R 109 4 (fun j => if j = 0 then .int .u8 0 else if j = 1 then str [] else if j = 2 then str [] else .int .i64 0)) := HR4.out.ch (Ch.of_below b5 (fun _ => False)) id
      have hs4 := HB4.out.size
      rw [HRS.out] at hs4
      have HB5 : Hid (Below R w w5) := HB4.out.trans (b5.mono hs4)
      have hTg : g ≠ T := by have := HT4.out.lt; omega
      have t3 : w5.cell? ⟨T, 3, none⟩ = some (.int .i64 0) := HT5.out.cell (i := 3) (by omega)
      have ft3 := HT5.out.frozen 3
      have HT6 : Hid (Row (w5.setCell ⟨T, 3, none⟩ (.int .i64 (c : Int))) T 109 4 (fun j => if j = 0 then .int .u8 k else if j = 1 then .string nm else if j = 2 then .string vl else .int .i64 (c : Int))) := (HT5.out.set (i := 3) (by omega) _).congr fun j hj => by
        rcases (by omega : j = 0 ∨ j = 1 ∨ j = 2 ∨ j = 3) with rfl | rfl | rfl | rfl <;> rfl
      have HR6 : Hid (Row (w5.setCell ⟨T, 3, none⟩ (.int .i64 (c : Int))) R 109 4 (fun j => if j = 0 then .int .u8 0 else if j = 1 then str [] else if j = 2 then str [] else .int .i64 0)) := HR5.out.far (p := ⟨T, 3, none⟩) (by show R ≠ T; omega) _
      have HB6 : Hid (Below R w (w5.setCell ⟨T, 3, none⟩ (.int .i64 (c : Int)))) := HB5.out.setCell (p := ⟨T, 3, none⟩) (by show R ≤ T; omega) _
      have HPS6 : Hid (PS (w5.setCell ⟨T, 3, none⟩ (.int .i64 (c : Int))) g 0 cap (pagesR er.data.toList)) := HPS.out.ch ((Ch.refl (fun x => x = T) w5).setCell (p := ⟨T, 3, none⟩) (fun _ => rfl) _) hTg
      have hpl : (pagesR er.data.toList).length = c := by
        have h9 : er.data.toList.length = er.size := Array.length_toList
        rw [pagesR_len, h9, HERS.out, HCD.out]
      have hcc : c ≤ cap := by have := HPS.out.2.1; omega
      have HPL := Lib.hid hpl
      have h0 : Hid ((⟨#[]⟩ : ByteArray).data.toList = ((pagesR er.data.toList).take 0).flatten) := rfl
      clear hps b5 HPG HPS HT4 HR4 HB4 HT5 HR5 HB5 hs4 hpl hg5
      go_wp2_with fail
      generalize w5.setCell ⟨T, 3, none⟩ (.int .i64 (c : Int)) = w6 at *
      clear t3 ft3
      go_loop [8, 9] (fun x z => ∃ (i : Nat) (sb : ByteArray), i ≤ c ∧ x = .string sb ∧ z = .int .i64 (i : Int) ∧ Hid (sb.data.toList = ((pagesR er.data.toList).take i).flatten)) (fun _ z => c - (intOf z).toNat)
      case atStart => exact ⟨0, _, by omega, rfl, rfl, h0⟩
      case round =>
        clear h0
        obtain ⟨i, sb, hi, rfl, rfl, HSB⟩ := hrel
        have hsb : sb.size = i * 64 := by
          have h9 : sb.data.toList.length = sb.size := Array.length_toList
          rw [← h9, HSB.out, flat_len _ (fun p hp => pagesR_64 _ p (List.mem_of_mem_take hp)), List.length_take, HPL.out, Nat.min_eq_left hi]
        by_cases hlt : i < c
        · have z0 : (i : Int) < c := by omega
          obtain ⟨pe, hpe⟩ : ∃ pe : ByteArray, str ((pagesR er.data.toList).getD i []) = .string pe := ⟨_, rfl⟩
          have hpel : pe.data.toList = (pagesR er.data.toList).getD i [] := by injection hpe with hpe; rw [← hpe]
          have hps : pe.size = 64 := by
            have h9 : pe.data.toList.length = pe.size := Array.length_toList
            rw [← h9, hpel, List.getD_eq_getElem?_getD, List.getElem?_eq_getElem (by rw [HPL.out]; exact hlt)]
            exact pagesR_64 _ _ (List.getElem_mem _)
          have cg : w6.cell? ⟨g, i, none⟩ = some (.string pe) := by
            have := HPS6.out.2.2.2 i (by rw [HPL.out]; exact hlt)
            rw [Nat.zero_add, hpe] at this
            exact this
          have HSB2 : Hid ((sb ++ pe).data.toList = ((pagesR er.data.toList).take (i + 1)).flatten) := by
            show _ = _
            rw [take_next (by rw [HPL.out]; exact hlt), List.flatten_append, ByteArray.data_append, Array.toList_append, HSB.out, hpel]
            simp
          have q1 : ¬ 9223372036854775807 < sb.size + pe.size := by omega
          clear hpe hpel HSB hsb
          go_wp2_with fail
          go_round
          case rel => exact ⟨i + 1, sb ++ pe, by omega, rfl, by go_num, HSB2⟩
          case measure => simp [intOf]; omega
        · have z0 : ¬ (i : Int) < c := by omega
          have hic : i = c := by omega
          subst hic
          have hsbl : sb.data.toList = pad (recd k nm.data.toList vl.data.toList) := by
            rw [HSB.out, List.take_of_length_le (by rw [HPL.out]; omega), pagesR_flat, HERL.out]
          have hd4 := HD4.out
          rw [HERL.out, ← hsbl] at hd4
          have HR7 := HR6
          have HB7 := HB6
          have S7 : Hid (w6.drew.cell? ⟨T, 0, none⟩ = some (.int .u8 (k : Int)) ∧ w6.drew.cell? ⟨T, 1, none⟩ = some (.string nm) ∧ w6.drew.cell? ⟨T, 2, none⟩ = some (.string vl) ∧ w6.drew.cell? ⟨T, 3, none⟩ = some (.int .i64 (i : Int))) := ⟨HT6.out.drew.cell (i := 0) (by omega), HT6.out.drew.cell (i := 1) (by omega), HT6.out.drew.cell (i := 2) (by omega), HT6.out.drew.cell (i := 3) (by omega)⟩
          obtain ⟨M, hM⟩ : ∃ M, sb.size = M := ⟨_, rfl⟩
          have hMi : M = i * 64 := by omega
          rw [← hMi] at hd4
          have HD5 := Lib.hid hd4
          have hx1 : Hid ((s.extract 0 M).data.toList = s.data.toList.take M) := by show _ = _; rw [ext_toList]; rfl
          clear hd4 hsb hsbl HSB HD4 hMi
          by_cases hge : M ≤ s.size
          · have hgeI : (M : Int) ≤ (s.size : Int) := by omega
            have hM0 : (0 : Int) ≤ (M : Int) := by omega
            by_cases heq : s.extract 0 M = sb
            · have hee : ((s.extract 0 M).toList == sb.toList) = true := by rw [heq]; simp
              have HN : Hid (rdOk (decF s.data.toList) (.int .u8 (k : Int)) (.string nm) (.string vl) (.int .i64 (i : Int)) true) := by
                have h9 := HD5.out
                rw [if_pos ⟨hge, by rw [← hx1.out, heq]⟩] at h9
                refine ⟨fun k' n' v' c' h => ?_, fun h => by rw [h9] at h; cases h⟩
                rw [h9] at h
                simp only [Option.some.injEq, Prod.mk.injEq] at h
                obtain ⟨q1, q2, q3, q4⟩ := h
                rw [← q1, ← q2, ← q3, ← q4]
                exact ⟨rfl, rfl, str_of rfl, str_of rfl, rfl⟩
              clear heq
              go_wp2_with fail
              have b6 : decide ((M : Int) ≤ (s.size : Int)) = true := by simp; omega
              have b7 : decide (M ≤ s.size) = true := by simp; omega
              refine wp_region_pl (fun Y => Y.cell? ⟨T, 0, none⟩ = some (.int .u8 (k : Int)) ∧ Y.cell? ⟨T, 1, none⟩ = some (.string nm) ∧ Y.cell? ⟨T, 2, none⟩ = some (.string vl) ∧ Y.cell? ⟨T, 3, none⟩ = some (.int .i64 (i : Int))) ((0, 0) :: (1, 0) :: (2, 0) :: (3, 0) :: (4, 0) :: (5, 0) :: (6, 0) :: (7, 0) :: (8, 0) :: (9, 0) :: (10, 0) :: (11, 0) :: (12, 0) :: (13, 0) :: (14, 1) :: (15, 2) :: []) (by kernel_rfl) (by kernel_rfl) ?_
              iterate 14 (apply wpP_go; (focus rfl); (focus rfl); (focus exact S7.out); (focus (rintro Z ⟨s0, s1, s2, s3⟩; go_simp; exact rfl)); intro K hK; go_simp; refine hK _ ?_; clear hK K)
              have hr7 := HR7.out
              have r0 := hr7.cell (i := 0) (by omega)
              have r1 := hr7.cell (i := 1) (by omega)
              have r2 := hr7.cell (i := 2) (by omega)
              have r3 := hr7.cell (i := 3) (by omega)
              have f0 := hr7.frozen 0
              have f1 := hr7.frozen 1
              have f2 := hr7.frozen 2
              have f3 := hr7.frozen 3
              clear hr7
              have hTR : T ≠ R := by omega
              have ht8 := ((((HT6.out.far (p := ⟨R, 0, none⟩) hTR (.int .u8 (k : Int))).far (p := ⟨R, 1, none⟩) hTR (.string nm)).far (p := ⟨R, 2, none⟩) hTR (.string vl)).far (p := ⟨R, 3, none⟩) hTR (.int .i64 (i : Int))).drew
              have S8 := And.intro (ht8.cell (i := 0) (by omega)) (And.intro (ht8.cell (i := 1) (by omega)) (And.intro (ht8.cell (i := 2) (by omega)) (ht8.cell (i := 3) (by omega))))
              have HS8 := Lib.hid S8
              clear ht8 S8
              apply wpP_one
              focus rfl
              intro K hK
              go_simp
              refine hK _ _ HS8.out ?_
              clear hK K HS8
              apply wpP_two
              focus rfl
              intro K hK
              go_simp
              refine hK _ _ ?_
              clear hK K
              refine wpP_done ?_
              clear r0 r1 r2 r3 f0 f1 f2 f3
              go_wp2_with fail
              exact rd_end (HB7.out.drew) (HR7.out.drew) _ _ _ _ _ rfl rfl HN.out
            · have hee : ((s.extract 0 M).toList == sb.toList) = false := by
                rw [beq_eq_false_iff_ne]
                intro h9
                apply heq
                apply ByteArray.ext
                apply Array.toList_inj.1
                rw [ByteArray.toList_eq, ByteArray.toList_eq] at h9
                exact h9
              have HN : Hid (rdOk (decF s.data.toList) (.int .u8 (k : Int)) (.string nm) (.string vl) (.int .i64 (i : Int)) false) := by
                have h9 := HD5.out
                rw [if_neg (fun h => heq (by
                  apply ByteArray.ext
                  apply Array.toList_inj.1
                  rw [hx1.out]; exact h.2))] at h9
                exact ⟨fun k' n' v' c' h => (by rw [h9] at h; cases h), fun _ => rfl⟩
              clear heq
              go_wp2_with fail
              have b6 : decide ((M : Int) ≤ (s.size : Int)) = true := by simp; omega
              have b7 : decide (M ≤ s.size) = true := by simp; omega
              refine wp_region_pl (fun Y => Y.cell? ⟨T, 0, none⟩ = some (.int .u8 (k : Int)) ∧ Y.cell? ⟨T, 1, none⟩ = some (.string nm) ∧ Y.cell? ⟨T, 2, none⟩ = some (.string vl) ∧ Y.cell? ⟨T, 3, none⟩ = some (.int .i64 (i : Int))) ((0, 0) :: (1, 0) :: (2, 0) :: (3, 0) :: (4, 0) :: (5, 0) :: (6, 0) :: (7, 0) :: (8, 0) :: (9, 0) :: (10, 0) :: (11, 0) :: (12, 0) :: (13, 0) :: (14, 1) :: (15, 2) :: []) (by kernel_rfl) (by kernel_rfl) ?_
              iterate 14 (apply wpP_go; (focus rfl); (focus rfl); (focus exact S7.out); (focus (rintro Z ⟨s0, s1, s2, s3⟩; go_simp; exact rfl)); intro K hK; go_simp; refine hK _ ?_; clear hK K)
              have hr7 := HR7.out
              have r0 := hr7.cell (i := 0) (by omega)
              have r1 := hr7.cell (i := 1) (by omega)
              have r2 := hr7.cell (i := 2) (by omega)
              have r3 := hr7.cell (i := 3) (by omega)
              have f0 := hr7.frozen 0
              have f1 := hr7.frozen 1
              have f2 := hr7.frozen 2
              have f3 := hr7.frozen 3
              clear hr7
              have hTR : T ≠ R := by omega
              have ht8 := ((((HT6.out.far (p := ⟨R, 0, none⟩) hTR (.int .u8 (k : Int))).far (p := ⟨R, 1, none⟩) hTR (.string nm)).far (p := ⟨R, 2, none⟩) hTR (.string vl)).far (p := ⟨R, 3, none⟩) hTR (.int .i64 (i : Int))).drew
              have S8 := And.intro (ht8.cell (i := 0) (by omega)) (And.intro (ht8.cell (i := 1) (by omega)) (And.intro (ht8.cell (i := 2) (by omega)) (ht8.cell (i := 3) (by omega))))
              have HS8 := Lib.hid S8
              clear ht8 S8
              apply wpP_one
              focus rfl
              intro K hK
              go_simp
              refine hK _ _ HS8.out ?_
              clear hK K HS8
              apply wpP_two
              focus rfl
              intro K hK
              go_simp
              refine hK _ _ ?_
              clear hK K
              refine wpP_done ?_
              clear r0 r1 r2 r3 f0 f1 f2 f3
              go_wp2_with fail
              exact rd_end (HB7.out.drew) (HR7.out.drew) _ _ _ _ _ rfl rfl HN.out
          · have hgeI : ¬ (M : Int) ≤ (s.size : Int) := by omega
            have HN : Hid (rdOk (decF s.data.toList) (.int .u8 (k : Int)) (.string nm) (.string vl) (.int .i64 (i : Int)) false) := by
              have h9 := HD5.out
              rw [if_neg (fun h => hge h.1)] at h9
              exact ⟨fun k' n' v' c' h => (by rw [h9] at h; cases h), fun _ => rfl⟩
            go_wp2_with fail
            have b6 : decide ((M : Int) ≤ (s.size : Int)) = false := by simp; omega
            have b7 : decide (M ≤ s.size) = false := by simp; omega
            refine wp_region_pl (fun Y => Y.cell? ⟨T, 0, none⟩ = some (.int .u8 (k : Int)) ∧ Y.cell? ⟨T, 1, none⟩ = some (.string nm) ∧ Y.cell? ⟨T, 2, none⟩ = some (.string vl) ∧ Y.cell? ⟨T, 3, none⟩ = some (.int .i64 (i : Int))) ((0, 0) :: (1, 0) :: (2, 0) :: (3, 0) :: (4, 0) :: (5, 0) :: (6, 0) :: (7, 0) :: (8, 0) :: (9, 0) :: (10, 0) :: (11, 0) :: (12, 0) :: (13, 0) :: (14, 1) :: (15, 2) :: []) (by kernel_rfl) (by kernel_rfl) ?_
            iterate 7 (apply wpP_go; (focus rfl); (focus rfl); (focus exact S7.out); (focus (rintro Z ⟨s0, s1, s2, s3⟩; go_simp; exact rfl)); intro K hK; go_simp; refine hK _ ?_; clear hK K)
            iterate 6 (apply wpP_not; (focus rfl); (focus rfl); (focus exact S7.out); intro K hK; go_simp; refine hK _ ?_; clear hK K)
            iterate 1 (apply wpP_go; (focus rfl); (focus rfl); (focus exact S7.out); (focus (rintro Z ⟨s0, s1, s2, s3⟩; go_simp; exact rfl)); intro K hK; go_simp; refine hK _ ?_; clear hK K)
            have hr7 := HR7.out
            have r0 := hr7.cell (i := 0) (by omega)
            have r1 := hr7.cell (i := 1) (by omega)
            have r2 := hr7.cell (i := 2) (by omega)
            have r3 := hr7.cell (i := 3) (by omega)
            have f0 := hr7.frozen 0
            have f1 := hr7.frozen 1
            have f2 := hr7.frozen 2
            have f3 := hr7.frozen 3
            clear hr7
            have hTR : T ≠ R := by omega
            have ht8 := ((((HT6.out.far (p := ⟨R, 0, none⟩) hTR (.int .u8 (k : Int))).far (p := ⟨R, 1, none⟩) hTR (.string nm)).far (p := ⟨R, 2, none⟩) hTR (.string vl)).far (p := ⟨R, 3, none⟩) hTR (.int .i64 (i : Int))).drew
            have S8 := And.intro (ht8.cell (i := 0) (by omega)) (And.intro (ht8.cell (i := 1) (by omega)) (And.intro (ht8.cell (i := 2) (by omega)) (ht8.cell (i := 3) (by omega))))
            have HS8 := Lib.hid S8
            clear ht8 S8
            apply wpP_one
            focus rfl
            intro K hK
            go_simp
            refine hK _ _ HS8.out ?_
            clear hK K HS8
            apply wpP_two
            focus rfl
            intro K hK
            go_simp
            refine hK _ _ ?_
            clear hK K
            refine wpP_done ?_
            clear r0 r1 r2 r3 f0 f1 f2 f3
            go_wp2_with fail
            exact rd_end (HB7.out.drew) (HR7.out.drew) _ _ _ _ _ rfl rfl HN.out
end Go.Proofs.YtfglopkglnpokaaGreat
namespace Go.Proofs.YtfglopkglnpokaaGreat
open Go.RowKit
/-- The new variable ahead of the first greater one. -/
def insV : Vars → Str → Str → Vars
  | [], k, v => [(k, v)]
  | p :: r, k, v => if k < p.1 then (k, v) :: p :: r else p :: insV r k v
theorem insV_del {V : Vars} (h : Srt V) (k v : Str) : insV (delV V k) k v = setV V k v := by
  induction V with
  | nil => rfl
  | cons p r ih =>
    have h' := List.pairwise_cons.1 h
    have hr := ih h'.2
    by_cases h1 : p.1 = k
    · have hb : (p.1 == k) = true := by simpa using h1
      have hd : delV (p :: r) k = delV r k := by unfold delV; rw [List.filter_cons, hb]; rfl
      have hs : delV r k = r := delV_same fun q hq => by rw [← h1]; exact h'.1 q hq
      have hn : ¬ k < p.1 := by rw [h1]; exact List.lt_irrefl _
      rw [hd, hs]
      unfold setV
      rw [if_neg hn, if_pos h1.symm]
      cases hr0 : r with
      | nil => rfl
      | cons q t =>
        unfold insV
        rw [if_pos]
        rw [← h1]; exact h'.1 q (by rw [hr0]; simp)
    · have hb : (p.1 == k) = false := by simpa using h1
      have hd : delV (p :: r) k = p :: delV r k := by unfold delV; rw [List.filter_cons, hb]; rfl
      rw [hd]
      unfold insV setV
      by_cases h2 : k < p.1
      · rw [if_pos h2, if_pos h2, delV_same fun q hq => List.lt_trans h2 (h'.1 q hq)]
      · rw [if_neg h2, if_neg h2, if_neg (fun e => h1 e.symm), hr]
theorem insV_put {l : Vars} {k v : Str} (h : ∃ x ∈ l, k < x.1) (p : Str × Str) : insV (l ++ [p]) k v = insV l k v ++ [p] := by
  induction l with
  | nil => obtain ⟨x, hx, _⟩ := h; cases hx
  | cons q t ih =>
    show insV (q :: (t ++ [p])) k v = _
    unfold insV
    by_cases h2 : k < q.1
    · rw [if_pos h2, if_pos h2]; rfl
    · rw [if_neg h2, if_neg h2]
      obtain ⟨x, hx, hl⟩ := h
      rcases List.mem_cons.1 hx with e | hx
      · rw [e] at hl; exact absurd hl h2
      · rw [ih ⟨x, hx, hl⟩]; rfl
theorem insV_none {l : Vars} {k v : Str} (h : ∀ x ∈ l, ¬ k < x.1) (t : Vars) : insV (l ++ t) k v = l ++ insV t k v := by
  induction l with
  | nil => rfl
  | cons q s ih =>
    have e : insV (q :: (s ++ t)) k v = q :: insV (s ++ t) k v := by
      show (if k < q.1 then _ else _) = _
      rw [if_neg (h q (by simp))]
    show insV (q :: (s ++ t)) k v = _
    rw [e, ih fun x hx => h x (List.mem_cons_of_mem _ hx)]
    rfl
theorem OV.nil {w wr : World} (hb : Below w.heap.size w wr) : OV w wr (.slice none 0 0) [] := ⟨⟨rfl, .inl ⟨rfl, rfl⟩⟩, (fun _ hg => (by cases hg)), hb⟩
theorem OV.form {w wr : World} {v : Value} {E : Vars} (h : OV w wr v E) : ∃ a cap, v = .slice a E.length cap ∧ VS wr a cap E ∧ ∀ g, a = some ⟨g, 0, none⟩ → w.heap.size ≤ g := by
  by_cases hE : E = []
  · subst hE
    obtain ⟨⟨hl, h1 | ⟨g, cap, cur, rfl, hbg, hh, hn1, hm1, _, _⟩⟩, hn, _⟩ := h
    · exact ⟨none, 0, h1.1, ⟨Nat.le_refl _, by unfold maxLen; omega, fun k => absurd rfl k⟩, fun g e => by cases e⟩
    · exact ⟨_, cap, rfl, ⟨hn1, hm1, fun k => absurd rfl k⟩, fun g' e => by injection e with e; injection e with e; rw [← e]; exact hn g rfl⟩
  · obtain ⟨g, cap, e, hvs, hg⟩ := h.vs hE
    exact ⟨_, cap, e, hvs, fun g' e => by injection e with e; injection e with e; rw [← e]; exact hg⟩
theorem delV_len (V : Vars) (n : Str) : (delV V n).length ≤ V.length := List.length_filter_le _ _
set_option maxRecDepth 100000 in
set_option maxHeartbeats 2000000 in
theorem rwithout_any {w : World} {a : Option Addr} {cap L : Nat} {V : Vars} (h : VS w a cap V) (hL : V.length = L) (hL2 : L ≤ 1000) (ne : ByteArray) :
    Calls Tryz.prog 74 #[.slice a L cap, .string ne] w fun e w' => ∃ v, e = .returned v ∧ OV w w' v (delV V ne.data.toList) := by
  obtain ⟨i0, hi0, hx0, hx1, hx2⟩ := info_parts Tryz.infoV
  have H := Lib.hid h
  have HL := Lib.hid hL
  have hcap : L ≤ cap ∧ cap ≤ maxLen := by have := h.1; have := h.2.1; omega
  have HO : Hid (OV w w (.slice none 0 0) (delV (V.take 0) ne.data.toList)) := OV.nil (Below.refl _ _)
  clear h hL
  go_enter Tryz.func74, Tryz.ntmps74
  go_wp2_with fail
  go_loopw [5, 6] (fun x z wr => ∃ (k n : Nat) (vl : Value) (E : Vars), k ≤ L ∧ n ≤ k ∧ vl = x ∧ z = .int .i64 (k : Int) ∧ Hid (E.length = n) ∧ Hid (E = delV (V.take k) ne.data.toList) ∧ Hid (OV w wr vl E)) (fun _ z _ => L - (intOf z).toNat)
  case atStart => exact ⟨0, 0, _, [], by omega, by omega, rfl, rfl, Lib.hid rfl, Lib.hid rfl, HO⟩
  case round =>
    clear HO
    obtain ⟨k, n, vl, E, hk, hnk, hvl, rfl, HEl, HE, HO⟩ := hrel
    subst hvl
    by_cases hlt : k < L
    · have y0 : (k : Int) < L := by omega
      obtain ⟨gw, hgw, hgl, hcell⟩ := (H.out.below HO.out.bel).2.2 (by intro e; have := HL.out; rw [e] at this; simp at this; omega)
      obtain ⟨c0, c1⟩ := hcell k (by rw [HL.out]; exact hlt)
      obtain ⟨pk, hpk⟩ : ∃ p, V.getD k ([], []) = p := ⟨_, rfl⟩
      rw [hpk] at c0 c1
      obtain ⟨ke, hke⟩ : ∃ s : ByteArray, str pk.1 = .string s := ⟨_, rfl⟩
      obtain ⟨kv, hkv⟩ : ∃ s : ByteArray, str pk.2 = .string s := ⟨_, rfl⟩
      have hkel : ke.data.toList = pk.1 := by injection hke with hke; rw [← hke]
      have hkvl : kv.data.toList = pk.2 := by injection hkv with hkv; rw [← hkv]
      rw [hke] at c0
      rw [hkv] at c1
      have hdt := delV_take (V := V) (k := k) ne.data.toList (by rw [HL.out]; exact hlt)
      rw [hpk] at hdt
      subst hgw
      by_cases heq : pk.1 = ne.data.toList
      · have hd : (ke.toList == ne.toList) = true := by rw [ByteArray.toList_eq, ByteArray.toList_eq, hkel, heq]; simp
        rw [if_pos heq] at hdt
        have HE2 : Hid (E = delV (V.take (k + 1)) ne.data.toList) := by show _ = _; rw [hdt]; exact HE.out
        clear hdt hpk heq hke hkv hkel hkvl hcell
        go_wp2_with fail
        go_roundw
        case rel => exact ⟨k + 1, n, _, E, by omega, by omega, rfl, by go_num, HEl, HE2, HO⟩
        case measure => simp [intOf]; omega
      · have hd : (ke.toList == ne.toList) = false := by rw [ByteArray.toList_eq, ByteArray.toList_eq, hkel]; simpa using heq
        rw [if_neg heq] at hdt
        have HE2 : Hid (E ++ [pk] = delV (V.take (k + 1)) ne.data.toList) := by show _ = _; rw [hdt, HE.out]
        have HK : Hid (pk = (ke.data.toList, kv.data.toList)) := by show _ = _; rw [hkel, hkvl]
        have HP := Lib.hid (HO.out.push ke kv)
        rw [HEl.out] at HP
        clear hdt hpk heq hke hkv hkel hkvl hcell
        go_wp2_with (at_builtin; refine wpList_append_lies _ rfl _ _ 55 rfl 0 54 i0 _ 2 32 Tryz.underlying55 hi0 hx0 hx1 hx2 rfl (by omega) vl n (E.flatMap vcf) rfl (by exact HP.out.2) ⟨wr.heap.size, 0, none⟩ 1 1 (vcf (ke.data.toList, kv.data.toList)) rfl rfl (by exact HP.out.1) (vcf_one _) (by omega) (by simp only [maxLen]; omega) (by omega) (Nat.zero_le _) (wr.heap.size + 1) (by simp) ?_)
        intro g cap2 w6 ho hg hat hbel
        rw [← HEl.out] at ho
        have O2 := HO.out.take ho hg hat
        rw [← HK.out, HEl.out] at O2
        have HO6 := Lib.hid O2
        have HEl6 : Hid ((E ++ [pk]).length = n + 1) := by show _ = _; rw [List.length_append, HEl.out]; rfl
        clear ho hg hat hbel O2 HP HO
        go_wp2_with fail
        go_roundw
        case rel => exact ⟨k + 1, n + 1, _, E ++ [pk], by omega, by omega, rfl, by go_num, HEl6, HE2, HO6⟩
        case measure => simp [intOf]; omega
    · have y0 : ¬ (k : Int) < L := by omega
      have hE9 : E = delV V ne.data.toList := by rw [HE.out, List.take_of_length_le (by rw [HL.out]; omega)]
      have HF : Hid (OV w wr vl (delV V ne.data.toList)) := by show OV _ _ _ _; rw [← hE9]; exact HO.out
      clear hE9
      go_wp2_with fail
      go_ret
      exact ⟨_, rfl, HF.out⟩
/-- What has been put out ahead of element k. -/
def WI (pb : Bool) (rest : Vars) (nm v : Str) (k : Nat) (E : Vars) : Prop :=
  if pb = true then (∃ x ∈ rest.take k, nm < x.1) ∧ E = insV (rest.take k) nm v else (∀ x ∈ rest.take k, ¬ nm < x.1) ∧ E = rest.take k
theorem vtake_next {l : Vars} {i : Nat} (h : i < l.length) : l.take (i + 1) = l.take i ++ [l.getD i ([], [])] := by
  rw [List.take_succ_eq_append_getElem h, List.getD_eq_getElem?_getD, List.getElem?_eq_getElem h]
  rfl
theorem WI.put {rest : Vars} {nm v : Str} {k : Nat} {E : Vars} (h : WI true rest nm v k E) (hk : k < rest.length) : WI true rest nm v (k + 1) (E ++ [rest.getD k ([], [])]) := by
  unfold WI at *
  rw [if_pos rfl] at *
  obtain ⟨⟨x, hx, hl⟩, rfl⟩ := h
  rw [vtake_next hk]
  exact ⟨⟨x, List.mem_append_left _ hx, hl⟩, (insV_put ⟨x, hx, hl⟩ _).symm⟩
theorem WI.turn {rest : Vars} {nm v : Str} {k : Nat} {E : Vars} (h : WI false rest nm v k E) (hk : k < rest.length) (hl : nm < (rest.getD k ([], [])).1) : WI true rest nm v (k + 1) (E ++ [(nm, v)] ++ [rest.getD k ([], [])]) := by
  unfold WI at *
  rw [if_neg (by simp)] at h
  rw [if_pos rfl]
  obtain ⟨hn, rfl⟩ := h
  rw [vtake_next hk]
  refine ⟨⟨_, List.mem_append_right _ (List.mem_singleton.2 rfl), hl⟩, ?_⟩
  rw [insV_none hn]
  have e : insV [rest.getD k ([], [])] nm v = [(nm, v), rest.getD k ([], [])] := by
    show (if nm < (rest.getD k ([], [])).1 then _ else _) = _
    rw [if_pos hl]
  rw [e, List.append_assoc]
  rfl
theorem WI.stay {rest : Vars} {nm v : Str} {k : Nat} {E : Vars} (h : WI false rest nm v k E) (hk : k < rest.length) (hl : ¬ nm < (rest.getD k ([], [])).1) : WI false rest nm v (k + 1) (E ++ [rest.getD k ([], [])]) := by
  unfold WI at *
  rw [if_neg (by simp)] at *
  obtain ⟨hn, rfl⟩ := h
  rw [vtake_next hk]
  refine ⟨fun x hx => ?_, rfl⟩
  rcases List.mem_append.1 hx with e | e
  · exact hn x e
  · rw [List.mem_singleton.1 e]; exact hl
set_option maxRecDepth 100000 in
set_option maxHeartbeats 4000000 in
theorem rwith_any {w : World} {a : Option Addr} {cap L : Nat} {V : Vars} (h : VS w a cap V) (hL : V.length = L) (hL2 : L ≤ 1000) (hs : Srt V) (ne ve : ByteArray) :
    Calls Tryz.prog 73 #[.slice a L cap, .string ne, .string ve] w fun e w' => ∃ v, e = .returned v ∧ OV w w' v (setV V ne.data.toList ve.data.toList) := by
  obtain ⟨i0, hi0, hx0, hx1, hx2⟩ := info_parts Tryz.infoV
  have HWO := Lib.hid (rwithout_any h hL hL2 ne)
  have hdl := delV_len V ne.data.toList
  have HIN := Lib.hid (insV_del hs ne.data.toList ve.data.toList)
  generalize delV V ne.data.toList = rest at *
  rw [hL] at hdl
  clear h hL hs
  go_enter Tryz.func73, Tryz.ntmps73
  go_wp2_with fail
  refine HWO.out.mono ?_
  rintro e w1 ⟨v1, rfl, ho1⟩
  obtain ⟨a2, c2, rfl, hvs, hnew⟩ := ho1.form
  obtain ⟨R, hR⟩ : ∃ R, rest.length = R := ⟨_, rfl⟩
  rw [hR] at hdl ⊢
  have HR := Lib.hid hR
  have H := Lib.hid hvs
  have HB1 := Lib.hid ho1.bel
  have hcap : R ≤ c2 ∧ c2 ≤ maxLen := by have := hvs.1; have := hvs.2.1; omega
  have HO : Hid (OV w1 w1 (.slice none 0 0) []) := OV.nil (Below.refl _ _)
  have HW0 : Hid (WI false rest ne.data.toList ve.data.toList 0 []) := by
    show WI _ _ _ _ _ _
    unfold WI
    rw [if_neg (by simp)]
    exact ⟨fun x hx => by simp at hx, rfl⟩
  clear HWO ho1 hvs hnew hR
  go_wp2_with fail
  go_loopw [7, 9, 10] (fun x q z wr => ∃ (k n : Nat) (vl : Value) (E : Vars) (pb : Bool), k ≤ R ∧ n ≤ k + 1 ∧ vl = x ∧ q = .bool pb ∧ z = .int .i64 (k : Int) ∧ Hid (E.length = n) ∧ Hid (WI pb rest ne.data.toList ve.data.toList k E) ∧ Hid (OV w1 wr vl E)) (fun _ _ z _ => R - (intOf z).toNat)
  case atStart => exact ⟨0, 0, _, [], false, by omega, by omega, rfl, rfl, rfl, Lib.hid rfl, HW0, HO⟩
  case round =>
    clear HO HW0
    obtain ⟨k, n, vl, E, pb, hk, hnk, hvl, rfl, rfl, HEl, HW, HO⟩ := hrel
    subst hvl
    by_cases hlt : k < R
    · have y0 : (k : Int) < R := by omega
      obtain ⟨gw, hgw, hgl, hcell⟩ := H.out.2.2 (by intro e; have := HR.out; rw [e] at this; simp at this; omega)
      obtain ⟨c0, c1⟩ := hcell k (by rw [HR.out]; exact hlt)
      obtain ⟨pk, hpk⟩ : ∃ p, rest.getD k ([], []) = p := ⟨_, rfl⟩
      have hkr : k < rest.length := by rw [HR.out]; exact hlt
      rw [hpk] at c0 c1
      obtain ⟨ke, hke⟩ : ∃ s : ByteArray, str pk.1 = .string s := ⟨_, rfl⟩
      obtain ⟨kv, hkv⟩ : ∃ s : ByteArray, str pk.2 = .string s := ⟨_, rfl⟩
      have hkel : ke.data.toList = pk.1 := by injection hke with hke; rw [← hke]
      have hkvl : kv.data.toList = pk.2 := by injection hkv with hkv; rw [← hkv]
      rw [hke] at c0
      rw [hkv] at c1
      have hpk2 : rest.getD k ([], []) = (ke.data.toList, kv.data.toList) := by rw [hpk, hkel, hkvl]
      subst hgw
      have C := Lib.hid (And.intro c0 c1)
      have hc : ∀ wx, Below w1.heap.size w1 wx → wx.cell? ⟨gw, k * 2, none⟩ = some (.string ke) ∧ wx.cell? ⟨gw, k * 2 + 1, none⟩ = some (.string kv) := fun wx b => ⟨(b.cell (p := ⟨gw, k * 2, none⟩) hgl).trans C.out.1, (b.cell (p := ⟨gw, k * 2 + 1, none⟩) hgl).trans C.out.2⟩
      have HC := Lib.hid hc
      have d0 := (hc wr HO.out.bel).1
      have d1 := (hc wr HO.out.bel).2
      clear c0 c1 C hc hcell hke hkv hpk
      cases pb
      · have hnk2 : n ≤ k := by
          have h8 := HEl.out
          have h9 := HW.out
          unfold WI at h9
          rw [if_neg (by simp)] at h9
          rw [h9.2, List.length_take] at h8
          omega
        by_cases hlt2 : ne.data.toList < ke.data.toList
        · have hbl : Op.bytesLess ke.toList ne.toList = false := by
            rw [Go.Proofs.bytesLess_eq, ByteArray.toList_eq, ByteArray.toList_eq]
            simpa using List.lt_asymm hlt2
          have hbe : (ke.toList == ne.toList) = false := by
            rw [ByteArray.toList_eq, ByteArray.toList_eq, beq_eq_false_iff_ne]
            intro e
            rw [e] at hlt2
            exact List.lt_irrefl _ hlt2
          have hw2 := HW.out.turn hkr (by rw [hpk2]; exact hlt2)
          rw [hpk2] at hw2
          have HW2 := Lib.hid hw2
          clear hw2 hpk2 hlt2 hkel hkvl HW hkr
          have HP5 := Lib.hid (HO.out.push ne ve)
          rw [HEl.out] at HP5
          go_wp2_with (at_builtin; refine wpList_append_lies _ rfl _ _ 55 rfl 0 54 i0 _ 2 32 Tryz.underlying55 hi0 hx0 hx1 hx2 rfl (by omega) vl n (E.flatMap vcf) rfl (by exact HP5.out.2) ⟨wr.heap.size, 0, none⟩ 1 1 (vcf (ne.data.toList, ve.data.toList)) rfl rfl (by exact HP5.out.1) (vcf_one _) (by omega) (by simp only [maxLen]; omega) (by omega) (Nat.zero_le _) (wr.heap.size + 1) (by simp) ?_)
          intro g5 cap5 w5 ho5 hg5 hat5 hbel5
          rw [← HEl.out] at ho5
          have O5 := HO.out.take ho5 hg5 hat5
          rw [HEl.out] at O5
          have HO5 := Lib.hid O5
          have HEl5 : Hid ((E ++ [(ne.data.toList, ve.data.toList)]).length = n + 1) := by show _ = _; rw [List.length_append, HEl.out]; rfl
          clear ho5 hg5 hat5 hbel5 O5 HP5 HO d0 d1
          have d0 := (HC.out w5 HO5.out.bel).1
          have d1 := (HC.out w5 HO5.out.bel).2
          obtain ⟨E5, hE5⟩ : ∃ E', E ++ [(ne.data.toList, ve.data.toList)] = E' := ⟨_, rfl⟩
          rw [hE5] at HO5 HEl5 HW2
          clear hE5
          have HP6 := Lib.hid (HO5.out.push ke kv)
          rw [HEl5.out] at HP6
          go_wp2_with (at_builtin; refine wpList_append_lies _ rfl _ _ 55 rfl 0 54 i0 _ 2 32 Tryz.underlying55 hi0 hx0 hx1 hx2 rfl (by omega) (.slice (some ⟨g5, 0, none⟩) (n + 1) cap5) (n + 1) (E5.flatMap vcf) rfl (by exact HP6.out.2) ⟨w5.heap.size, 0, none⟩ 1 1 (vcf (ke.data.toList, kv.data.toList)) rfl rfl (by exact HP6.out.1) (vcf_one _) (by omega) (by simp only [maxLen]; omega) (by omega) (Nat.zero_le _) (w5.heap.size + 1) (by simp) ?_)
          intro g6 cap6 w6 ho6 hg6 hat6 hbel6
          rw [← HEl5.out] at ho6
          have O6 := HO5.out.take ho6 hg6 hat6
          rw [HEl5.out] at O6
          have HO6 := Lib.hid O6
          have HEl6 : Hid ((E5 ++ [(ke.data.toList, kv.data.toList)]).length = (n + 1) + 1) := by show _ = _; rw [List.length_append, HEl5.out]; rfl
          clear ho6 hg6 hat6 hbel6 O6 HP6 HO5 d0 d1
          clear hbl hbe
          go_wp2_with fail
          go_roundw
          case rel => exact ⟨k + 1, n + 1 + 1, _, _, true, by omega, by omega, rfl, rfl, by go_num, HEl6, HW2, HO6⟩
          case measure => simp [intOf]; omega
        · have hw2 := HW.out.stay hkr (by rw [hpk2]; exact hlt2)
          rw [hpk2] at hw2
          have HW2 := Lib.hid hw2
          by_cases heq : ke.data.toList = ne.data.toList
          · have hbe : (ke.toList == ne.toList) = true := by rw [ByteArray.toList_eq, ByteArray.toList_eq, heq]; simp
            have hbl : Op.bytesLess ke.toList ne.toList = false := by
              rw [Go.Proofs.bytesLess_eq, ByteArray.toList_eq, ByteArray.toList_eq, heq]
              simp
            clear hw2 hpk2 hlt2 hkel hkvl HW hkr heq
            have HP6 := Lib.hid (HO.out.push ke kv)
            rw [HEl.out] at HP6
            go_wp2_with (at_builtin; refine wpList_append_lies _ rfl _ _ 55 rfl 0 54 i0 _ 2 32 Tryz.underlying55 hi0 hx0 hx1 hx2 rfl (by omega) vl n (E.flatMap vcf) rfl (by exact HP6.out.2) ⟨wr.heap.size, 0, none⟩ 1 1 (vcf (ke.data.toList, kv.data.toList)) rfl rfl (by exact HP6.out.1) (vcf_one _) (by omega) (by simp only [maxLen]; omega) (by omega) (Nat.zero_le _) (wr.heap.size + 1) (by simp) ?_)
            intro g6 cap6 w6 ho6 hg6 hat6 hbel6
            rw [← HEl.out] at ho6
            have O6 := HO.out.take ho6 hg6 hat6
            rw [HEl.out] at O6
            have HO6 := Lib.hid O6
            have HEl6 : Hid ((E ++ [(ke.data.toList, kv.data.toList)]).length = n + 1) := by show _ = _; rw [List.length_append, HEl.out]; rfl
            clear ho6 hg6 hat6 hbel6 O6 HP6 HO d0 d1
            clear hbl hbe
            go_wp2_with fail
            go_roundw
            case rel => exact ⟨k + 1, n + 1, _, _, false, by omega, by omega, rfl, rfl, by go_num, HEl6, HW2, HO6⟩
            case measure => simp [intOf]; omega
          · have hbl : Op.bytesLess ke.toList ne.toList = true := by
              rw [Go.Proofs.bytesLess_eq, ByteArray.toList_eq, ByteArray.toList_eq]
              rcases Std.lt_trichotomy ke.data.toList ne.data.toList with h1 | h1 | h1
              · simpa using h1
              · exact absurd h1 heq
              · exact absurd h1 hlt2
            clear hw2 hpk2 hlt2 hkel hkvl HW hkr heq
            have HP6 := Lib.hid (HO.out.push ke kv)
            rw [HEl.out] at HP6
            go_wp2_with (at_builtin; refine wpList_append_lies _ rfl _ _ 55 rfl 0 54 i0 _ 2 32 Tryz.underlying55 hi0 hx0 hx1 hx2 rfl (by omega) vl n (E.flatMap vcf) rfl (by exact HP6.out.2) ⟨wr.heap.size, 0, none⟩ 1 1 (vcf (ke.data.toList, kv.data.toList)) rfl rfl (by exact HP6.out.1) (vcf_one _) (by omega) (by simp only [maxLen]; omega) (by omega) (Nat.zero_le _) (wr.heap.size + 1) (by simp) ?_)
            intro g6 cap6 w6 ho6 hg6 hat6 hbel6
            rw [← HEl.out] at ho6
            have O6 := HO.out.take ho6 hg6 hat6
            rw [HEl.out] at O6
            have HO6 := Lib.hid O6
            have HEl6 : Hid ((E ++ [(ke.data.toList, kv.data.toList)]).length = n + 1) := by show _ = _; rw [List.length_append, HEl.out]; rfl
            clear ho6 hg6 hat6 hbel6 O6 HP6 HO d0 d1
            clear hbl
            go_wp2_with fail
            go_roundw
            case rel => exact ⟨k + 1, n + 1, _, _, false, by omega, by omega, rfl, rfl, by go_num, HEl6, HW2, HO6⟩
            case measure => simp [intOf]; omega
      · have hw2 := HW.out.put hkr
        rw [hpk2] at hw2
        have HW2 := Lib.hid hw2
        clear hw2 hpk2 hkel hkvl HW hkr
        have HP6 := Lib.hid (HO.out.push ke kv)
        rw [HEl.out] at HP6
        go_wp2_with (at_builtin; refine wpList_append_lies _ rfl _ _ 55 rfl 0 54 i0 _ 2 32 Tryz.underlying55 hi0 hx0 hx1 hx2 rfl (by omega) vl n (E.flatMap vcf) rfl (by exact HP6.out.2) ⟨wr.heap.size, 0, none⟩ 1 1 (vcf (ke.data.toList, kv.data.toList)) rfl rfl (by exact HP6.out.1) (vcf_one _) (by omega) (by simp only [maxLen]; omega) (by omega) (Nat.zero_le _) (wr.heap.size + 1) (by simp) ?_)
        intro g6 cap6 w6 ho6 hg6 hat6 hbel6
        rw [← HEl.out] at ho6
        have O6 := HO.out.take ho6 hg6 hat6
        rw [HEl.out] at O6
        have HO6 := Lib.hid O6
        have HEl6 : Hid ((E ++ [(ke.data.toList, kv.data.toList)]).length = n + 1) := by show _ = _; rw [List.length_append, HEl.out]; rfl
        clear ho6 hg6 hat6 hbel6 O6 HP6 HO d0 d1
        go_wp2_with fail
        go_roundw
        case rel => exact ⟨k + 1, n + 1, _, _, true, by omega, by omega, rfl, rfl, by go_num, HEl6, HW2, HO6⟩
        case measure => simp [intOf]; omega
    · have y0 : ¬ (k : Int) < R := by omega
      have hkR : k = R := by omega
      have hw := HW.out
      unfold WI at hw
      rw [List.take_of_length_le (by rw [HR.out]; omega)] at hw
      cases pb
      · rw [if_neg (by simp)] at hw
        have hn : insV rest ne.data.toList ve.data.toList = E ++ [(ne.data.toList, ve.data.toList)] := by
          have := insV_none (v := ve.data.toList) hw.1 []
          rw [List.append_nil] at this
          rw [this, hw.2]
          rfl
        rw [HIN.out] at hn
        have HN := Lib.hid hn
        clear hw hn HW
        have HP6 := Lib.hid (HO.out.push ne ve)
        rw [HEl.out] at HP6
        go_wp2_with (at_builtin; refine wpList_append_lies _ rfl _ _ 55 rfl 0 54 i0 _ 2 32 Tryz.underlying55 hi0 hx0 hx1 hx2 rfl (by omega) vl n (E.flatMap vcf) rfl (by exact HP6.out.2) ⟨wr.heap.size, 0, none⟩ 1 1 (vcf (ne.data.toList, ve.data.toList)) rfl rfl (by exact HP6.out.1) (vcf_one _) (by omega) (by simp only [maxLen]; omega) (by omega) (Nat.zero_le _) (wr.heap.size + 1) (by simp) ?_)
        intro g6 cap6 w6 ho6 hg6 hat6 hbel6
        rw [← HEl.out] at ho6
        have O6 := HO.out.take ho6 hg6 hat6
        rw [HEl.out] at O6
        have HO6 := Lib.hid O6
        have HEl6 : Hid ((E ++ [(ne.data.toList, ve.data.toList)]).length = n + 1) := by show _ = _; rw [List.length_append, HEl.out]; rfl
        clear ho6 hg6 hat6 hbel6 O6 HP6 HO
        have HF : Hid (OV w w6 (.slice (some ⟨g6, 0, none⟩) (n + 1) cap6) (setV V ne.data.toList ve.data.toList)) := by
          have := HO6.out
          show OV _ _ _ _
          rw [HN.out]
          refine ⟨this.row, fun x hx => ?_, HB1.out.trans (this.bel.mono HB1.out.size)⟩
          have h1 := this.new x hx
          have h2 := HB1.out.size
          omega
        go_wp2_with fail
        go_ret
        exact ⟨_, rfl, HF.out⟩
      · rw [if_pos rfl, HIN.out] at hw
        have HF : Hid (OV w wr vl (setV V ne.data.toList ve.data.toList)) := by
          have := HO.out
          show OV _ _ _ _
          rw [← hw.2]
          refine ⟨this.row, fun x hx => ?_, HB1.out.trans (this.bel.mono HB1.out.size)⟩
          have h1 := this.new x hx
          have h2 := HB1.out.size
          omega
        clear hw HW HO
        go_wp2_with fail
        go_ret
        exact ⟨_, rfl, HF.out⟩
end Go.Proofs.YtfglopkglnpokaaGreat
namespace Go.Proofs.YtfglopkglnpokaaGreat
open Go.RowKit
def rsc (st : ST) (X : Nat) (a : Option Addr) (c j : Nat) : Value := if j = 0 then fptr X else if j = 1 then .slice a st.V.length c else if j = 2 then .int .i64 st.blk else if j = 3 then .int .u64 st.gen else if j = 4 then .int .i64 st.nxt else .bool st.clo
/-- The reference's store lies at S, its flash at X. -/
structure RS (w : World) (D : Nat → Prop) (S X : Nat) (st : ST) : Prop where
  ex : ∃ a c, Rg w S 107 6 (rsc st X a c) ∧ VS w a c st.V ∧ ∀ g, a = some ⟨g, 0, none⟩ → D g ∧ g ≠ S
  dS : D S
  fin : ∀ k, D k → k < w.heap.size
  srt : Srt st.V
  hv : ∀ p ∈ st.V, p.1.length ≤ 24 ∧ p.2.length ≤ 128
  hg : st.gen ≤ 18446744073709551615
  hn : st.nxt ≤ 900
  hb : st.blk ≤ 1000
  vl : st.V.length ≤ st.nxt + 1
section
variable {w w' : World} {D DS : Nat → Prop} {S X : Nat} {st : ST} {y : RLay} {fl : FL}
theorem RS.ch {C : Nat → Prop} (h : RS w D S X st) (c : Ch C w w') (hC : ∀ k, D k → ¬ C k) : RS w' D S X st := by
  obtain ⟨a, c1, h1, h2, h3⟩ := h.ex
  exact { h with ex := ⟨a, c1, h1.ch c (hC _ h.dS), h2.ch c (fun g e => hC g (h3 g e).1), h3⟩, fin := fun k hk => Nat.lt_of_lt_of_le (h.fin k hk) c.size }
theorem RS.below (h : RS w D S X st) (c : Below w.heap.size w w') : RS w' D S X st := h.ch (Ch.of_below c (fun _ => False)) (fun _ _ h => h)
theorem RS.c0 (h : RS w D S X st) : w.cell? ⟨S, 0, none⟩ = some (fptr X) := by obtain ⟨a, c, h1, _⟩ := h.ex; exact h1.cell (i := 0) (by omega)
theorem RS.c1 (h : RS w D S X st) : ∃ a c, w.cell? ⟨S, 1, none⟩ = some (.slice a st.V.length c) ∧ VS w a c st.V := by obtain ⟨a, c, h1, h2, _⟩ := h.ex; exact ⟨a, c, h1.cell (i := 1) (by omega), h2⟩
theorem RS.c2 (h : RS w D S X st) : w.cell? ⟨S, 2, none⟩ = some (.int .i64 st.blk) := by obtain ⟨a, c, h1, _⟩ := h.ex; exact h1.cell (i := 2) (by omega)
theorem RS.c3 (h : RS w D S X st) : w.cell? ⟨S, 3, none⟩ = some (.int .u64 st.gen) := by obtain ⟨a, c, h1, _⟩ := h.ex; exact h1.cell (i := 3) (by omega)
theorem RS.c4 (h : RS w D S X st) : w.cell? ⟨S, 4, none⟩ = some (.int .i64 st.nxt) := by obtain ⟨a, c, h1, _⟩ := h.ex; exact h1.cell (i := 4) (by omega)
theorem RS.c5 (h : RS w D S X st) : w.cell? ⟨S, 5, none⟩ = some (.bool st.clo) := by obtain ⟨a, c, h1, _⟩ := h.ex; exact h1.cell (i := 5) (by omega)
theorem RS.fr (h : RS w D S X st) (i : Nat) : w.frozen? ⟨S, i, none⟩ = false := by obtain ⟨a, c, h1, _⟩ := h.ex; exact h1.frozen i
theorem rgen_any (h : RS w D S X st) : Calls Tryz.prog 21 #[fptr S] w fun e w' => e = .returned (.int .u64 st.gen) ∧ w = w' := by
  have c3 := h.c3
  clear h
  go_enter Tryz.func21, Tryz.ntmps21
  go_wp2_with fail
  go_ret
  exact ⟨rfl, rfl⟩
set_option maxHeartbeats 1000000 in
theorem rget_any (h : RS w D S X st) (k : ByteArray) : Calls Tryz.prog 31 #[fptr S, .string k] w fun e w' => e = .returned (.tuple #[str (getS st.V k.data.toList).1, .int .i64 (getS st.V k.data.toList).2]) ∧ w = w' := by
  obtain ⟨a, c, c1, hvs⟩ := h.c1
  have hvl : st.V.length ≤ 1000 := by have := h.vl; have := h.hn; omega
  obtain ⟨L, hL⟩ : ∃ L, st.V.length = L := ⟨_, rfl⟩
  rw [hL] at c1 hvl
  have HL := Lib.hid hL
  have H := Lib.hid hvs
  have hcap : L ≤ c ∧ c ≤ maxLen := by have := hvs.1; have := hvs.2.1; omega
  generalize st.V = V at *
  clear h hvs hL
  go_enter Tryz.func31, Tryz.ntmps31
  go_wp2_with fail
  go_loop [6] (fun z => ∃ i : Nat, i ≤ L ∧ z = .int .i64 (i : Int) ∧ Hid (∀ j, j < i → (V.getD j ([], [])).1 ≠ k.data.toList)) (fun z => L - (intOf z).toNat)
  case atStart => exact ⟨0, by omega, rfl, fun j hj => by omega⟩
  case round =>
    obtain ⟨i, hi, rfl, HJ⟩ := hrel
    by_cases hlt : i < L
    · have y0 : (i : Int) < L := by omega
      obtain ⟨gw, hgw, hgl, hcell⟩ := H.out.2.2 (by intro e; have := HL.out; rw [e] at this; simp at this; omega)
      obtain ⟨d0, d1⟩ := hcell i (by rw [HL.out]; exact hlt)
      obtain ⟨pk, hpk⟩ : ∃ p, V.getD i ([], []) = p := ⟨_, rfl⟩
      rw [hpk] at d0 d1
      obtain ⟨ke, hke⟩ : ∃ s : ByteArray, str pk.1 = .string s := ⟨_, rfl⟩
      obtain ⟨kv, hkv⟩ : ∃ s : ByteArray, str pk.2 = .string s := ⟨_, rfl⟩
      have hkel : ke.data.toList = pk.1 := by injection hke with hke; rw [← hke]
      rw [hke] at d0
      rw [hkv] at d1
      subst hgw
      by_cases heq : pk.1 = k.data.toList
      · have hd : (ke.toList == k.toList) = true := by rw [ByteArray.toList_eq, ByteArray.toList_eq, hkel, heq]; simp
        have hf := getV_first (V := V) (i := i) (by rw [HL.out]; exact hlt) HJ.out (by rw [hpk]; exact heq)
        rw [hpk] at hf
        have HF : Hid (getS V k.data.toList = (pk.2, 0)) := by show _ = _; unfold getS; rw [hf]
        have HKV : Hid (str pk.2 = .string kv) := hkv
        clear hf hpk heq hke hkv hkel hcell
        go_wp2_with fail
        go_ret2
        rw [HF.out]
        exact ⟨by rw [← HKV.out]; rfl, rfl⟩
      · have hd : (ke.toList == k.toList) = false := by rw [ByteArray.toList_eq, ByteArray.toList_eq, hkel]; simpa using heq
        have HJ2 : Hid (∀ j, j < i + 1 → (V.getD j ([], [])).1 ≠ k.data.toList) := fun j hj => by
          rcases (by omega : j < i ∨ j = i) with h1 | h1
          · exact HJ.out j h1
          · rw [h1, hpk]; exact heq
        clear hpk heq hke hkv hkel hcell
        go_wp2_with fail
        go_round
        case rel => exact ⟨i + 1, by omega, by go_num, HJ2⟩
        case measure => simp [intOf]; omega
    · have y0 : ¬ (i : Int) < L := by omega
      have hn := getV_no (V := V) (k := k.data.toList) (fun j hj => HJ.out j (by rw [HL.out] at hj; omega))
      have HF : Hid (getS V k.data.toList = ([], 6)) := by show _ = _; unfold getS; rw [hn]
      clear hn
      go_wp2_with fail
      go_ret2
      rw [HF.out]
      exact ⟨rfl, rfl⟩
set_option maxRecDepth 100000 in
set_option maxHeartbeats 4000000 in
theorem rwrite_any (h : RW w D X y fl) {b p g cap n : Nat} {cs : List Str} (hb : b < fl.B) (hS : w.cell? ⟨S, 0, none⟩ = some (fptr X)) (hSl : S < w.heap.size) (hSD : ¬ D S) (hps : PS w g 0 cap cs) (hgD : ¬ D g) (hl : P64 cs) (hn : cs.length = n) (hp : p + n ≤ fl.P) :
    Calls Tryz.prog 96 #[fptr S, .int .i64 b, .int .i64 p, .slice (some ⟨g, 0, none⟩) n cap] w fun e w' => e = .returned (.int .i64 (wrL fl b p cs).1) ∧ RW w' D X y (wrL fl b p cs).2 ∧ Ch D w w' := by
  have hP := h.hP
  have HB := Lib.hid hb
  have HP := Lib.hid hp
  have H := Lib.hid h
  have HPS := Lib.hid hps
  have HSC := Lib.hid hS
  have HN := Lib.hid hn
  have HL := Lib.hid hl
  have HX : Hid (¬ D S ∧ ¬ D g ∧ S < w.heap.size) := ⟨hSD, hgD, hSl⟩
  have hcap : n ≤ cap ∧ cap ≤ maxLen := by have := hps.2.1; have := hps.2.2.1; omega
  have hpn : p + n ≤ 32 := by omega
  have HC : Hid (Ch D w w) := Ch.refl _ _
  have HW0 : Hid (∃ f', RW w D X y f' ∧ f'.B = fl.B ∧ f'.P = fl.P ∧ wrL fl b p cs = wrL f' b (p + 0) (cs.drop 0)) := ⟨fl, h, rfl, rfl, rfl⟩
  clear h hS hSl hSD hps hgD hl hn hp hb
  go_enter Tryz.func96, Tryz.ntmps96
  go_wp2_with fail
  go_loopw [9] (fun z wr => ∃ i : Nat, i ≤ n ∧ z = .int .i64 (i : Int) ∧ Hid (∃ f', RW wr D X y f' ∧ f'.B = fl.B ∧ f'.P = fl.P ∧ wrL fl b p cs = wrL f' b (p + i) (cs.drop i)) ∧ Hid (Ch D w wr)) (fun z _ => n - (intOf z).toNat)
  case atStart => exact ⟨0, by omega, rfl, HW0, HC⟩
  case round =>
    clear HW0 HC
    obtain ⟨i, hi, rfl, HW, HC⟩ := hrel
    by_cases hlt : i < n
    · have y0 : (i : Int) < n := by omega
      obtain ⟨f', hrw, eB, eP, hw⟩ := HW.out
      obtain ⟨pe, hpe⟩ : ∃ pe : ByteArray, str (cs.getD i []) = .string pe := ⟨_, rfl⟩
      have hpel : pe.data.toList = cs.getD i [] := by injection hpe with hpe; rw [← hpe]
      have hps : pe.size = 64 := by
        have h9 : pe.data.toList.length = pe.size := Array.length_toList
        rw [← h9, hpel, List.getD_eq_getElem?_getD, List.getElem?_eq_getElem (by rw [HN.out]; exact hlt)]
        exact HL.out _ (List.getElem_mem _)
      have hdr : cs.drop i = cs.getD i [] :: cs.drop (i + 1) := by
        rw [List.drop_eq_getElem_cons (by rw [HN.out]; exact hlt), List.getD_eq_getElem?_getD, List.getElem?_eq_getElem (by rw [HN.out]; exact hlt)]
        rfl
      rw [hdr, ← hpel] at hw
      have S0 : Hid (wr.drew.cell? ⟨S, 0, none⟩ = some (fptr X) ∧ wr.drew.cell? ⟨g, i, none⟩ = some (.string pe)) := by
        refine ⟨(HC.out.cell (p := ⟨S, 0, none⟩) HX.out.2.2 HX.out.1).trans HSC.out, ?_⟩
        have := HPS.out.2.2.2 i (by rw [HN.out]; exact hlt)
        rw [Nat.zero_add, hpe] at this
        exact (HC.out.cell (p := ⟨g, i, none⟩) HPS.out.1 HX.out.2.1).trans this
      have HPR := Lib.hid (rprogram_any (hrw.drew) (b := b) (p := p + i) (by rw [eB]; exact HB.out) (by rw [eP]; have := HP.out; omega) hps)
      obtain ⟨e2, f2, hr⟩ : ∃ e f, progF f' b (p + i) pe.data.toList = (e, f) := ⟨_, _, rfl⟩
      have hsm := progF_same f' b (p + i) pe.data.toList
      rw [hr] at HPR hsm
      have hPR : Hid (Calls Tryz.prog 17 #[fptr X, .int .i64 b, .int .i64 ((p : Int) + (i : Int)), .string pe] wr.drew fun e w' => e = .returned (.int .i64 e2) ∧ RW w' D X y f2 ∧ Ch D wr.drew w') := HPR
      have HC2 : Hid (Ch D w wr.drew) := HC.out.drew
      by_cases he : e2 = 0
      · have hw2 : wrL fl b p cs = wrL f2 b (p + (i + 1)) (cs.drop (i + 1)) := by
          rw [hw]
          show (if (progF f' b (p + i) pe.data.toList).1 = 0 then _ else _) = _
          rw [hr, if_pos he]
          rfl
        have HW2 := Lib.hid hw2
        have HE : Hid (f2.B = fl.B ∧ f2.P = fl.P) := ⟨hsm.1.trans eB, hsm.2.trans eP⟩
        clear hrw eB eP hw hpe hpel hps hdr HPR hr hsm hw2 HW HC
        subst he
        go_wp2_with fail
        have hwp : IntKind.i64.wrap ((p : Int) + (i : Int)) = (p : Int) + (i : Int) := IntWalk.i64_in _ ⟨by omega, by omega⟩
        refine wp_region_pl (fun Y => Y.cell? ⟨S, 0, none⟩ = some (fptr X) ∧ Y.cell? ⟨g, i, none⟩ = some (.string pe)) ((0, 0) :: (1, 0) :: (2, 0) :: (3, 0) :: (4, 0) :: (5, 0) :: (6, 0) :: (7, 0) :: (8, 0) :: (9, 0) :: (10, 0) :: (11, 0) :: (12, 1) :: (13, 2) :: []) (by kernel_rfl) (by kernel_rfl) ?_
        iterate 12 (apply wpP_go; (focus rfl); (focus rfl); (focus exact S0.out); (focus (rintro Z ⟨s0, s1⟩; go_simp; exact rfl)); intro K hK; go_simp; refine hK _ ?_; clear hK K)
        apply wpP_one
        focus rfl
        intro K hK
        go_simp
        refine hPR.out.mono ?_
        rintro e V1 ⟨rfl, h1, c1⟩
        have HW3 : Hid (∃ f', RW V1 D X y f' ∧ f'.B = fl.B ∧ f'.P = fl.P ∧ wrL fl b p cs = wrL f' b (p + (i + 1)) (cs.drop (i + 1))) := ⟨f2, h1, HE.out.1, HE.out.2, HW2.out⟩
        have HC3 : Hid (Ch D w V1) := HC2.out.trans c1
        have hs1 := HC2.out.size
        refine hK _ _ ⟨(c1.cell (p := ⟨S, 0, none⟩) (Nat.lt_of_lt_of_le HX.out.2.2 hs1) HX.out.1).trans S0.out.1, (c1.cell (p := ⟨g, i, none⟩) (Nat.lt_of_lt_of_le HPS.out.1 hs1) HX.out.2.1).trans S0.out.2⟩ ?_
        clear hK K h1 c1 S0 hs1
        apply wpP_two
        focus rfl
        intro K hK
        go_simp
        refine hK _ _ ?_
        clear hK K
        refine wpP_done ?_
        go_wp2_with fail
        go_roundw
        case rel => exact ⟨i + 1, by omega, by go_num, HW3, HC3⟩
        case measure => simp [intOf]; omega
      · have hw2 : wrL fl b p cs = (e2, f2) := by
          rw [hw]
          show (if (progF f' b (p + i) pe.data.toList).1 = 0 then _ else _) = _
          rw [hr, if_neg he]
        have HW2 := Lib.hid hw2
        have hb0 : (e2 == 0) = false := by rw [beq_eq_false_iff_ne]; exact he
        clear hrw eB eP hw hpe hpel hps hdr HPR hr hsm hw2 HW HC
        go_wp2_with fail
        have hwp : IntKind.i64.wrap ((p : Int) + (i : Int)) = (p : Int) + (i : Int) := IntWalk.i64_in _ ⟨by omega, by omega⟩
        refine wp_region_pl (fun Y => Y.cell? ⟨S, 0, none⟩ = some (fptr X) ∧ Y.cell? ⟨g, i, none⟩ = some (.string pe)) ((0, 0) :: (1, 0) :: (2, 0) :: (3, 0) :: (4, 0) :: (5, 0) :: (6, 0) :: (7, 0) :: (8, 0) :: (9, 0) :: (10, 0) :: (11, 0) :: (12, 1) :: (13, 2) :: []) (by kernel_rfl) (by kernel_rfl) ?_
        iterate 12 (apply wpP_go; (focus rfl); (focus rfl); (focus exact S0.out); (focus (rintro Z ⟨s0, s1⟩; go_simp; exact rfl)); intro K hK; go_simp; refine hK _ ?_; clear hK K)
        apply wpP_one
        focus rfl
        intro K hK
        go_simp
        refine hPR.out.mono ?_
        rintro e V1 ⟨rfl, h1, c1⟩
        have H1 := Lib.hid h1
        have HC3 : Hid (Ch D w V1) := HC2.out.trans c1
        have hs1 := HC2.out.size
        refine hK _ _ ⟨(c1.cell (p := ⟨S, 0, none⟩) (Nat.lt_of_lt_of_le HX.out.2.2 hs1) HX.out.1).trans S0.out.1, (c1.cell (p := ⟨g, i, none⟩) (Nat.lt_of_lt_of_le HPS.out.1 hs1) HX.out.2.1).trans S0.out.2⟩ ?_
        clear hK K h1 c1 S0 hs1
        apply wpP_two
        focus rfl
        intro K hK
        go_simp
        refine hK _ _ ?_
        clear hK K
        refine wpP_done ?_
        go_wp2_with fail
        go_ret
        rw [HW2.out]
        exact ⟨rfl, H1.out, HC3.out⟩
    · have y0 : ¬ (i : Int) < n := by omega
      obtain ⟨f', hrw, eB, eP, hw⟩ := HW.out
      have hd : cs.drop i = [] := List.drop_of_length_le (by rw [HN.out]; omega)
      rw [hd] at hw
      have HF : Hid (wrL fl b p cs = (0, f')) := hw
      have H1 := Lib.hid hrw
      clear hrw eB eP hw hd HW
      go_wp2_with fail
      go_ret
      rw [HF.out]
      exact ⟨rfl, H1.out, HC.out⟩
end
end Go.Proofs.YtfglopkglnpokaaGreat
