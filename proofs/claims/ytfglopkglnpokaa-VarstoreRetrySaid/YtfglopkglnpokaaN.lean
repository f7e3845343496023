/- decode. No condition but sizes. -/
import Derived.Test.YtfglopkglnpokaaM
namespace Go.Proofs.Ytfglopkglnpokaa
open Go.RowKit
/-- The record that is valid at the first of these pages. -/
def dec (ps : List Str) : Option (Nat × Str × Str × Nat) :=
  let f := ps.getD 0 []
  let k := (f.getD 0 0).toNat
  let n := (f.getD 1 0).toNat
  let v := (f.getD 2 0).toNat
  if okLens k n v = false then none else
  if ps.length < pgs (5 + n + v) then none else
  let all := (ps.take (pgs (5 + n + v))).flatten
  let name := (all.drop 5).take n
  let value := (all.drop (5 + n)).take v
  if all.take (5 + n + v) = recd k name value ∧ zeros (all.drop (5 + n + v)) = 0 then some (k, name, value, pgs (5 + n + v)) else none
def decV : Option (Nat × Str × Str × Nat) → Value
  | none => .tuple #[.agg #[.int .i64 0, str [], str [], .int .i64 0], .bool false]
  | some (k, n, v, c) => .tuple #[.agg #[.int .i64 k, str n, str v, .int .i64 c], .bool true]
theorem inter_nil : ∀ xs : List Str, List.intercalate [] xs = xs.flatten
  | [] => rfl
  | [a] => by simp [List.intercalate, List.intersperse]
  | a :: b :: r => by
    have := inter_nil (b :: r)
    simp [List.intercalate, List.intersperse] at *
    exact this
theorem flat_len : ∀ (xs : List Str), (∀ p ∈ xs, p.length = 64) → xs.flatten.length = xs.length * 64
  | [], _ => rfl
  | a :: r, h => by
    rw [List.flatten_cons, List.length_append, flat_len r (fun p hp => h p (List.mem_cons_of_mem _ hp)), h a (by simp), List.length_cons]
    omega
theorem res2 {fn : Func} {p u : Tmp} {ty : TypeId} (h : fn.results = #[.cell p ty, .tmp u]) (tmps : Array Value) (w : World) (g : Nat) (cs : Array Value) (y : Value)
    (hp : tmps.getD p undef = .pointer (some ⟨g, 0, none⟩)) (hy : tmps.getD u undef = y) (hl : (loadVar ty ⟨g, 0, none⟩).run Try.prog w = .ok (.agg cs) w) :
    (results fn tmps).run Try.prog w = .ok (.tuple #[.agg cs, y]) w := by
  rw [results_cell_tmp h, hp, hy]
  simp [asAddr, hl, Result.andThen]
theorem Row.arr4 {w : World} {B t : Nat} {v : Nat → Value} (h : Row w B t 4 v) : w.heap[B]? = some (.cells #[v 0, v 1, v 2, v 3] t (0, 0)) := by
  obtain ⟨cs, hh, h1, h2⟩ := h
  rw [hh]
  have : cs = #[v 0, v 1, v 2, v 3] := by
    apply Array.ext
    · rw [h1]; rfl
    · intro i hi hj
      have h3 := h2 i (by omega)
      rw [Array.getElem?_eq_getElem hi] at h3
      injection h3 with h3
      rw [h3]
      rcases (by omega : i = 0 ∨ i = 1 ∨ i = 2 ∨ i = 3) with rfl | rfl | rfl | rfl <;> rfl
  rw [this]
theorem Row.load4 {w : World} {B : Nat} {v : Nat → Value} (h : Row w B 88 4 v) : (loadVar 88 ⟨B, 0, none⟩).run Try.prog w = .ok (.agg #[v 0, v 1, v 2, v 3]) w :=
  run_loadVar_row w B 88 _ _ (0, 0) _ h.arr4 Try.underlying88 rfl (by kernel_rfl)
theorem Row.set4 {w : World} {B t : Nat} {v : Nat → Value} (h : Row w B t 4 v) (a b c d : Value) : Row ((((w.setCell ⟨B, 0, none⟩ a).setCell ⟨B, 1, none⟩ b).setCell ⟨B, 2, none⟩ c).setCell ⟨B, 3, none⟩ d) B t 4 (fun j => if j = 0 then a else if j = 1 then b else if j = 2 then c else d) :=
  ((((h.set (i := 0) (by omega) a).set (i := 1) (by omega) b).set (i := 2) (by omega) c).set (i := 3) (by omega) d).congr fun j hj => by
    rcases (by omega : j = 0 ∨ j = 1 ∨ j = 2 ∨ j = 3) with rfl | rfl | rfl | rfl <;> rfl
theorem dec_end {w W : World} {R : Nat} {vv : Nat → Value} (hb : Below w.heap.size w W) (hR : w.heap.size = R) (hr : Row W R 88 4 vv) (a b c d : Value) (ok : Bool) {tmps : Array Value} {r : Value}
    (hp : tmps.getD 2 undef = .pointer (some ⟨R, 0, none⟩)) (hy : tmps.getD 3 undef = .bool ok) (hQ : r = .tuple #[.agg #[a, b, c, d], .bool ok]) :
    bodyPost Try.prog Try.f38 (fun e w' => e = .returned r ∧ Below w.heap.size w w') Exit.ret { tmps := tmps, defers := [] } ((((W.setCell ⟨R, 0, none⟩ a).setCell ⟨R, 1, none⟩ b).setCell ⟨R, 2, none⟩ c).setCell ⟨R, 3, none⟩ d) :=
  bodyPost_ret (v := .tuple #[.agg #[a, b, c, d], .bool ok]) (res2 rfl _ _ R #[a, b, c, d] (.bool ok) hp hy ((hr.set4 a b c d).load4)) rfl
    ⟨by rw [hQ], (((hb.setCell (p := ⟨R, 0, none⟩) (by show w.heap.size ≤ R; omega) _).setCell (p := ⟨R, 1, none⟩) (by show w.heap.size ≤ R; omega) _).setCell (p := ⟨R, 2, none⟩) (by show w.heap.size ≤ R; omega) _).setCell (p := ⟨R, 3, none⟩) (by show w.heap.size ≤ R; omega) _⟩
theorem dec_end2 {w W : World} {R : Nat} {vv : Nat → Value} (hb : Below R w W) (hr : Row W R 88 4 vv) (a b c d : Value) (ok : Bool) {tmps : Array Value} {r : Value}
    (hp : tmps.getD 2 undef = .pointer (some ⟨R, 0, none⟩)) (hy : tmps.getD 3 undef = .bool ok) (hQ : r = .tuple #[.agg #[a, b, c, d], .bool ok]) :
    bodyPost Try.prog Try.f38 (fun e w' => e = .returned r ∧ Below R w w') Exit.ret { tmps := tmps, defers := [] } ((((W.setCell ⟨R, 0, none⟩ a).setCell ⟨R, 1, none⟩ b).setCell ⟨R, 2, none⟩ c).setCell ⟨R, 3, none⟩ d) :=
  bodyPost_ret (v := .tuple #[.agg #[a, b, c, d], .bool ok]) (res2 rfl _ _ R #[a, b, c, d] (.bool ok) hp hy ((hr.set4 a b c d).load4)) rfl
    ⟨by rw [hQ], (((hb.setCell (p := ⟨R, 0, none⟩) (Nat.le_refl _) _).setCell (p := ⟨R, 1, none⟩) (Nat.le_refl _) _).setCell (p := ⟨R, 2, none⟩) (Nat.le_refl _) _).setCell (p := ⟨R, 3, none⟩) (Nat.le_refl _) _⟩
set_option maxRecDepth 100000 in
set_option maxHeartbeats 4000000 in
theorem decode_any {w : World} {g o cap m : Nat} {ps : List Str} (h : PS w g o cap ps) (hm : ps.length = m) (h1 : 1 ≤ m) (h2 : m ≤ 32) (hl : ∀ p ∈ ps, p.length = 64) :
    Calls Try.prog 38 #[.slice (some ⟨g, o, none⟩) m cap] w fun e w' => e = .returned (decV (dec ps)) ∧ Below w.heap.size w w' := by
  obtain ⟨f, hf⟩ : ∃ f : ByteArray, f = ⟨(ps.getD 0 []).toArray⟩ := ⟨_, rfl⟩
  have hfl : f.data.toList = ps.getD 0 [] := by rw [hf]
  have hfs : f.size = 64 := by
    have h0 : 0 < ps.length := by omega
    have : ps.getD 0 [] = ps[0] := by rw [List.getD_eq_getElem?_getD, List.getElem?_eq_getElem h0]; rfl
    have h3 := hl _ (List.getElem_mem h0)
    rw [hf, this]
    show (ps[0].toArray).size = 64
    simpa using h3
  have B0 : Below w.heap.size w (w.alloc (.cells #[.int .i64 0, .string ⟨#[]⟩, .string ⟨#[]⟩, .int .i64 0] 88)) := (Below.refl _ _).alloc (Nat.le_refl _) _
  have hc0 : (w.alloc (.cells #[.int .i64 0, .string ⟨#[]⟩, .string ⟨#[]⟩, .int .i64 0] 88)).cell? ⟨g, o, none⟩ = some (.string f) := by
    rw [(B0.cell (p := ⟨g, o, none⟩) h.1)]
    have := h.2.2.2 0 (by omega)
    rw [Nat.add_zero] at this
    rw [this, hf]
  have hcapI : m ≤ cap := by have := h.2.1; omega
  have hcapM := h.2.2.1
  have H := Lib.hid h
  have HFL := Lib.hid hfl
  clear h hf hfl
  go_enter Try.func38, Try.ntmps38
  go_wp2_with fail
  refine wp_region_pl (fun _ => True) ((0, 0) :: (1, 0) :: (2, 0) :: (3, 0) :: (4, 0) :: (5, 0) :: (6, 0) :: (7, 0) :: (8, 0) :: (9, 0) :: (10, 0) :: (11, 0) :: []) (by kernel_rfl) (by kernel_rfl) ?_
  iterate 12 (apply wpP_go; (focus rfl); (focus rfl); (focus exact trivial); (focus (rintro Z _; go_simp; exact rfl)); intro K hK; go_simp; refine hK _ ?_; clear hK K)
  refine wpP_done ?_
  have hk0 : (f[0]'(by omega)).toNat = (f.data.toList.getD 0 0).toNat := by
    rw [List.getD_eq_getElem?_getD, List.getElem?_eq_getElem (by rw [Array.length_toList]; exact (by omega : 0 < f.size))]; rfl
  have hk1 : (f[1]'(by omega)).toNat = (f.data.toList.getD 1 0).toNat := by
    rw [List.getD_eq_getElem?_getD, List.getElem?_eq_getElem (by rw [Array.length_toList]; exact (by omega : 1 < f.size))]; rfl
  have hk2 : (f[2]'(by omega)).toNat = (f.data.toList.getD 2 0).toNat := by
    rw [List.getD_eq_getElem?_getD, List.getElem?_eq_getElem (by rw [Array.length_toList]; exact (by omega : 2 < f.size))]; rfl
  rw [HFL.out] at hk0 hk1 hk2
  have hl0 : (f[0]'(by omega)).toNat < 256 := (f[0]'(by omega)).toNat_lt
  have hl1 : (f[1]'(by omega)).toNat < 256 := (f[1]'(by omega)).toNat_lt
  have hl2 : (f[2]'(by omega)).toNat < 256 := (f[2]'(by omega)).toNat_lt
  generalize (f[0]'(by omega)).toNat = k at *
  generalize (f[1]'(by omega)).toNat = n at *
  generalize (f[2]'(by omega)).toNat = v at *
  have HDC : Hid (dec ps = if okLens k n v = false then none else if ps.length < pgs (5 + n + v) then none else if (ps.take (pgs (5 + n + v))).flatten.take (5 + n + v) = recd k ((((ps.take (pgs (5 + n + v))).flatten).drop 5).take n) ((((ps.take (pgs (5 + n + v))).flatten).drop (5 + n)).take v) ∧ zeros ((ps.take (pgs (5 + n + v))).flatten.drop (5 + n + v)) = 0 then some (k, (((ps.take (pgs (5 + n + v))).flatten).drop 5).take n, (((ps.take (pgs (5 + n + v))).flatten).drop (5 + n)).take v, pgs (5 + n + v)) else none) := by
    show _ = _
    unfold dec
    dsimp only
    rw [← hk0, ← hk1, ← hk2]
  have wk : IntKind.i64.wrap (k : Int) = (k : Int) := IntWalk.i64_in _ ⟨by omega, by omega⟩
  have wn : IntKind.i64.wrap (n : Int) = (n : Int) := IntWalk.i64_in _ ⟨by omega, by omega⟩
  have wv : IntKind.i64.wrap (v : Int) = (v : Int) := IntWalk.i64_in _ ⟨by omega, by omega⟩
  rw [wk, wn, wv]
  obtain ⟨w1, hw1⟩ : ∃ w1, (w.alloc (.cells #[.int .i64 0, .string ⟨#[]⟩, .string ⟨#[]⟩, .int .i64 0] 88)).drew = w1 := ⟨_, rfl⟩
  have HB1 : Hid (Below w.heap.size w w1) := by rw [← hw1]; exact B0.drew
  have HR1 : Hid (Row w1 w.heap.size 88 4 (fun j => if j = 0 then .int .i64 0 else if j = 1 then str [] else if j = 2 then str [] else .int .i64 0)) := by
    rw [← hw1]
    have := Row.ofList w 88 #[.int .i64 0, .string ⟨#[]⟩, .string ⟨#[]⟩, .int .i64 0] (fun j => if j = 0 then .int .i64 0 else if j = 1 then str [] else if j = 2 then str [] else .int .i64 0) 4 rfl
    exact this.drew
  clear hk0 hk1 hk2 hc0 B0
  rw [hw1]
  clear wk wn wv hw1
  have HPM := Lib.hid (permitted_any k n v w1 (by omega) (by omega))
  obtain ⟨R, hR⟩ : ∃ R, w.heap.size = R := ⟨_, rfl⟩
  have HRS := Lib.hid hR
  rw [hR] at HR1 ⊢
  have r0 := HR1.out.cell (i := 0) (by omega)
  have r1 := HR1.out.cell (i := 1) (by omega)
  have r2 := HR1.out.cell (i := 2) (by omega)
  have r3 := HR1.out.cell (i := 3) (by omega)
  have f0 := HR1.out.frozen 0
  have f1 := HR1.out.frozen 1
  have f2 := HR1.out.frozen 2
  have f3 := HR1.out.frozen 3
  rcases hok : okLens k n v with _ | _
  · rw [hok] at HPM
    have HDN : Hid (dec ps = none) := by
      show _ = _
      rw [HDC.out, if_pos hok]
    go_wp2_with fail
    refine HPM.out.mono ?_
    rintro e w' ⟨rfl, rfl⟩
    go_wp2_with fail
    exact dec_end HB1.out HRS.out HR1.out _ _ _ _ _ rfl rfl (by rw [HDN.out]; rfl)
  · rw [hok] at HPM
    have hns : ¬ (okLens k n v = false) := by rw [hok]; simp
    have HPG := Lib.hid (pagesOf_any (5 + n + v) w1 (by omega))
    obtain ⟨len, hlen⟩ : ∃ len, 5 + n + v = len := ⟨_, rfl⟩
    obtain ⟨cnt, hcnt⟩ : ∃ cnt, pgs len = cnt := ⟨_, rfl⟩
    have hlenI : (5 : Int) + n + v = len := by omega
    rw [hlen, hcnt] at HPG HDC
    rw [if_neg hns] at HDC
    clear hok hns
    by_cases hgt : m < cnt
    · have hgI : (m : Int) < cnt := by omega
      have hgd : decide ((cnt : Int) > m) = true := by simpa using hgt
      have HDN : Hid (dec ps = none) := by
        show _ = _
        rw [HDC.out, if_pos (by omega)]
      go_wp2_with fail
      refine HPM.out.mono ?_
      rintro e w' ⟨rfl, rfl⟩
      go_wp2_with fail
      refine HPG.out.mono ?_
      rintro e w' ⟨rfl, rfl⟩
      go_wp2_with fail
      exact dec_end HB1.out HRS.out HR1.out _ _ _ _ _ rfl rfl (by rw [HDN.out]; rfl)
    · have hgI : ¬ (m : Int) < cnt := by omega
      have hcm : cnt ≤ m := by omega
      rw [if_neg (by omega)] at HDC
      have hc1 : 1 ≤ cnt := by rw [← hcnt, ← hlen]; unfold pgs; omega
      have hPS : PS w1 g o cap (ps.take cnt) := (H.out.below HB1.out).take (by omega)
      obtain ⟨xs, hxs⟩ : ∃ xs : List ByteArray, xs = (ps.take cnt).map fun p => ⟨p.toArray⟩ := ⟨_, rfl⟩
      have hxl : xs.length = cnt := by rw [hxs, List.length_map, List.length_take]; omega
      have hxm : xs.map (·.data.toList) = ps.take cnt := by
        rw [hxs, List.map_map]
        conv => rhs; rw [← List.map_id (ps.take cnt)]
        apply List.map_congr_left
        intro p _
        rfl
      have hfl : (ps.take cnt).flatten.length = cnt * 64 := by
        rw [flat_len _ (fun p hp => hl p (List.mem_of_mem_take hp)), List.length_take]
        congr 1
        omega
      have hjn : Lib.join (xs.map (·.data.toList)) (⟨#[]⟩ : ByteArray).data.toList = (ps.take cnt).flatten := by
        rw [hxm]; exact inter_nil _
      have HJ := Lib.hid (Try.strings_Join g o cap xs ⟨#[]⟩ w1 (fun j x hx => by
        have hj : j < (ps.take cnt).length := by have := (List.getElem?_eq_some_iff.1 hx).1; rw [hxs, List.length_map] at this; exact this
        have := hPS.2.2.2 j hj
        rw [this]
        rw [hxs, List.getElem?_map, List.getElem?_eq_getElem hj] at hx
        injection hx with hx
        rw [← hx, List.getD_eq_getElem?_getD, List.getElem?_eq_getElem hj]
        rfl) hPS.1 (by omega) (by omega) (by rw [hjn, hfl]; omega))
      rw [hjn, hxl] at HJ
      obtain ⟨all, hall⟩ : ∃ all : ByteArray, all = ⟨(ps.take cnt).flatten.toArray⟩ := ⟨_, rfl⟩
      have hal : all.data.toList = (ps.take cnt).flatten := by rw [hall]
      have has : all.size = cnt * 64 := by rw [← hfl, ← hal, Array.length_toList]; rfl
      rw [← hall] at HJ
      rw [← hal] at HDC
      have hlc : len ≤ cnt * 64 := by rw [← hcnt]; exact pgs_le len
      have hcc : cnt ≤ cap := by omega
      have hnl1 : 5 + n ≤ len := by omega
      clear hxs hxm hxl hjn hall hfl hPS hal
      go_wp2_with fail
      refine HPM.out.mono ?_
      rintro e w' ⟨rfl, rfl⟩
      go_wp2_with fail
      refine HPG.out.mono ?_
      rintro e w' ⟨rfl, rfl⟩
      go_wp2_with fail
      refine HJ.out.mono ?_
      rintro e w2 ⟨rfl, b2⟩
      have HR2 : Hid (Row w2 R 88 4 (fun j => if j = 0 then .int .i64 0 else if j = 1 then str [] else if j = 2 then str [] else .int .i64 0)) := HR1.out.ch (Ch.of_below b2 (fun _ => False)) id
      have HB2 : Hid (Below w.heap.size w w2) := bthen HB1.out b2
      clear r0 r1 r2 r3 f0 f1 f2 f3 b2 HR1 HB1 HPM HPG HJ
      go_wp2_with fail
      have a1 : (0 : Int) ≤ 5 + (n : Int) := by omega
      have a2 : (5 : Int) + (n : Int) ≤ (cnt : Int) * 64 := by omega
      have a3 : (5 : Int) ≤ 5 + (n : Int) := by omega
      have a4 : (len : Int) ≤ (cnt : Int) * 64 := by omega
      have a5 : (5 : Int) + (n : Int) ≤ (len : Int) := by omega
      have hw5 : IntKind.i64.wrap (5 + (n : Int)) = 5 + (n : Int) := IntWalk.i64_in _ ⟨by omega, by omega⟩
      refine wp_region_pl (fun _ => True) ((0, 0) :: (1, 0) :: (2, 0) :: (3, 0) :: (4, 0) :: (5, 0) :: (6, 0) :: (7, 0) :: (8, 0) :: (9, 0) :: (10, 0) :: (11, 0) :: (12, 1) :: (13, 1) :: []) (by kernel_rfl) (by kernel_rfl) ?_
      iterate 12 (apply wpP_go; (focus rfl); (focus rfl); (focus exact trivial); (focus (rintro Z _; go_simp; exact rfl)); intro K hK; go_simp; refine hK _ ?_; clear hK K)
      apply wpP_one
      focus rfl
      intro K hK
      go_simp
      refine hK _ _ trivial ?_
      clear hK K
      apply wpP_one
      focus rfl
      intro K hK
      go_simp
      refine hK _ _ trivial ?_
      clear hK K
      refine wpP_done ?_
      obtain ⟨nm, hnm⟩ : ∃ nm : ByteArray, all.extract 5 (5 + (n : Int)).toNat = nm := ⟨_, rfl⟩
      obtain ⟨vl, hvl⟩ : ∃ vl : ByteArray, all.extract (5 + (n : Int)).toNat len = vl := ⟨_, rfl⟩
      have e5 : (5 + (n : Int)).toNat = 5 + n := by omega
      have hnml : nm.data.toList = (all.data.toList.drop 5).take n := by rw [← hnm, e5, ext_toList]; congr 1; omega
      have hvll : vl.data.toList = (all.data.toList.drop (5 + n)).take v := by rw [← hvl, e5, ext_toList]; congr 1; omega
      have hnms : nm.size = n := by rw [← hnm, e5, ext_size _ _ _ (by omega)]; omega
      have hvls : vl.size = v := by rw [← hvl, e5, ext_size _ _ _ (by omega)]; omega
      rw [hnm, hvl]
      rw [← hnml, ← hvll] at HDC
      clear hnm hvl hnml hvll a2 a3 a5 hw5
      obtain ⟨w3, hw3⟩ : ∃ w3, (w2.alloc (.cells #[.int .i64 k, .string nm, .string vl, .int .i64 cnt] 88)).drew = w3 := ⟨_, rfl⟩
      have B3 : Below w2.heap.size w2 w3 := by rw [← hw3]; exact ((Below.refl _ _).alloc (Nat.le_refl _) _).drew
      obtain ⟨T, hT⟩ : ∃ T, w2.heap.size = T := ⟨_, rfl⟩
      have HRT : Hid (Row w3 T 88 4 (fun j => if j = 0 then .int .i64 k else if j = 1 then .string nm else if j = 2 then .string vl else .int .i64 cnt)) := by
        rw [← hw3, ← hT]
        have := Row.ofList w2 88 #[.int .i64 k, .string nm, .string vl, .int .i64 cnt] (fun j => if j = 0 then .int .i64 k else if j = 1 then .string nm else if j = 2 then .string vl else .int .i64 cnt) 4 rfl
        exact this.drew
      have HR3 : Hid (Row w3 R 88 4 (fun j => if j = 0 then .int .i64 0 else if j = 1 then str [] else if j = 2 then str [] else .int .i64 0)) := HR2.out.ch (Ch.of_below B3 (fun _ => False)) id
      have HB3 : Hid (Below w.heap.size w w3) := bthen HB2.out B3
      rw [hw3, hT]
      clear HR2 HB2 B3 hT hw3
      have t0 : w3.cell? ⟨T, 0, none⟩ = some (.int .i64 k) := HRT.out.cell (i := 0) (by omega)
      have t1 : w3.cell? ⟨T, 1, none⟩ = some (.string nm) := HRT.out.cell (i := 1) (by omega)
      have t2 : w3.cell? ⟨T, 2, none⟩ = some (.string vl) := HRT.out.cell (i := 2) (by omega)
      have S0 : Hid (w3.drew.cell? ⟨T, 0, none⟩ = some (.int .i64 k) ∧ w3.drew.cell? ⟨T, 1, none⟩ = some (.string nm) ∧ w3.drew.cell? ⟨T, 2, none⟩ = some (.string vl)) := ⟨t0, t1, t2⟩
      have HEN := Lib.hid (encode_any k nm vl w3.drew (by omega) (by omega) (by omega))
      obtain ⟨er, her⟩ : ∃ er : ByteArray, er = ⟨(recd k nm.data.toList vl.data.toList).toArray⟩ := ⟨_, rfl⟩
      have herl : er.data.toList = recd k nm.data.toList vl.data.toList := by rw [her]
      rw [← her] at HEN
      rw [← herl] at HDC
      have hx1 : (all.extract 0 len).data.toList = all.data.toList.take len := by rw [ext_toList]; rfl
      have hx2 : (all.extract len (cnt * 64)).data.toList = all.data.toList.drop len := by rw [← has]; exact ext_end all len
      have hx2s : (all.extract len (cnt * 64)).size ≤ 1000000 := by rw [← has, ext_size _ _ _ (Nat.le_refl _)]; omega
      rw [← hx1, ← hx2] at HDC
      clear her herl
      have hTl := HRT.out.lt
      by_cases heq : all.extract 0 len = er
      · have hee : ((all.extract 0 len).toList == er.toList) = true := by rw [heq]; simp
        have HZ := Lib.hid (fun W => zeroBits_any (all.extract len (cnt * 64)) W hx2s)
        have heq2 : (all.extract 0 len).data.toList = er.data.toList := by rw [heq]
        have hzl := zeros_le (all.extract len (cnt * 64)).data.toList
        rw [Array.length_toList] at hzl
        have hzl2 : zeros (all.extract len (cnt * 64)).data.toList ≤ 8000000 := by
          have : (all.extract len (cnt * 64)).data.size ≤ 1000000 := hx2s
          omega
        obtain ⟨z, hz⟩ : ∃ z, zeros (all.extract len (cnt * 64)).data.toList = z := ⟨_, rfl⟩
        rw [hz] at HZ HDC hzl2
        have HE2 := Lib.hid heq2
        clear hz hzl heq heq2 hx1 hx2 hx2s
        have a6 : (len : Int) ≤ (cnt : Int) * 64 := a4
        by_cases hz0 : z = 0
        · subst hz0
          have HDN : Hid (dec ps = some (k, nm.data.toList, vl.data.toList, cnt)) := by
            show _ = _
            rw [HDC.out, if_pos ⟨HE2.out, rfl⟩]
          go_wp2_with fail
          refine wp_region_pl (fun Y => Y.cell? ⟨T, 0, none⟩ = some (.int .i64 k) ∧ Y.cell? ⟨T, 1, none⟩ = some (.string nm) ∧ Y.cell? ⟨T, 2, none⟩ = some (.string vl)) ((0, 0) :: (1, 0) :: (2, 0) :: (3, 0) :: (4, 0) :: (5, 0) :: (6, 0) :: (7, 0) :: (8, 0) :: (9, 1) :: (10, 0) :: (11, 0) :: (12, 0) :: (13, 0) :: (14, 0) :: (15, 0) :: (16, 0) :: (17, 0) :: []) (by kernel_rfl) (by kernel_rfl) ?_
          iterate 9 (apply wpP_go; (focus rfl); (focus rfl); (focus exact S0.out); (focus (rintro Z ⟨s0, s1, s2⟩; go_simp; exact rfl)); intro K hK; go_simp; refine hK _ ?_; clear hK K)
          apply wpP_one
          focus rfl
          intro K hK
          go_simp
          refine HEN.out.mono ?_
          rintro e w4 ⟨rfl, b4⟩
          have S4 : Hid (w4.cell? ⟨T, 0, none⟩ = some (.int .i64 k) ∧ w4.cell? ⟨T, 1, none⟩ = some (.string nm) ∧ w4.cell? ⟨T, 2, none⟩ = some (.string vl)) :=
            ⟨(b4.cell (p := ⟨T, 0, none⟩) hTl).trans S0.out.1, (b4.cell (p := ⟨T, 1, none⟩) hTl).trans S0.out.2.1, (b4.cell (p := ⟨T, 2, none⟩) hTl).trans S0.out.2.2⟩
          have HR4 : Hid (Row w4 R 88 4 (fun j => if j = 0 then .int .i64 0 else if j = 1 then str [] else if j = 2 then str [] else .int .i64 0)) := (Row.drew HR3.out).ch (Ch.of_below b4 (fun _ => False)) id
          have HT4 : Hid (Row w4 T 88 4 (fun j => if j = 0 then .int .i64 k else if j = 1 then .string nm else if j = 2 then .string vl else .int .i64 cnt)) := (Row.drew HRT.out).ch (Ch.of_below b4 (fun _ => False)) id
          have HB4 : Hid (Below w.heap.size w w4) := bthen HB3.out.drew b4
          refine hK _ _ S4.out ?_
          clear hK K
          clear S0 HR3 HRT HB3 b4 HEN t0 t1 t2
          iterate 2 (apply wpP_go; (focus rfl); (focus rfl); (focus exact S4.out); (focus (rintro Z ⟨s0, s1, s2⟩; go_simp; exact rfl)); intro K hK; go_simp; refine hK _ ?_; clear hK K)
          iterate 3 (apply wpP_go; (focus rfl); (focus rfl); (focus exact S4.out); (focus (rintro Z ⟨s0, s1, s2⟩; go_simp; exact rfl)); intro K hK; go_simp; refine hK _ ?_; clear hK K)
          apply wpP_call
          focus rfl
          focus rfl
          focus exact S4.out
          focus (rintro Z ⟨s0, s1, s2⟩; go_simp; exact ⟨rfl, rfl⟩)
          focus (intro Z _; exact HZ.out Z)
          intro K hK
          go_simp
          refine hK _ ?_
          clear hK K
          iterate 2 (apply wpP_go; (focus rfl); (focus rfl); (focus exact S4.out); (focus (rintro Z ⟨s0, s1, s2⟩; go_simp; exact rfl)); intro K hK; go_simp; refine hK _ ?_; clear hK K)
          refine wpP_done ?_
          have r0 := HR4.out.cell (i := 0) (by omega)
          have r1 := HR4.out.cell (i := 1) (by omega)
          have r2 := HR4.out.cell (i := 2) (by omega)
          have r3 := HR4.out.cell (i := 3) (by omega)
          have f0 := HR4.out.frozen 0
          have f1 := HR4.out.frozen 1
          have f2 := HR4.out.frozen 2
          have f3 := HR4.out.frozen 3
          have u0 : w4.cell? ⟨T, 0, none⟩ = some (.int .i64 k) := HT4.out.cell (i := 0) (by omega)
          have u1 : w4.cell? ⟨T, 1, none⟩ = some (.string nm) := HT4.out.cell (i := 1) (by omega)
          have u2 : w4.cell? ⟨T, 2, none⟩ = some (.string vl) := HT4.out.cell (i := 2) (by omega)
          have u3 : w4.cell? ⟨T, 3, none⟩ = some (.int .i64 cnt) := HT4.out.cell (i := 3) (by omega)
          clear S4 HT4
          go_wp2_with fail
          exact dec_end2 (by have := HB4.out; rw [HRS.out] at this; exact this) HR4.out _ _ _ _ _ rfl rfl (by rw [HDN.out]; rfl)
        · have HDN : Hid (dec ps = none) := by
            show _ = _
            rw [HDC.out, if_neg (fun h => hz0 h.2)]
          have hzI : ((z : Int) == 0) = false := by
            rw [beq_eq_false_iff_ne]; omega
          have hzN : ¬ (z : Int) = 0 := by omega
          go_wp2_with fail
          refine wp_region_pl (fun Y => Y.cell? ⟨T, 0, none⟩ = some (.int .i64 k) ∧ Y.cell? ⟨T, 1, none⟩ = some (.string nm) ∧ Y.cell? ⟨T, 2, none⟩ = some (.string vl)) ((0, 0) :: (1, 0) :: (2, 0) :: (3, 0) :: (4, 0) :: (5, 0) :: (6, 0) :: (7, 0) :: (8, 0) :: (9, 1) :: (10, 0) :: (11, 0) :: (12, 0) :: (13, 0) :: (14, 0) :: (15, 0) :: (16, 0) :: (17, 0) :: []) (by kernel_rfl) (by kernel_rfl) ?_
          iterate 9 (apply wpP_go; (focus rfl); (focus rfl); (focus exact S0.out); (focus (rintro Z ⟨s0, s1, s2⟩; go_simp; exact rfl)); intro K hK; go_simp; refine hK _ ?_; clear hK K)
          apply wpP_one
          focus rfl
          intro K hK
          go_simp
          refine HEN.out.mono ?_
          rintro e w4 ⟨rfl, b4⟩
          have S4 : Hid (w4.cell? ⟨T, 0, none⟩ = some (.int .i64 k) ∧ w4.cell? ⟨T, 1, none⟩ = some (.string nm) ∧ w4.cell? ⟨T, 2, none⟩ = some (.string vl)) :=
            ⟨(b4.cell (p := ⟨T, 0, none⟩) hTl).trans S0.out.1, (b4.cell (p := ⟨T, 1, none⟩) hTl).trans S0.out.2.1, (b4.cell (p := ⟨T, 2, none⟩) hTl).trans S0.out.2.2⟩
          have HR4 : Hid (Row w4 R 88 4 (fun j => if j = 0 then .int .i64 0 else if j = 1 then str [] else if j = 2 then str [] else .int .i64 0)) := (Row.drew HR3.out).ch (Ch.of_below b4 (fun _ => False)) id
          have HT4 : Hid (Row w4 T 88 4 (fun j => if j = 0 then .int .i64 k else if j = 1 then .string nm else if j = 2 then .string vl else .int .i64 cnt)) := (Row.drew HRT.out).ch (Ch.of_below b4 (fun _ => False)) id
          have HB4 : Hid (Below w.heap.size w w4) := bthen HB3.out.drew b4
          refine hK _ _ S4.out ?_
          clear hK K
          clear S0 HR3 HRT HB3 b4 HEN t0 t1 t2
          iterate 2 (apply wpP_go; (focus rfl); (focus rfl); (focus exact S4.out); (focus (rintro Z ⟨s0, s1, s2⟩; go_simp; exact rfl)); intro K hK; go_simp; refine hK _ ?_; clear hK K)
          iterate 3 (apply wpP_go; (focus rfl); (focus rfl); (focus exact S4.out); (focus (rintro Z ⟨s0, s1, s2⟩; go_simp; exact rfl)); intro K hK; go_simp; refine hK _ ?_; clear hK K)
          apply wpP_call
          focus rfl
          focus rfl
          focus exact S4.out
          focus (rintro Z ⟨s0, s1, s2⟩; go_simp; exact ⟨rfl, rfl⟩)
          focus (intro Z _; exact HZ.out Z)
          intro K hK
          go_simp
          refine hK _ ?_
          clear hK K
          iterate 2 (apply wpP_go; (focus rfl); (focus rfl); (focus exact S4.out); (focus (rintro Z ⟨s0, s1, s2⟩; go_simp; exact rfl)); intro K hK; go_simp; refine hK _ ?_; clear hK K)
          refine wpP_done ?_
          have r0 := HR4.out.cell (i := 0) (by omega)
          have r1 := HR4.out.cell (i := 1) (by omega)
          have r2 := HR4.out.cell (i := 2) (by omega)
          have r3 := HR4.out.cell (i := 3) (by omega)
          have f0 := HR4.out.frozen 0
          have f1 := HR4.out.frozen 1
          have f2 := HR4.out.frozen 2
          have f3 := HR4.out.frozen 3
          clear S4 HT4
          go_wp2_with fail
          exact dec_end2 (by have := HB4.out; rw [HRS.out] at this; exact this) HR4.out _ _ _ _ _ rfl rfl (by rw [HDN.out]; rfl)
      · have HDN : Hid (dec ps = none) := by
          show _ = _
          rw [HDC.out, if_neg]
          rintro ⟨h1, _⟩
          exact heq (ByteArray.ext (Array.toList_inj.1 h1))
        have hee : ((all.extract 0 len).toList == er.toList) = false := by
          rw [beq_eq_false_iff_ne, ByteArray.toList_eq, ByteArray.toList_eq]
          intro h1
          exact heq (ByteArray.ext (Array.toList_inj.1 h1))
        clear hx1 hx2 hx2s heq
        go_wp2_with fail
        refine wp_region_pl (fun Y => Y.cell? ⟨T, 0, none⟩ = some (.int .i64 k) ∧ Y.cell? ⟨T, 1, none⟩ = some (.string nm) ∧ Y.cell? ⟨T, 2, none⟩ = some (.string vl)) ((0, 0) :: (1, 0) :: (2, 0) :: (3, 0) :: (4, 0) :: (5, 0) :: (6, 0) :: (7, 0) :: (8, 0) :: (9, 1) :: (10, 0) :: (11, 0) :: (12, 0) :: (13, 0) :: (14, 0) :: (15, 0) :: (16, 0) :: (17, 0) :: []) (by kernel_rfl) (by kernel_rfl) ?_
        iterate 9 (apply wpP_go; (focus rfl); (focus rfl); (focus exact S0.out); (focus (rintro Z ⟨s0, s1, s2⟩; go_simp; exact rfl)); intro K hK; go_simp; refine hK _ ?_; clear hK K)
        apply wpP_one
        focus rfl
        intro K hK
        go_simp
        refine HEN.out.mono ?_
        rintro e w4 ⟨rfl, b4⟩
        have S4 : Hid (w4.cell? ⟨T, 0, none⟩ = some (.int .i64 k) ∧ w4.cell? ⟨T, 1, none⟩ = some (.string nm) ∧ w4.cell? ⟨T, 2, none⟩ = some (.string vl)) :=
          ⟨(b4.cell (p := ⟨T, 0, none⟩) hTl).trans S0.out.1, (b4.cell (p := ⟨T, 1, none⟩) hTl).trans S0.out.2.1, (b4.cell (p := ⟨T, 2, none⟩) hTl).trans S0.out.2.2⟩
        have HR4 : Hid (Row w4 R 88 4 (fun j => if j = 0 then .int .i64 0 else if j = 1 then str [] else if j = 2 then str [] else .int .i64 0)) := (Row.drew HR3.out).ch (Ch.of_below b4 (fun _ => False)) id
        have HT4 : Hid (Row w4 T 88 4 (fun j => if j = 0 then .int .i64 k else if j = 1 then .string nm else if j = 2 then .string vl else .int .i64 cnt)) := (Row.drew HRT.out).ch (Ch.of_below b4 (fun _ => False)) id
        have HB4 : Hid (Below w.heap.size w w4) := bthen HB3.out.drew b4
        refine hK _ _ S4.out ?_
        clear hK K
        clear S0 HR3 HRT HB3 b4 HEN t0 t1 t2
        iterate 2 (apply wpP_go; (focus rfl); (focus rfl); (focus exact S4.out); (focus (rintro Z ⟨s0, s1, s2⟩; go_simp; exact rfl)); intro K hK; go_simp; refine hK _ ?_; clear hK K)
        iterate 5 (apply wpP_not; (focus rfl); (focus rfl); (focus exact S4.out); intro K hK; go_simp; refine hK _ ?_; clear hK K)
        iterate 1 (apply wpP_go; (focus rfl); (focus rfl); (focus exact S4.out); (focus (rintro Z ⟨s0, s1, s2⟩; go_simp; exact rfl)); intro K hK; go_simp; refine hK _ ?_; clear hK K)
        refine wpP_done ?_
        have r0 := HR4.out.cell (i := 0) (by omega)
        have r1 := HR4.out.cell (i := 1) (by omega)
        have r2 := HR4.out.cell (i := 2) (by omega)
        have r3 := HR4.out.cell (i := 3) (by omega)
        have f0 := HR4.out.frozen 0
        have f1 := HR4.out.frozen 1
        have f2 := HR4.out.frozen 2
        have f3 := HR4.out.frozen 3
        clear S4 HT4
        go_wp2_with fail
        exact dec_end2 (by have := HB4.out; rw [HRS.out] at this; exact this) HR4.out _ _ _ _ _ rfl rfl (by rw [HDN.out]; rfl)
end Go.Proofs.Ytfglopkglnpokaa
