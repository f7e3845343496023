/- The reference's Reset, AddMutex, AddEvent, pass, Signal. Conditions: those that each theorem names. -/
import Derived.Test.YtefgfmnnaglfmaaN1
namespace Go.Proofs.Ytefgfmnnaglfmaa
open Go.RowKit
section
variable {w w' w3 : World} {D : Nat → Prop} {X n : Nat} {s s' : LK} {vl vw : Value} {M M' : List RL} {W W' : List RT}
theorem RK.mk' (h : RM w D X vl vw M W) (h1 : M.length ≤ n) (h2 : W.length ≤ n) (h3 : RO M s) (h4 : RH W s) : RK w D X n s := ⟨vl, vw, M, W, h, h1, h2, h3, h4⟩
theorem RK.mono (h : RK w D X n s) {n' : Nat} (hn : n ≤ n') : RK w D X n' s := by
  obtain ⟨vl, vw, M, W, h, h1, h2, h3, h4⟩ := h
  exact ⟨vl, vw, M, W, h, by omega, by omega, h3, h4⟩
theorem RP.same (h : RK w D X n s) {n' : Nat} (hn : n ≤ n') : RP w D X n' s w := ⟨D, h.mono hn, Ch.refl _ _, fun _ h => .inl h⟩
theorem RP.of (h : RK w' D X n s) (c : Ch D w w') : RP w D X n s w' := ⟨D, h, c, fun _ h => .inl h⟩
/-- A block of the reference that a store goes to. -/
theorem RM.chL (h : RM w D X vl vw M W) {g a b i : Nat} (e : vl = .slice (some ⟨g, 0, none⟩) a b) (u : Value) : Ch D w (w.setCell ⟨g, i, none⟩ u) := (Ch.refl D w).setCell (p := ⟨g, i, none⟩) (fun _ => h.dl g (by rw [e]; rfl)) u
theorem RM.chT (h : RM w D X vl vw M W) {g a b i : Nat} (e : vw = .slice (some ⟨g, 0, none⟩) a b) (u : Value) : Ch D w (w.setCell ⟨g, i, none⟩ u) := (Ch.refl D w).setCell (p := ⟨g, i, none⟩) (fun _ => h.dw g (by rw [e]; rfl)) u
theorem at_set {α : Type} {l : List α} {i : Nat} {x y : α} (h : l[i]? = some x) : (l.set i y)[i]? = some y := by
  obtain ⟨hi, _⟩ := List.getElem?_eq_some_iff.1 h
  rw [List.getElem?_set, if_pos rfl, if_pos hi]
theorem RM.qv (h : RM w D X vl vw M W) {i : Nat} {x : RL} (hx : M[i]? = some x) : QV w x.v x.q ∧ ∀ b, x.v.ownBlock = some b → D b := h.q x (List.mem_of_getElem? hx)
theorem RM.sCt (h : RM w D X vl vw M W) {i g cap : Nat} {x : RL} (e : vl = .slice (some ⟨g, 0, none⟩) M.length cap) (hx : M[i]? = some x) (c : Int) : RM (w.setCell ⟨g, i * 7 + 5, none⟩ (.int .i64 c)) D X vl vw (M.set i { x with ct := c }) W := h.setL e hx (by omega) rfl (by exact (h.qv hx : QV w x.v x.q ∧ ∀ b, x.v.ownBlock = some b → D b))
theorem RM.sOd (h : RM w D X vl vw M W) {i g cap : Nat} {x : RL} (e : vl = .slice (some ⟨g, 0, none⟩) M.length cap) (hx : M[i]? = some x) (c : Bool) : RM (w.setCell ⟨g, i * 7 + 3, none⟩ (.bool c)) D X vl vw (M.set i { x with od := c }) W := h.setL e hx (by omega) rfl (by exact (h.qv hx : QV w x.v x.q ∧ ∀ b, x.v.ownBlock = some b → D b))
theorem RM.sOw (h : RM w D X vl vw M W) {i g cap : Nat} {x : RL} (e : vl = .slice (some ⟨g, 0, none⟩) M.length cap) (hx : M[i]? = some x) (c : Int) : RM (w.setCell ⟨g, i * 7 + 4, none⟩ (.int .i64 c)) D X vl vw (M.set i { x with ow := c }) W := h.setL e hx (by omega) rfl (by exact (h.qv hx : QV w x.v x.q ∧ ∀ b, x.v.ownBlock = some b → D b))
theorem RM.sQu (h : RM w D X vl vw M W) {i g cap : Nat} {x : RL} (e : vl = .slice (some ⟨g, 0, none⟩) M.length cap) (hx : M[i]? = some x) {v : Value} {q : List Int} (hq : QV w v q ∧ ∀ b, v.ownBlock = some b → D b) : RM (w.setCell ⟨g, i * 7 + 6, none⟩ v) D X vl vw (M.set i { x with v := v, q := q }) W := h.setL e hx (by omega) rfl hq
theorem RM.tSt (h : RM w D X vl vw M W) {i g cap : Nat} {x : RT} (e : vw = .slice (some ⟨g, 0, none⟩) W.length cap) (hx : W[i]? = some x) (c : Int) : RM (w.setCell ⟨g, i * 5 + 1, none⟩ (.int .i64 c)) D X vl vw M (W.set i { x with st := c }) := h.setT e hx (by omega) rfl
theorem RM.tOb (h : RM w D X vl vw M W) {i g cap : Nat} {x : RT} (e : vw = .slice (some ⟨g, 0, none⟩) W.length cap) (hx : W[i]? = some x) (c : Int) : RM (w.setCell ⟨g, i * 5 + 2, none⟩ (.int .i64 c)) D X vl vw M (W.set i { x with ob := c }) := h.setT e hx (by omega) rfl
theorem RM.tLi (h : RM w D X vl vw M W) {i g cap : Nat} {x : RT} (e : vw = .slice (some ⟨g, 0, none⟩) W.length cap) (hx : W[i]? = some x) (c : Bool) : RM (w.setCell ⟨g, i * 5 + 3, none⟩ (.bool c)) D X vl vw M (W.set i { x with li := c }) := h.setT e hx (by omega) rfl
theorem RM.tDl (h : RM w D X vl vw M W) {i g cap : Nat} {x : RT} (e : vw = .slice (some ⟨g, 0, none⟩) W.length cap) (hx : W[i]? = some x) (c : Int) : RM (w.setCell ⟨g, i * 5 + 4, none⟩ (.int .u64 c)) D X vl vw M (W.set i { x with dl := c }) := h.setT e hx (by omega) rfl
theorem RM.pushL {g cap : Nat} (h : RM w D X vl vw M W) (x : RL) (hq : QV w x.v x.q ∧ ∀ b, x.v.ownBlock = some b → D b) (ho : w3.ownsRow 0 88 7 (.slice (some ⟨g, 0, none⟩) (M.length + 1) cap) (M.length + 1) (M.flatMap lcf ++ lcf x)) (hg3 : w.grownBy w3 vl.ownBlock) (hlt : g < w3.heap.size) :
    RM (w3.setCell ⟨X, 0, none⟩ (.slice (some ⟨g, 0, none⟩) (M.length + 1) cap)) (fun k => D k ∨ k = g) X (.slice (some ⟨g, 0, none⟩) (M.length + 1) cap) vw (M ++ [x]) W ∧ Ch D w (w3.setCell ⟨X, 0, none⟩ (.slice (some ⟨g, 0, none⟩) (M.length + 1) cap)) ∧ w3.cell? ⟨X, 0, none⟩ = some vl ∧ w3.frozen? ⟨X, 0, none⟩ = false := by
  have c1 : Ch (fun k => vl.ownBlock = some k) w w3 := Ch.of_grown hg3 fun _ hx _ => hx
  have c2 : Ch (fun k => k = X) w3 (w3.setCell ⟨X, 0, none⟩ (.slice (some ⟨g, 0, none⟩) (M.length + 1) cap)) := (Ch.refl (fun k => k = X) w3).setCell (p := ⟨X, 0, none⟩) (fun _ => rfl) _
  have hXl : ¬ vl.ownBlock = some X := fun e => (own_ty h.rl e).ne h.tyX (by omega) rfl
  have top3 : Row w3 X 77 2 (xcf vl vw) := h.top.ch c1 hXl
  have tyX3 : TY w3 X 77 := by obtain ⟨cs, hh, _⟩ := top3; exact ⟨cs, _, hh⟩
  have tyg : TY w3 g 88 := own_ty ho rfl
  have rw3 : w3.ownsRow 0 92 5 vw W.length (W.flatMap tcf) := own_ch h.rw c1 (fun k hk e => (own_ty h.rw hk).ne (own_ty h.rl e) (by omega) rfl)
  have hqc : ∀ z : RL, QV w z.v z.q → QV (w3.setCell ⟨X, 0, none⟩ (.slice (some ⟨g, 0, none⟩) (M.length + 1) cap)) z.v z.q := fun z hz => by
    have h1 : QV w3 z.v z.q := hz.ch c1 fun b hb e => by
      obtain ⟨a, cp, _, _, _, h3, _⟩ := hz
      exact (h3 b hb).ne (own_ty h.rl e) (by omega) rfl
    exact h1.ch c2 fun b hb => by
      obtain ⟨a, cp, _, _, _, h3, _⟩ := h1
      exact (h3 b hb).ne tyX3 (by omega)
  refine ⟨⟨(top3.set (i := 0) (by omega) _).congr fun j hj => ?_, ?_, own_ch rw3 c2 (fun k hk => (own_ty rw3 hk).ne tyX3 (by omega)), .inl h.dX, fun k hk => ?_, fun k hk => .inl (h.dw k hk), fun z hz => ?_, ?_⟩, ?_, Row.cell top3 (i := 0) (by omega), Row.frozen top3 0⟩
  · rcases (by omega : j = 0 ∨ j = 1) with rfl | rfl <;> simp [upd, xcf]
  · rw [List.length_append, List.flatMap_append]
    exact own_ch (by simpa using ho) c2 (fun k hk => by
      have e : g = k := by simpa [Value.ownBlock] using hk
      subst e
      exact tyg.ne tyX3 (by omega))
  · have e : g = k := by simpa [Value.ownBlock] using hk
    exact .inr e.symm
  · rcases List.mem_append.1 hz with hz | hz
    · exact ⟨hqc z (h.q z hz).1, fun b hb => .inl ((h.q z hz).2 b hb)⟩
    · have : z = x := by simpa using hz
      subst this
      exact ⟨hqc z hq.1, fun b hb => .inl (hq.2 b hb)⟩
  · rintro k (hk | rfl)
    · exact Nat.lt_of_lt_of_le (h.fin k hk) (Nat.le_trans c1.size c2.size)
    · exact Nat.lt_of_lt_of_le hlt c2.size
  · exact (c1.mono fun k hk _ => h.dl k hk).trans (c2.mono fun k hk _ => by rw [hk]; exact h.dX)
theorem setO_o (s : LK) (i : Int) (x : Option Ob) (t : Int) : stT (s.setO i x) t = stT s t := rfl
theorem RH.setO (h : RH W s) (i : Int) (x : Option Ob) : RH W (s.setO i x) := h.congr fun _ => ⟨rfl, fun _ => ⟨rfl, rfl⟩⟩
set_option maxHeartbeats 1000000 in
theorem rreset_any (h : RK w D X n s) (hn : n ≤ 1000000) (id : Int) :
    Calls Try.prog 47 #[ptr X, .int .i64 id] w fun e w' => e = .returned (.int .i64 (rstS s id).1) ∧ RP w D X n (rstS s id).2 w' := by
  have P0 := Lib.hid (RP.same h (Nat.le_refl n))
  obtain ⟨vl, vw, M, W, h1, h2, h3, h4, h5⟩ := h
  have HF := Lib.hid (rfind_any h1 (by omega) id)
  have H := Lib.hid h1
  have HO := Lib.hid h4
  have HH := Lib.hid h5
  have HN : Hid (M.length ≤ n ∧ W.length ≤ n) := ⟨h2, h3⟩
  have c0 := h1.c0
  obtain ⟨al, cap, e, hc1, hc2⟩ := h1.fl
  rw [e] at c0
  have HE := Lib.hid e
  unfold maxLen at hc2
  clear h1 h4 h5 h2 h3 e
  go_enter Try.func47, Try.ntmps47
  go_wp2_with fail
  refine HF.out.mono ?_
  rintro e w' ⟨rfl, ⟨i, x, hx, he, rfl⟩ | ⟨rfl, hno⟩⟩
  · obtain ⟨g, cp, e, _, _, hgl, hgD, d0, d1, d2, d3, d4, d5, d6, fr⟩ := H.out.gl hx
    rw [HE.out] at e
    injection e with e1 e2 e3
    subst e1 e3
    have hil : i < M.length := (List.getElem?_eq_some_iff.1 hx).1
    have hod := HO.out.od hx
    have HS : Hid (s.o id = some x.ob) := by show _ = _; rw [← he]; exact HO.out.at hx
    have hi0 : ¬ (i : Int) < 0 := by omega
    obtain ⟨mx, hmx⟩ : ∃ b, x.mx = b := ⟨_, rfl⟩
    rw [hmx] at d1
    have HMX : Hid (x.mx = mx) := hmx
    have HX := Lib.hid hx
    have HID := Lib.hid he
    have f5 := fr (i * 7 + 5)
    have HR : Hid (mx = false → RP w D X n (s.setO id (some { x.ob with ct := 0 })) (w.setCell ⟨g, i * 7 + 5, none⟩ (.int .i64 0))) := fun hm => by
      have hm2 := H.out.sCt HE.out hx 0
      refine RP.of (RK.mk' hm2 (by rw [List.length_set]; exact HN.out.1) HN.out.2 (HO.out.set (s' := s.setO id (some { x.ob with ct := 0 })) hx rfl ?_ ?_) (HH.out.setO _ _)) (H.out.chL HE.out _)
      · show x.od = (x.mx && _); rw [hod, hmx, hm]; rfl
      · rw [he]; rfl
    clear e2 hx he HF hod hmx fr
    cases mx
    · have HR2 := Lib.hid (HR.out rfl)
      go_wp2_with fail
      go_ret
      have hE : rstS s id = (0, s.setO id (some { x.ob with ct := 0 })) := by
        unfold rstS
        rw [HS.out]
        exact if_neg (by show ¬ x.mx = true; rw [HMX.out]; simp)
      rw [hE]
      exact ⟨rfl, HR2.out⟩
    · go_wp2_with fail
      go_ret
      have hE : rstS s id = (6, s) := by
        unfold rstS
        rw [HS.out]
        exact if_pos (show x.mx = true from HMX.out)
      rw [hE]
      exact ⟨rfl, P0.out⟩
  · have HS : Hid (s.o id = none) := HO.out.no hno
    clear hno HF
    go_wp2_with fail
    go_ret
    unfold rstS
    rw [HS.out]
    exact ⟨rfl, P0.out⟩
end
end Go.Proofs.Ytefgfmnnaglfmaa
namespace Go.Proofs.Ytefgfmnnaglfmaa
open Go.RowKit
section
variable {w : World} {D : Nat → Prop} {X n : Nat} {s : LK}
set_option maxRecDepth 100000 in
set_option maxHeartbeats 2000000 in
theorem raddM_any (h : RK w D X n s) (hn : n ≤ 100000) (id lv : Int) :
    Calls Try.prog 39 #[ptr X, .int .i64 id, .int .i64 lv] w fun e w' => e = .returned (.int .i64 (addM s id lv).1) ∧ RP w D X (n + 1) (addM s id lv).2 w' := by
  obtain ⟨i0, hi0, hx0, hx1, hx2⟩ := info_parts Try.info88
  have P0 := Lib.hid (RP.same h (show n ≤ n + 1 by omega))
  obtain ⟨vl, vw, M, W, h1, h2, h3, h4, h5⟩ := h
  have HF := Lib.hid (rfind_any h1 (by omega) id)
  have H := Lib.hid h1
  have HO := Lib.hid h4
  have HH := Lib.hid h5
  have HN : Hid (M.length ≤ n ∧ W.length ≤ n) := ⟨h2, h3⟩
  have c0 := h1.c0
  obtain ⟨al, cap, e, hc1, hc2⟩ := h1.fl
  obtain ⟨L, hL⟩ : ∃ L, M.length = L := ⟨_, rfl⟩
  rw [hL] at h2 hc1 e
  rw [e] at c0
  have HE := Lib.hid e
  have HL := Lib.hid hL
  unfold maxLen at hc2
  clear h1 h4 h5 h3 e hL
  by_cases hl1 : lv < 0
  · go_enter Try.func39, Try.ntmps39
    go_wp2_with fail
    go_ret
    have hE : addM s id lv = (1, s) := by unfold addM; rw [if_pos (.inl hl1)]
    rw [hE]
    exact ⟨rfl, P0.out⟩
  by_cases hl2 : 15 < lv
  · have hl3 : lv > 15 := hl2
    go_enter Try.func39, Try.ntmps39
    go_wp2_with fail
    go_ret
    have hE : addM s id lv = (1, s) := by unfold addM; rw [if_pos (.inr hl2)]
    rw [hE]
    exact ⟨rfl, P0.out⟩
  have hl3 : ¬ lv > 15 := hl2
  go_enter Try.func39, Try.ntmps39
  go_wp2_with fail
  refine HF.out.mono ?_
  rintro e w' ⟨rfl, ⟨i, x, hx, he, rfl⟩ | ⟨rfl, hno⟩⟩
  · have HS : Hid (s.o id = some x.ob) := by show _ = _; rw [← he]; exact HO.out.at hx
    have hi0 : (i : Int) ≥ 0 := by omega
    clear hx he HF
    go_wp2_with fail
    go_ret
    have hE : addM s id lv = (7, s) := by
      unfold addM
      rw [if_neg (by omega)]; rw [HS.out]; exact if_pos rfl
    rw [hE]
    exact ⟨rfl, P0.out⟩
  · have HS : Hid (s.o id = none) := HO.out.no hno
    have HM1 : Hid (RM (w.alloc (.cells #[.int .i64 id, .bool true, .int .i64 lv, .bool false, .int .i64 0, .int .i64 0, .slice none 0 0] 88)) D X vl vw M W) := H.out.below ((Below.refl _ _).alloc (Nat.le_refl _) _)
    have HOW : Hid ((w.alloc (.cells #[.int .i64 id, .bool true, .int .i64 lv, .bool false, .int .i64 0, .int .i64 0, .slice none 0 0] 88)).ownsRow 0 88 7 (.slice al L cap) L (M.flatMap lcf)) := by
      have := HM1.out.rl
      rw [HE.out, HL.out] at this
      exact this
    have HNW : Hid (∀ j u, (lcf ⟨id, true, lv, false, 0, 0, [], .slice none 0 0⟩)[j]? = some u → (w.alloc (.cells #[.int .i64 id, .bool true, .int .i64 lv, .bool false, .int .i64 0, .int .i64 0, .slice none 0 0] 88)).cell? ((⟨w.heap.size, 0, none⟩ : Addr).add j) = some u) := World.news_of_block (heap_alloc_new w _)
    clear hno HF
    go_upto_region 5 with fail
    go_wp2_with (at_builtin; refine wpList_append_lies _ rfl _ _ 74 rfl 0 88 i0 _ 7 72 Try.underlying74 hi0 hx0 hx1 hx2 rfl (by omega) (.slice al L cap) L (M.flatMap lcf) rfl (by exact HOW.out) ⟨w.heap.size, 0, none⟩ 1 1 (lcf ⟨id, true, lv, false, 0, 0, [], .slice none 0 0⟩) rfl rfl (by exact HNW.out) (by simp [lcf, Value.oneCell']) (by omega) (by simp only [maxLen]; omega) (by omega) (Nat.zero_le _) (w.heap.size + 1) (by simp) ?_)
    intro g cap2 w6 ho hg hat hlt
    have hsz : (w.alloc (.cells #[.int .i64 id, .bool true, .int .i64 lv, .bool false, .int .i64 0, .int .i64 0, .slice none 0 0] 88)).heap.size = w.heap.size + 1 := by simp
    have hpu := HM1.out.pushL (g := g) (cap := cap2) ⟨id, true, lv, false, 0, 0, [], .slice none 0 0⟩ ⟨QV.nil _, fun b hb => by cases hb⟩ (by rw [HL.out]; exact ho) (by rw [HE.out]; exact hg) hlt
    rw [HL.out] at hpu
    obtain ⟨hM7, hC7, c6, f6⟩ := hpu
    rw [HE.out] at c6
    have HM7 := Lib.hid hM7
    have HC7 : Hid (Ch D w _) := ((Ch.refl D w).alloc _).trans hC7
    have HAT := Lib.hid hat
    have hg7 := hM7.fin g (.inr rfl)
    clear ho hg hM7 hC7 hat hlt HOW HNW HM1 hsz c0
    go_wp2_with fail
    go_ret
    have hE : addM s id lv = (0, s.setO id (some ⟨true, lv, 0, 0, []⟩)) := by
      unfold addM
      rw [if_neg (by omega)]; rw [HS.out, if_neg (by simp)]
    rw [hE]
    refine ⟨rfl, fun k => D k ∨ k = g, RK.mk' HM7.out (by rw [List.length_append]; have := HN.out.1; exact Nat.succ_le_succ this) (by have := HN.out.2; omega) (HO.out.push (x := ⟨id, true, lv, false, 0, 0, [], .slice none 0 0⟩) HS.out rfl rfl) (HH.out.setO _ _), HC7.out, ?_⟩
    rintro k (hk | rfl)
    · exact .inl hk
    · rcases HAT.out with h1 | h1
      · exact .inl (H.out.dl k (by rw [HE.out]; exact h1))
      · exact .inr ⟨by omega, hg7⟩
set_option maxRecDepth 100000 in
set_option maxHeartbeats 2000000 in
theorem raddE_any (h : RK w D X n s) (hn : n ≤ 100000) (id : Int) :
    Calls Try.prog 40 #[ptr X, .int .i64 id] w fun e w' => e = .returned (.int .i64 (addE s id).1) ∧ RP w D X (n + 1) (addE s id).2 w' := by
  obtain ⟨i0, hi0, hx0, hx1, hx2⟩ := info_parts Try.info88
  have P0 := Lib.hid (RP.same h (show n ≤ n + 1 by omega))
  obtain ⟨vl, vw, M, W, h1, h2, h3, h4, h5⟩ := h
  have HF := Lib.hid (rfind_any h1 (by omega) id)
  have H := Lib.hid h1
  have HO := Lib.hid h4
  have HH := Lib.hid h5
  have HN : Hid (M.length ≤ n ∧ W.length ≤ n) := ⟨h2, h3⟩
  have c0 := h1.c0
  obtain ⟨al, cap, e, hc1, hc2⟩ := h1.fl
  obtain ⟨L, hL⟩ : ∃ L, M.length = L := ⟨_, rfl⟩
  rw [hL] at h2 hc1 e
  rw [e] at c0
  have HE := Lib.hid e
  have HL := Lib.hid hL
  unfold maxLen at hc2
  clear h1 h4 h5 h3 e hL
  go_enter Try.func40, Try.ntmps40
  go_wp2_with fail
  refine HF.out.mono ?_
  rintro e w' ⟨rfl, ⟨i, x, hx, he, rfl⟩ | ⟨rfl, hno⟩⟩
  · have HS : Hid (s.o id = some x.ob) := by show _ = _; rw [← he]; exact HO.out.at hx
    have hi0 : (i : Int) ≥ 0 := by omega
    clear hx he HF
    go_wp2_with fail
    go_ret
    have hE : addE s id = (7, s) := by
      unfold addE
      rw [HS.out]; exact if_pos rfl
    rw [hE]
    exact ⟨rfl, P0.out⟩
  · have HS : Hid (s.o id = none) := HO.out.no hno
    have HM1 : Hid (RM (w.alloc (.cells #[.int .i64 id, .bool false, .int .i64 0, .bool false, .int .i64 0, .int .i64 0, .slice none 0 0] 88)) D X vl vw M W) := H.out.below ((Below.refl _ _).alloc (Nat.le_refl _) _)
    have HOW : Hid ((w.alloc (.cells #[.int .i64 id, .bool false, .int .i64 0, .bool false, .int .i64 0, .int .i64 0, .slice none 0 0] 88)).ownsRow 0 88 7 (.slice al L cap) L (M.flatMap lcf)) := by
      have := HM1.out.rl
      rw [HE.out, HL.out] at this
      exact this
    have HNW : Hid (∀ j u, (lcf ⟨id, false, 0, false, 0, 0, [], .slice none 0 0⟩)[j]? = some u → (w.alloc (.cells #[.int .i64 id, .bool false, .int .i64 0, .bool false, .int .i64 0, .int .i64 0, .slice none 0 0] 88)).cell? ((⟨w.heap.size, 0, none⟩ : Addr).add j) = some u) := World.news_of_block (heap_alloc_new w _)
    clear hno HF
    go_upto_region 3 with fail
    go_wp2_with (at_builtin; refine wpList_append_lies _ rfl _ _ 74 rfl 0 88 i0 _ 7 72 Try.underlying74 hi0 hx0 hx1 hx2 rfl (by omega) (.slice al L cap) L (M.flatMap lcf) rfl (by exact HOW.out) ⟨w.heap.size, 0, none⟩ 1 1 (lcf ⟨id, false, 0, false, 0, 0, [], .slice none 0 0⟩) rfl rfl (by exact HNW.out) (by simp [lcf, Value.oneCell']) (by omega) (by simp only [maxLen]; omega) (by omega) (Nat.zero_le _) (w.heap.size + 1) (by simp) ?_)
    intro g cap2 w6 ho hg hat hlt
    have hsz : (w.alloc (.cells #[.int .i64 id, .bool false, .int .i64 0, .bool false, .int .i64 0, .int .i64 0, .slice none 0 0] 88)).heap.size = w.heap.size + 1 := by simp
    have hpu := HM1.out.pushL (g := g) (cap := cap2) ⟨id, false, 0, false, 0, 0, [], .slice none 0 0⟩ ⟨QV.nil _, fun b hb => by cases hb⟩ (by rw [HL.out]; exact ho) (by rw [HE.out]; exact hg) hlt
    rw [HL.out] at hpu
    obtain ⟨hM7, hC7, c6, f6⟩ := hpu
    rw [HE.out] at c6
    have HM7 := Lib.hid hM7
    have HC7 : Hid (Ch D w _) := ((Ch.refl D w).alloc _).trans hC7
    have HAT := Lib.hid hat
    have hg7 := hM7.fin g (.inr rfl)
    clear ho hg hM7 hC7 hat hlt HOW HNW HM1 hsz c0
    go_wp2_with fail
    go_ret
    have hE : addE s id = (0, s.setO id (some ⟨false, 0, 0, 0, []⟩)) := by
      unfold addE
      rw [HS.out, if_neg (by simp)]
    rw [hE]
    refine ⟨rfl, fun k => D k ∨ k = g, RK.mk' HM7.out (by rw [List.length_append]; have := HN.out.1; exact Nat.succ_le_succ this) (by have := HN.out.2; omega) (HO.out.push (x := ⟨id, false, 0, false, 0, 0, [], .slice none 0 0⟩) HS.out rfl rfl) (HH.out.setO _ _), HC7.out, ?_⟩
    rintro k (hk | rfl)
    · exact .inl hk
    · rcases HAT.out with h1 | h1
      · exact .inl (H.out.dl k (by rw [HE.out]; exact h1))
      · exact .inr ⟨by omega, hg7⟩
end
end Go.Proofs.Ytefgfmnnaglfmaa
namespace Go.Proofs.Ytefgfmnnaglfmaa
open Go.RowKit
theorem sl_inj {g g' n n' c c' : Nat} (h : Value.slice (some ⟨g, 0, none⟩) n c = .slice (some ⟨g', 0, none⟩) n' c') : g = g' ∧ n = n' ∧ c = c' := by
  injection h with h1 h2 h3
  injection h1 with h1
  injection h1 with h1
  exact ⟨h1, h2, h3⟩
def passS (s : LK) (x : RL) : LK := match x.q with
  | [] => s.setO x.id (some { x.ob with ow := 0, ct := 0 })
  | a :: r => (s.setO x.id (some ⟨x.mx, x.lv, a, 1, r⟩)).upT a fun t => { t with st := 1 }
theorem QV.tail {w : World} {v : Value} {a : Int} {r : List Int} (h : QV w v (a :: r)) : ∃ b o cap, v = .slice (some ⟨b, o, none⟩) (r.length + 1) cap ∧ r.length + 1 ≤ cap ∧ cap ≤ maxLen ∧ w.cell? ⟨b, o, none⟩ = some (.int .i64 a) ∧ QV w (.slice (if cap = 1 then some (⟨b, o, none⟩ : Addr) else some ⟨b, o + 1, none⟩) r.length (cap - 1)) r := by
  obtain ⟨ad, cap, e, h1, h2, h3, h4⟩ := h
  obtain ⟨b, o, rfl, h5⟩ := h4 (by simp)
  refine ⟨b, o, cap, e, h1, h2, ?_, _, cap - 1, rfl, by simp at h1; omega, by omega, fun c hc => ?_, fun hr => ⟨b, o + 1, ?_, fun j hj => ?_⟩⟩
  · exact h5 0 (by simp)
  · have e2 : b = c := by
      by_cases h9 : cap = 1
      · rw [if_pos h9] at hc; simpa [Value.ownBlock] using hc
      · rw [if_neg h9] at hc; simpa [Value.ownBlock] using hc
    subst e2
    exact h3 b (by rw [e]; rfl)
  · rw [if_neg]
    intro h9
    rw [h9] at h1
    simp at h1
    exact hr h1
  · have := h5 (j + 1) (by simp; omega)
    rw [show o + 1 + j = o + (j + 1) by omega, this]; simp
section
variable {w w' : World} {D : Nat → Prop} {X n : Nat} {s s' : LK} {vl vw : Value} {M : List RL} {W : List RT}
theorem RK.congr (h : RK w D X n s) (e : s'.o = s.o) (e2 : ∀ t, (stT s' t).st = (stT s t).st ∧ ((stT s t).st = 2 → (stT s' t).en = (stT s t).en ∧ (stT s' t).dl = (stT s t).dl)) : RK w D X n s' := by
  obtain ⟨vl, vw, M, W, h1, h2, h3, h4, h5⟩ := h
  exact ⟨vl, vw, M, W, h1, h2, h3, h4.congr e, h5.congr e2⟩
theorem RP.congr (h : RP w D X n s w') (e : s'.o = s.o) (e2 : ∀ t, (stT s' t).st = (stT s t).st ∧ ((stT s t).st = 2 → (stT s' t).en = (stT s t).en ∧ (stT s' t).dl = (stT s t).dl)) : RP w D X n s' w' := by
  obtain ⟨D', h1, h2⟩ := h
  exact ⟨D', h1.congr e e2, h2⟩
theorem stT_setT (s : LK) (i j : Int) (x : Th) : stT (s.setT i (some x)) j = if j = i then x else stT s j := by
  unfold stT LK.setT
  by_cases e : j = i <;> simp [e]
set_option maxRecDepth 100000 in
set_option maxHeartbeats 4000000 in
theorem rpass_any (h : RM w D X vl vw M W) (hM : M.length ≤ n) (hW : W.length ≤ n) (hn : n ≤ 100000) {i : Nat} {x : RL} (hx : M[i]? = some x) (hmx : x.mx = true)
    (hO : ∀ x' : RL, x'.id = x.id → x'.od = (x'.mx && decide (0 < x'.ct)) → RO (M.set i x') (s.setO x.id (some x'.ob))) (hH : RH W s) :
    Calls Try.prog 64 #[ptr X, .int .i64 (i : Nat)] w fun e w' => e = .returned (.tuple #[]) ∧ RP w D X (n + 1) (passS s x) w' := by
  have c0 := h.c0
  obtain ⟨g, cap, e, hc1, hc2, hgl, hgD, d0, d1, d2, d3, d4, d5, d6, fr⟩ := h.gl hx
  have H0 := Lib.hid h
  have HE := Lib.hid e
  have HX := Lib.hid hx
  have HH := Lib.hid hH
  have HO := Lib.hid hO
  have HMX := Lib.hid hmx
  have HN : Hid (M.length ≤ n ∧ W.length ≤ n) := ⟨hM, hW⟩
  obtain ⟨L, hL⟩ : ∃ L, M.length = L := ⟨_, rfl⟩
  have hil : i < L := by rw [← hL]; exact (List.getElem?_eq_some_iff.1 hx).1
  have HL := Lib.hid hL
  rw [e, hL] at c0
  rw [hL] at hc1
  unfold maxLen at hc2
  have f3 := fr (i * 7 + 3)
  have f4 := fr (i * 7 + 4)
  have f5 := fr (i * 7 + 5)
  have m1 := h.sOd e hx false
  have x1 := at_set (y := { x with od := false }) hx
  have e1 : vl = .slice (some ⟨g, 0, none⟩) (M.set i { x with od := false }).length cap := by rw [List.length_set]; exact e
  have m2 := m1.sOw e1 x1 0
  have x2 := at_set (y := { x with od := false, ow := 0 }) x1
  rw [List.set_set] at m2 x2
  have e2 : vl = .slice (some ⟨g, 0, none⟩) (M.set i { x with od := false, ow := 0 }).length cap := by rw [List.length_set]; exact e
  have m3 := m2.sCt e2 x2 0
  have x3 := at_set (y := { x with od := false, ow := 0, ct := 0 }) x2
  rw [List.set_set] at m3 x3
  have HM3 := Lib.hid m3
  have HX3 := Lib.hid x3
  have HC3 : Hid (Ch D w _) := ((h.chL e _).trans (m1.chL e1 _)).trans (m2.chL e2 (i := i * 7 + 5) (.int .i64 0))
  clear h hx e hmx hO hH hM hW hL fr m1 m2 m3 x1 x2 x3 e1 e2
  go_enter Try.func64, Try.ntmps64
  go_upto_region 2 with fail
  generalize ((w.setCell ⟨g, i * 7 + 3, none⟩ (.bool false)).setCell ⟨g, i * 7 + 4, none⟩ (.int .i64 0)).setCell ⟨g, i * 7 + 5, none⟩ (.int .i64 0) = w3 at *
  have q3 := HM3.out.qv HX3.out
  obtain ⟨g', cap', e, _, _, _, _, _, _, _, k3, k4, k5, k6, fr⟩ := HM3.out.gl HX3.out
  rw [HE.out] at e
  obtain ⟨e1, _, e3⟩ := sl_inj e
  subst e1 e3
  have hlen : (M.set i { x with od := false, ow := 0, ct := 0 }).length = M.length := List.length_set
  obtain ⟨M3, hM3⟩ : ∃ M3, M.set i { x with od := false, ow := 0, ct := 0 } = M3 := ⟨_, rfl⟩
  have HMM := Lib.hid hM3
  have HLM : Hid (M3.length = M.length) := by show _ = _; rw [← hM3]; exact hlen
  rw [hM3] at HM3 HX3
  clear c0 d0 d1 d2 d3 d4 d5 d6 f3 f4 f5 hlen hM3
  by_cases hq : x.q = []
  · obtain ⟨a, cp, ev, _, _, _, _⟩ := q3.1
    have ev2 : x.v = .slice a 0 cp := by rw [show x.v = _ from ev]; show Value.slice a x.q.length cp = _; rw [hq]; rfl
    rw [show ({ x with od := false, ow := 0, ct := 0 } : RL).v = x.v from rfl, ev2] at k6
    have HQ := Lib.hid hq
    clear q3 ev ev2 fr k3 k4 k5 hq
    go_wp2_with fail
    go_end0
    have hE : passS s x = s.setO x.id (some { x.ob with ow := 0, ct := 0 }) := by unfold passS; rw [HQ.out]
    rw [hE]
    refine ⟨rfl, RP.of (RK.mk' HM3.out (by rw [HLM.out]; have := HN.out.1; omega) (by have := HN.out.2; omega) ?_ (HH.out.setO _ _)) HC3.out⟩
    have := HO.out { x with od := false, ow := 0, ct := 0 } rfl (by simp)
    rw [HMM.out] at this
    exact this
  · obtain ⟨a, r, hqr⟩ : ∃ a r, x.q = a :: r := by
      rcases hq' : x.q with _ | ⟨a, r⟩
      · exact absurd hq' hq
      · exact ⟨a, r, rfl⟩
    obtain ⟨⟨b, o, cp, ev, hv1, hv2, hv3, hv4⟩, hvD⟩ : (∃ b o cap, x.v = .slice (some ⟨b, o, none⟩) (r.length + 1) cap ∧ r.length + 1 ≤ cap ∧ cap ≤ maxLen ∧ w3.cell? ⟨b, o, none⟩ = some (.int .i64 a) ∧ QV w3 (.slice (if cap = 1 then some (⟨b, o, none⟩ : Addr) else some ⟨b, o + 1, none⟩) r.length (cap - 1)) r) ∧ ∀ b, x.v.ownBlock = some b → D b := by
      have h9 : QV w3 x.v x.q := q3.1
      rw [hqr] at h9
      exact ⟨h9.tail, q3.2⟩
    have hbD : D b := hvD b (by rw [ev]; rfl)
    rw [show ({ x with od := false, ow := 0, ct := 0 } : RL).v = x.v from rfl, ev] at k6
    obtain ⟨rl, hrl⟩ : ∃ n, r.length = n := ⟨_, rfl⟩
    rw [hrl] at k6 hv1 hv4
    have f3 := fr (i * 7 + 3)
    have f4 := fr (i * 7 + 4)
    have f5 := fr (i * 7 + 5)
    have f6 := fr (i * 7 + 6)
    have hrp : (rl : Int) + 1 > 0 := by omega
    have e3 : vl = .slice (some ⟨g, 0, none⟩) M3.length cap := by rw [HLM.out]; exact HE.out
    have m4 := HM3.out.sQu (v := .slice (if cp = 1 then some (⟨b, o, none⟩ : Addr) else some ⟨b, o + 1, none⟩) rl (cp - 1)) (q := r) e3 HX3.out ⟨hv4, fun c hc => by
      have e2 : b = c := by
        by_cases h9 : cp = 1
        · rw [if_pos h9] at hc; simpa [Value.ownBlock] using hc
        · rw [if_neg h9] at hc; simpa [Value.ownBlock] using hc
      rw [← e2]; exact hbD⟩
    have x4 := at_set (y := { ({ x with od := false, ow := 0, ct := 0 } : RL) with v := .slice (if cp = 1 then some (⟨b, o, none⟩ : Addr) else some ⟨b, o + 1, none⟩) rl (cp - 1), q := r }) HX3.out
    have HM4 := Lib.hid m4
    have HX4 := Lib.hid x4
    have HC4 := Lib.hid (HC3.out.trans (HM3.out.chL e3 (i := i * 7 + 6) (.slice (if cp = 1 then some (⟨b, o, none⟩ : Addr) else some ⟨b, o + 1, none⟩) rl (cp - 1))))
    have HQR := Lib.hid hqr
    clear q3 hv4 hvD hqr hq m4 x4 HX3 hrl ev e3 fr
    unfold maxLen at hv2
    go_upto_region 5 with fail
    generalize (if cp = 1 then some (⟨b, o, none⟩ : Addr) else some ⟨b, o + 1, none⟩) = av at *
    generalize w3.setCell ⟨g, i * 7 + 6, none⟩ (.slice av rl (cp - 1)) = w4 at *
    obtain ⟨M4, hM4⟩ : ∃ M4, M3.set i { ({ x with od := false, ow := 0, ct := 0 } : RL) with v := .slice av rl (cp - 1), q := r } = M4 := ⟨_, rfl⟩
    have HLM4 : Hid (M4.length = M.length) := by show _ = _; rw [← hM4, List.length_set]; exact HLM.out
    have HM4e : Hid (∀ z, M4.set i z = M.set i z) := fun z => by rw [← hM4, List.set_set, ← HMM.out, List.set_set]
    have e4 : vl = .slice (some ⟨g, 0, none⟩) M4.length cap := by rw [HLM4.out]; exact HE.out
    rw [hM4] at HM4 HX4
    have m5 := HM4.out.sOd e4 HX4.out true
    have x5 := at_set (y := { ({ ({ x with od := false, ow := 0, ct := 0 } : RL) with v := .slice av rl (cp - 1), q := r } : RL) with od := true }) HX4.out
    have e5 : vl = .slice (some ⟨g, 0, none⟩) (M4.set i { ({ ({ x with od := false, ow := 0, ct := 0 } : RL) with v := .slice av rl (cp - 1), q := r } : RL) with od := true }).length cap := by rw [List.length_set]; exact e4
    have m6 := m5.sOw e5 x5 a
    have x6 := at_set (y := { ({ ({ ({ x with od := false, ow := 0, ct := 0 } : RL) with v := .slice av rl (cp - 1), q := r } : RL) with od := true } : RL) with ow := a }) x5
    rw [List.set_set] at m6 x6
    have e6 : vl = .slice (some ⟨g, 0, none⟩) (M4.set i { ({ ({ ({ x with od := false, ow := 0, ct := 0 } : RL) with v := .slice av rl (cp - 1), q := r } : RL) with od := true } : RL) with ow := a }).length cap := by rw [List.length_set]; exact e4
    have m7 := m6.sCt e6 x6 1
    rw [List.set_set, HM4e.out] at m7
    have HC7 : Hid (Ch D w4 _) := ((HM4.out.chL e4 _).trans (m5.chL e5 _)).trans (m6.chL e6 (i := i * 7 + 5) (.int .i64 1))
    have HM7 := Lib.hid m7
    obtain ⟨g', cap', e, _, _, _, _, _, _, _, k3, k4, k5, k6, fr⟩ := HM4.out.gl HX4.out
    rw [e4] at e
    obtain ⟨e1, _, e3⟩ := sl_inj e
    subst e1 e3
    have f3 := fr (i * 7 + 3)
    have f4 := fr (i * 7 + 4)
    have f5 := fr (i * 7 + 5)
    clear e m5 m6 m7 x5 x6 e4 e5 e6 hM4 fr k6 HM3 HX4
    go_upto_region 6 with fail
    generalize ((w4.setCell ⟨g, i * 7 + 3, none⟩ (.bool true)).setCell ⟨g, i * 7 + 4, none⟩ (.int .i64 a)).setCell ⟨g, i * 7 + 5, none⟩ (.int .i64 1) = w7 at *
    have HTH := Lib.hid (rthread_any HM7.out (by have := HN.out.2; omega) a)
    clear k3 k4 k5 f3 f4 f5
    go_wp2_with fail
    refine HTH.out.mono ?_
    rintro e w8 ⟨gw, cw, iw, y, D', rfl, hy, hya, hm8, hc8, hD8⟩
    obtain ⟨gw', cw', ew, _, _, _, _, t0, t1, _, _, _, frw⟩ := hm8.gt hy
    obtain ⟨e1, _, e3⟩ := sl_inj ew
    subst e1 e3
    have ft := frw (iw * 5 + 1)
    have m9 := hm8.tSt rfl hy 1
    have HM9 := Lib.hid m9
    have HC9 : Hid (Ch D w _) := ((HC4.out.trans HC7.out).trans hc8).andThen (hm8.chT rfl (i := iw * 5 + 1) (.int .i64 1)) (fun k hk hk2 => by
      rcases hD8 k hk with h1 | h1
      · exact h1
      · have h2 := (HC4.out.trans HC7.out).size
        omega)
    have HY : Hid ((thrW W a)[iw]? = some y ∧ y.th = a) := ⟨hy, hya⟩
    have HD : Hid (∀ k, D' k → D k ∨ (w.heap.size ≤ k ∧ k < w8.heap.size)) := fun k hk => by
      rcases hD8 k hk with h1 | ⟨h1, h2⟩
      · exact .inl h1
      · have h3 := (HC4.out.trans HC7.out).size
        exact .inr ⟨by omega, h2⟩
    clear ew frw hm8 hc8 hD8 hy hya m9 HTH
    go_wp2_with fail
    go_end0
    have hE : passS s x = (s.setO x.id (some ⟨x.mx, x.lv, a, 1, r⟩)).upT a fun t => { t with st := 1 } := by unfold passS; rw [HQR.out]
    rw [hE]
    have hro : RO (M.set i { id := x.id, mx := x.mx, lv := x.lv, od := true, ow := a, ct := 1, q := r, v := .slice av rl (cp - 1) }) ((s.setO x.id (some ⟨x.mx, x.lv, a, 1, r⟩)).upT a fun t => { t with st := 1 }) :=
      (HO.out { id := x.id, mx := x.mx, lv := x.lv, od := true, ow := a, ct := 1, q := r, v := .slice av rl (cp - 1) } rfl (by rw [HMX.out]; rfl)).congr rfl
    have hrh : RH ((thrW W a).set iw { y with st := 1 }) ((s.setO x.id (some ⟨x.mx, x.lv, a, 1, r⟩)).upT a fun t => { t with st := 1 }) := by
      refine ((HH.out.thr a).setO x.id (some ⟨x.mx, x.lv, a, 1, r⟩)).set HY.out.1 rfl ?_ ?_ (fun h => by cases h)
      · intro t ht
        rw [stT_upT, if_neg (by rw [← HY.out.2]; exact ht)]
      · rw [stT_upT, if_pos HY.out.2]
    have hl1 : (M.set i { id := x.id, mx := x.mx, lv := x.lv, od := true, ow := a, ct := 1, q := r, v := .slice av rl (cp - 1) }).length ≤ n + 1 := by rw [List.length_set]; have := HN.out.1; omega
    have hl2 : ((thrW W a).set iw { y with st := 1 }).length ≤ n + 1 := by rw [List.length_set]; have := thr_len W a; have := HN.out.2; omega
    exact ⟨rfl, D', RK.mk' HM9.out hl1 hl2 hro hrh, HC9.out, fun k hk => by simpa using HD.out k hk⟩
end
end Go.Proofs.Ytefgfmnnaglfmaa
namespace Go.Proofs.Ytefgfmnnaglfmaa
open Go.RowKit
section
variable {w : World} {D : Nat → Prop} {X n : Nat} {s : LK}
set_option maxRecDepth 100000 in
set_option maxHeartbeats 4000000 in
theorem rsignal_any (h : RK w D X n s) (hI : SI s) (hn : n ≤ 100000) (id : Int) :
    Calls Try.prog 46 #[ptr X, .int .i64 id] w fun e w' => e = .returned (.int .i64 (sigS s id).1) ∧ RP w D X (n + 1) (sigS s id).2 w' := by
  have HI := Lib.hid hI
  clear hI
  have P0 := Lib.hid (RP.same h (show n ≤ n + 1 by omega))
  obtain ⟨vl, vw, M, W, h1, h2, h3, h4, h5⟩ := h
  have HF := Lib.hid (rfind_any h1 (by omega) id)
  have H := Lib.hid h1
  have HO := Lib.hid h4
  have HH := Lib.hid h5
  have HN : Hid (M.length ≤ n ∧ W.length ≤ n) := ⟨h2, h3⟩
  have c0 := h1.c0
  obtain ⟨al, cap, e, hc1, hc2⟩ := h1.fl
  obtain ⟨L, hL⟩ : ∃ L, M.length = L := ⟨_, rfl⟩
  rw [hL] at h2 hc1 e
  rw [e] at c0
  have HE := Lib.hid e
  have HL := Lib.hid hL
  unfold maxLen at hc2
  clear h1 h4 h5 h3 e hL
  go_enter Try.func46, Try.ntmps46
  go_wp2_with fail
  refine HF.out.mono ?_
  rintro e w' ⟨rfl, ⟨i, x, hx, he, rfl⟩ | ⟨rfl, hno⟩⟩
  · obtain ⟨g, cp, e, _, _, hgl, hgD, d0, d1, d2, d3, d4, d5, d6, fr⟩ := H.out.gl hx
    rw [HE.out, HL.out] at e
    injection e with e1 e2 e3
    subst e1 e3
    have hil : i < L := by rw [← HL.out]; exact (List.getElem?_eq_some_iff.1 hx).1
    have hod := HO.out.od hx
    have HS : Hid (s.o id = some x.ob) := by show _ = _; rw [← he]; exact HO.out.at hx
    have hi0 : ¬ (i : Int) < 0 := by omega
    have HX := Lib.hid hx
    have HID := Lib.hid he
    have HEV : Hid (vl = .slice (some ⟨g, 0, none⟩) M.length cap) := by show _ = _; rw [HE.out, HL.out]
    obtain ⟨mx, hmx⟩ : ∃ b, x.mx = b := ⟨_, rfl⟩
    rw [hmx] at d1
    have HMX : Hid (x.mx = mx) := hmx
    have HOD : Hid (x.od = (mx && decide (0 < x.ct))) := by show _ = _; rw [hod, hmx]
    have q0 := H.out.qv hx
    clear hx he HF hod hmx
    cases mx
    · by_cases hq : x.q = []
      · have HSG : Hid (sigS s id = if 255 ≤ x.ct then (11, s) else (0, s.setO id (some { x.ob with ct := x.ct + 1 }))) := by
          show _ = _
          unfold sigS
          rw [HS.out]
          simp only [show x.ob.mx = false from HMX.out, show x.ob.q = [] from hq]
          rfl
        obtain ⟨a, cq, ev, _, _, _, _⟩ := q0.1
        have ev2 : x.v = .slice a 0 cq := by rw [ev, hq]; rfl
        rw [ev2] at d6
        have hct := HI.out.ct id x.ob HS.out
        have hct2 : 0 ≤ x.ct ∧ x.ct ≤ 255 := hct
        have f5 := fr (i * 7 + 5)
        have HM2 := Lib.hid (H.out.sCt HEV.out HX.out (x.ct + 1))
        clear q0 ev ev2 fr hct hq
        by_cases hb : 255 ≤ x.ct
        · have hb2 : x.ct ≥ 255 := hb
          rw [if_pos hb] at HSG
          go_wp2_with fail
          go_ret
          rw [HSG.out]
          exact ⟨rfl, P0.out⟩
        · have hb2 : ¬ x.ct ≥ 255 := hb
          have hcw : IntKind.i64.wrap (x.ct + 1) = x.ct + 1 := IntWalk.i64_in _ ⟨by omega, by omega⟩
          rw [if_neg hb] at HSG
          go_wp2_with fail
          go_ret
          rw [HSG.out]
          have hro : RO (M.set i { x with ct := x.ct + 1 }) (s.setO id (some { x.ob with ct := x.ct + 1 })) := HO.out.set HX.out rfl (by show x.od = (x.mx && _); rw [HOD.out, HMX.out]; rfl) (by rw [HID.out]; rfl)
          exact ⟨rfl, RP.of (RK.mk' HM2.out (by rw [List.length_set]; have := HN.out.1; omega) (by have := HN.out.2; omega) hro (HH.out.setO _ _)) (H.out.chL HEV.out _)⟩
      · obtain ⟨a, r, hqr⟩ : ∃ a r, x.q = a :: r := by
          rcases hq' : x.q with _ | ⟨a, r⟩
          · exact absurd hq' hq
          · exact ⟨a, r, rfl⟩
        have HSG : Hid (sigS s id = (0, (s.setO id (some { x.ob with q := r })).upT a fun t => { t with st := 1 })) := by
          show _ = _
          unfold sigS
          rw [HS.out]
          simp only [show x.ob.mx = false from HMX.out, show x.ob.q = a :: r from hqr]
          rfl
        obtain ⟨⟨b, o, cq, ev, hv1, hv2, hv3, hv4⟩, hvD⟩ : (∃ b o cap, x.v = .slice (some ⟨b, o, none⟩) (r.length + 1) cap ∧ r.length + 1 ≤ cap ∧ cap ≤ maxLen ∧ w.cell? ⟨b, o, none⟩ = some (.int .i64 a) ∧ QV w (.slice (if cap = 1 then some (⟨b, o, none⟩ : Addr) else some ⟨b, o + 1, none⟩) r.length (cap - 1)) r) ∧ ∀ b, x.v.ownBlock = some b → D b := by
          have h9 := q0.1
          rw [hqr] at h9
          exact ⟨h9.tail, q0.2⟩
        have hbD : D b := hvD b (by rw [ev]; rfl)
        rw [ev] at d6
        obtain ⟨rl, hrl⟩ : ∃ n, r.length = n := ⟨_, rfl⟩
        rw [hrl] at d6 hv1 hv4
        have f6 := fr (i * 7 + 6)
        have hrp : (rl : Int) + 1 > 0 := by omega
        have m4 := H.out.sQu (v := .slice (if cq = 1 then some (⟨b, o, none⟩ : Addr) else some ⟨b, o + 1, none⟩) rl (cq - 1)) (q := r) HEV.out HX.out ⟨hv4, fun c hc => by
          have e2 : b = c := by
            by_cases h9 : cq = 1
            · rw [if_pos h9] at hc; simpa [Value.ownBlock] using hc
            · rw [if_neg h9] at hc; simpa [Value.ownBlock] using hc
          rw [← e2]; exact hbD⟩
        have HM4 := Lib.hid m4
        have HC4 := Lib.hid (H.out.chL HEV.out (i := i * 7 + 6) (.slice (if cq = 1 then some (⟨b, o, none⟩ : Addr) else some ⟨b, o + 1, none⟩) rl (cq - 1)))
        clear q0 hv4 hvD hqr hq m4 hrl ev fr
        unfold maxLen at hv2
        go_upto_region 9 with fail
        generalize (if cq = 1 then some (⟨b, o, none⟩ : Addr) else some ⟨b, o + 1, none⟩) = av at *
        generalize w.setCell ⟨g, i * 7 + 6, none⟩ (.slice av rl (cq - 1)) = w4 at *
        have HTH := Lib.hid (rthread_any HM4.out (by have := HN.out.2; omega) a)
        clear d0 d1 d2 d3 d4 d5 d6 f6
        go_wp2_with fail
        refine HTH.out.mono ?_
        rintro e w8 ⟨gw, cw, iw, y, D', rfl, hy, hya, hm8, hc8, hD8⟩
        obtain ⟨gw', cw', ew, _, _, _, _, t0, t1, _, _, _, frw⟩ := hm8.gt hy
        obtain ⟨e1, _, e3⟩ := sl_inj ew
        subst e1 e3
        have ft := frw (iw * 5 + 1)
        have HM9 := Lib.hid (hm8.tSt rfl hy 1)
        have hs4 := HC4.out.size
        have HC9 : Hid (Ch D w _) := (HC4.out.trans hc8).andThen (hm8.chT rfl (i := iw * 5 + 1) (.int .i64 1)) (fun k hk hk2 => by
          rcases hD8 k hk with h1 | h1
          · exact h1
          · omega)
        have HY : Hid ((thrW W a)[iw]? = some y ∧ y.th = a) := ⟨hy, hya⟩
        have HD : Hid (∀ k, D' k → D k ∨ (w.heap.size ≤ k ∧ k < w8.heap.size)) := fun k hk => by
          rcases hD8 k hk with h1 | ⟨h1, h2⟩
          · exact .inl h1
          · exact .inr ⟨by omega, h2⟩
        clear ew frw hm8 hc8 hD8 hy hya HTH hs4
        go_wp2_with fail
        go_ret
        rw [HSG.out]
        have hro : RO (M.set i { x with v := .slice av rl (cq - 1), q := r }) ((s.setO id (some { x.ob with q := r })).upT a fun t => { t with st := 1 }) := HO.out.set HX.out rfl (by show x.od = (x.mx && decide (0 < x.ct)); rw [HOD.out, HMX.out]) (by rw [HID.out]; rfl)
        have hrh : RH ((thrW W a).set iw { y with st := 1 }) ((s.setO id (some { x.ob with q := r })).upT a fun t => { t with st := 1 }) := by
          refine ((HH.out.thr a).setO id (some { x.ob with q := r })).set HY.out.1 rfl ?_ ?_ (fun h => by cases h)
          · intro t ht
            rw [stT_upT, if_neg (by rw [← HY.out.2]; exact ht)]
          · rw [stT_upT, if_pos HY.out.2]
        have hl1 : (M.set i { x with v := .slice av rl (cq - 1), q := r }).length ≤ n + 1 := by rw [List.length_set]; have := HN.out.1; omega
        have hl2 : ((thrW W a).set iw { y with st := 1 }).length ≤ n + 1 := by rw [List.length_set]; have := thr_len W a; have := HN.out.2; omega
        exact ⟨rfl, D', RK.mk' HM9.out hl1 hl2 hro hrh, HC9.out, fun k hk => by simpa using HD.out k hk⟩
    · clear q0 fr
      go_wp2_with fail
      go_ret
      have hE : sigS s id = (6, s) := by
        unfold sigS
        rw [HS.out]
        simp only [show x.ob.mx = true from HMX.out]
        rfl
      rw [hE]
      exact ⟨rfl, P0.out⟩
  · have HS : Hid (s.o id = none) := HO.out.no hno
    clear hno HF
    go_wp2_with fail
    go_ret
    have hE : sigS s id = (6, s) := by unfold sigS; rw [HS.out]
    rw [hE]
    exact ⟨rfl, P0.out⟩
end
end Go.Proofs.Ytefgfmnnaglfmaa
