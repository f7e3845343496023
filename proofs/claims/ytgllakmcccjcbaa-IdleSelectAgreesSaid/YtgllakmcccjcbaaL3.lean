/- The walk of IdleSelectAgrees: it returns true and writes nothing that was there. No condition. -/
import Derived.Test.YtgllakmcccjcbaaH
import Derived.Deep.RegionWith
namespace Go.Proofs.Ytgllakmcccjcbaa
open Go.RowKit

def SePost (v r : Int) (w : World) (e : Ending) (w' : World) : Prop := e = .returned (.tuple #[.int .i64 v, .int .i64 r]) ∧ Below w.heap.size w w'
def CkPost (r : Int) (w : World) (e : Ending) (w' : World) : Prop := e = .returned (.int .i64 r) ∧ Below w.heap.size w w'

theorem select_both (A : Option Addr) (n c : Nat) (x y : Int) (f : Nat → S) (hn : n ≤ 9223372036854775807) :
    ∃ v r : Int, (∀ w, Sl w w.heap.size A n f → Calls Try.prog 16 #[.slice A n c, .int .u64 x, .int .u64 y] w (SePost v r w)) ∧
      ∀ w, Sl w w.heap.size A n f → Calls Try.prog 17 #[.slice A n c, .int .u64 x, .int .u64 y] w (SePost v r w) := by
  by_cases hv : Valid f n
  · exact ⟨sel f x y n, 0, fun w hs => select_yes A n c x y w f hn hs hv, fun w hs => refselect_yes A n c x y w f hn hs hv⟩
  · exact ⟨0, 1, fun w hs => select_no A n c x y w f hn hs hv, fun w hs => refselect_no A n c x y w f hn hs hv⟩
theorem check_both (A : Option Addr) (n c : Nat) (f : Nat → S) (hn : n ≤ 9223372036854775807) :
    ∃ r : Int, (∀ w, Sl w w.heap.size A n f → Calls Try.prog 18 #[.slice A n c] w (CkPost r w)) ∧
      ∀ w, Sl w w.heap.size A n f → Calls Try.prog 19 #[.slice A n c] w (CkPost r w) := by
  by_cases hv : Valid f n
  · exact ⟨0, fun w hs => check_yes A n c w f hn hs hv, fun w hs => refcheck_yes A n c w f hn hs hv⟩
  · exact ⟨1, fun w hs => check_no A n c w f hn hs hv, fun w hs => refcheck_no A n c w f hn hs hv⟩

def cS (g : Nat → S) (j : Nat) : Value := .int .u64 (if j % 3 = 0 then (g (j / 3)).l else if j % 3 = 1 then (g (j / 3)).r else (g (j / 3)).p)
def cells (g : Nat → S) (n : Nat) : List Value := (List.range (n * 3)).map (cS g)

theorem cS0 (g : Nat → S) (i : Nat) : cS g (i * 3) = .int .u64 (g i).l := by
  unfold cS; rw [if_pos (by omega), show i * 3 / 3 = i by omega]
theorem cS1 (g : Nat → S) (i : Nat) : cS g (i * 3 + 1) = .int .u64 (g i).r := by
  unfold cS; rw [if_neg (by omega), if_pos (by omega), show (i * 3 + 1) / 3 = i by omega]
theorem cS2 (g : Nat → S) (i : Nat) : cS g (i * 3 + 2) = .int .u64 (g i).p := by
  unfold cS; rw [if_neg (by omega), if_neg (by omega), show (i * 3 + 2) / 3 = i by omega]

theorem own_of_row {w : World} {base n : Nat} {v : Value} {g : Nat → S} (h : w.ownsRow base 25 3 v n (cells g n)) (hn : 1 ≤ n) :
    ∃ B cap, v = .slice (some ⟨B, 0, none⟩) n cap ∧ base ≤ B ∧ Own w B n g := by
  obtain ⟨_, ⟨_, h0⟩ | ⟨B, cap, cur, hv, hb, hh, _, _, hsz, ht⟩⟩ := h
  · omega
  · refine ⟨B, cap, hv, hb, cur, hh, fun i hi => ?_⟩
    have key : ∀ j, j < n * 3 → cur[j]? = some (cS g j) := by
      intro j hj
      have h1 : (cur.toList.take (n * 3))[j]? = (cells g n)[j]? := by rw [ht]
      rw [List.getElem?_take_of_lt hj] at h1
      rw [← Array.getElem?_toList, h1]
      simp [cells, hj]
    exact ⟨by rw [key _ (by omega), cS0], by rw [key _ (by omega), cS1], by rw [key _ (by omega), cS2]⟩

theorem cells_at {w : World} {B n : Nat} {g : Nat → S} (h : Own w B n g) : ∀ j u, (cells g n)[j]? = some u → w.cell? ((⟨B, 0, none⟩ : Addr).add j) = some u := by
  intro j u hu
  have hj : j < n * 3 := by
    have := (List.getElem?_eq_some_iff.1 hu).1
    simpa [cells] using this
  have hu' : cS g j = u := by simpa [cells, hj] using hu
  obtain ⟨cs, hh, hc⟩ := h
  have hadd : (⟨B, 0, none⟩ : Addr).add j = ⟨B, j, none⟩ := by unfold Addr.add; split <;> simp_all
  rw [hadd, cell_of_row w B _ cs 25 (0, 0) hh, ← hu']
  obtain ⟨c0, c1, c2⟩ := hc (j / 3) (by omega)
  have h3 : j = j / 3 * 3 ∨ j = j / 3 * 3 + 1 ∨ j = j / 3 * 3 + 2 := by omega
  rcases h3 with e | e | e
  · rw [e, cS0, c0]
  · rw [e, cS1, c1]
  · rw [e, cS2, c2]

theorem cells_one (g : Nat → S) (n : Nat) : ∀ u ∈ cells g n, u.oneCell' = true := by
  intro u hu
  simp only [cells, List.mem_map] at hu
  obtain ⟨j, _, rfl⟩ := hu
  rfl
theorem cells_len (g : Nat → S) (n : Nat) : (cells g n).length = n * 3 := by simp [cells]

theorem three_sets {w : World} {B n k : Nat} {g : Nat → S} (s : S) (h : Own w B n g) (hk : k < n) :
    Own (((w.setCell ⟨B, k * 3, none⟩ (.int .u64 s.l)).setCell ⟨B, k * 3 + 1, none⟩ (.int .u64 s.r)).setCell ⟨B, k * 3 + 2, none⟩ (.int .u64 s.p)).drew B n (fun i => if i = k then s else g i) := by
  obtain ⟨cs, hh, hc⟩ := h
  refine ⟨_, heap_set (heap_set (heap_set hh _) _) _, fun i hi => ?_⟩
  obtain ⟨c0, c1, c2⟩ := hc i hi
  have hs := (Array.getElem?_eq_some_iff.1 (hc k hk).2.2).1
  by_cases e : i = k
  · subst e
    simp only [if_true]
    refine ⟨?_, ?_, ?_⟩
    · rw [set_miss (by omega), set_miss (by omega), set_hit (by omega)]
    · rw [set_miss (by omega), set_hit (by simp; omega)]
    · rw [set_hit (by simp; omega)]
  · simp only [if_neg e]
    refine ⟨?_, ?_, ?_⟩
    · rw [set_miss (by omega), set_miss (by omega), set_miss (by omega), c0]
    · rw [set_miss (by omega), set_miss (by omega), set_miss (by omega), c1]
    · rw [set_miss (by omega), set_miss (by omega), set_miss (by omega), c2]

theorem Own.slw {w : World} {B n : Nat} {g : Nat → S} (h : Own w B n g) (hs : ∀ i, i < n → (g i).wf) : Sl w w.heap.size (some ⟨B, 0, none⟩) n g := by
  refine ⟨hs, fun hn => ⟨B, 0, rfl, (h.at_ hn).1, fun i hi => ?_⟩⟩
  obtain ⟨_, ⟨c0, c1, c2⟩, _⟩ := h.at_ hi
  simp only [Nat.zero_add]
  exact ⟨c0, c1, c2⟩

theorem Small.wf {f : Nat → S} {n : Nat} (h : Small f n) (i : Nat) (hi : i < n) : (f i).wf := by
  have := h.2.2 i hi
  unfold S.wf; omega

theorem idx (k : Nat) (hk : k < 3) (x0 x1 x2 x : Value) (h : x = match k with | 0 => x0 | 1 => x1 | _ => x2) : ∀ w, (Instr.index 29 (.agg #[x0, x1, x2]) (.int .i64 (k : Int))).run Try.prog w = .ok x w := by
  subst h
  match k, hk with
  | 0, _ => exact fun _ => by kernel_rfl
  | 1, _ => exact fun _ => by kernel_rfl
  | 2, _ => exact fun _ => by kernel_rfl

set_option maxRecDepth 100000 in
set_option maxHeartbeats 1000000 in
theorem selectagrees_walk (A : Option Addr) (len c : Nat) (x y v : Int) (s : S) (w : World) (f : Nat → S) (hn : len ≤ 9223372036854775807) (hsl : Sl w w.heap.size A len f)
    (hx : 0 ≤ x ∧ x ≤ 18446744073709551615) (hy : 0 ≤ y ∧ y ≤ 18446744073709551615) (_hv0 : -9223372036854775808 ≤ v ∧ v ≤ 9223372036854775807) (hs : s.wf) :
    Calls Try.prog 3 #[.slice A len c, .int .u64 x, .int .u64 y, .int .i64 v, .agg #[.int .u64 s.l, .int .u64 s.r, .int .u64 s.p]] w fun e w' => e = .returned (.bool true) ∧ Below w.heap.size w w' := by
  have hb0 : Below w.heap.size w (w.alloc (.cells #[.int .u64 s.l, .int .u64 s.r, .int .u64 s.p] 25)) := (Below.refl _ _).alloc (Nat.le_refl _) _
  have HS := Lib.hid (hsl.next hb0)
  have hcS0 : (w.alloc (.cells #[.int .u64 s.l, .int .u64 s.r, .int .u64 s.p] 25)).heap[w.heap.size]? = some (.cells #[.int .u64 s.l, .int .u64 s.r, .int .u64 s.p] 25 (0, 0)) := heap_alloc_new w _
  have HB0 := Lib.hid hcS0
  obtain ⟨hx, hx2⟩ := hx
  obtain ⟨hy, hy2⟩ := hy
  clear hsl hcS0
  by_cases h20 : 20 < len
  · have d1 : decide ((20 : Int) < (len : Int)) = true := by simp; omega
    go_enter Try.func3, Try.ntmps3
    go_wp2_with (go_at_call 13; refine (awake_any _).mono ?_; rintro e w1 ⟨rfl, hb1⟩)
    go_ret
    exact ⟨rfl, bthen hb0 hb1⟩
  have d1 : decide ((20 : Int) < (len : Int)) = false := by simp; omega
  obtain ⟨i0, hi, hz0, hz1, hz2⟩ := info_parts Try.info25
  go_enter Try.func3, Try.ntmps3
  go_wp2_with fail
  refine (states_any _ _ _ _ _ hn HS.out).mono ?_
  rintro e w1 ⟨n, g, hnl, hsm, hv, rfl, hown, hb1⟩
  have HM := Lib.hid hsm
  have HO := Lib.hid hown
  have hn1 := hsm.1
  have hn7 := hsm.2.1
  clear hv hsm hown hnl
  have H1 := Lib.hid (HS.out.next hb1)
  have hs0 : (w.alloc (.cells #[.int .u64 s.l, .int .u64 s.r, .int .u64 s.p] 25)).heap.size = w.heap.size + 1 := by simp
  have HB1 := Lib.hid ((hb1.block w.heap.size (by simp)).trans HB0.out)
  rw [hs0] at HO hb1
  have hrow : (w1.alloc (.cells #[] 25)).ownsRow w1.heap.size 25 3 (.slice (some ⟨w1.heap.size, 0, none⟩) 0 0) 0 [] := ⟨rfl, .inr ⟨w1.heap.size, 0, #[], rfl, Nat.le_refl _, heap_alloc_new w1 _, by omega, by decide, rfl, rfl⟩⟩
  have HR := Lib.hid hrow
  have HN := Lib.hid (fun j u hu => (World.cell?_alloc_lt w1 (.cells #[] 25) _ (World.block_lt_of_cell? w1 _ (cells_at HO.out j u hu))).trans (cells_at HO.out j u hu))
  have hb2 : Below w1.heap.size w1 (w1.alloc (.cells #[] 25)) := (Below.refl _ _).alloc (Nat.le_refl _) _
  clear hrow hs0
  go_upto_region 5 with (at_builtin; refine wpList_append_own _ rfl _ _ 22 rfl w1.heap.size 25 i0 _ 3 24 Try.underlying22 hi hz0 hz1 hz2 rfl (by decide) _ 0 [] rfl HR.out ⟨w.heap.size + 1, 0, none⟩ n n (cells g n) rfl (cells_len g n) HN.out (cells_one g n) ?c3 ?c4 ?c5 ?_)
  case c3 => unfold maxLen; omega
  case c4 => omega
  case c5 => simp
  intro v' w2 hown2 hgrow2 _
  obtain ⟨B, cap, rfl, hBb, hO2⟩ := own_of_row hown2 hn1
  have hb3 : Below w1.heap.size w1 w2 := hb2.grown hgrow2 (by simp) (fun k hk => by simp [Value.ownBlock] at hk; omega)
  have HO2 := Lib.hid hO2
  have HB2 := Lib.hid ((hb3.block w.heap.size (by have := hb1.size; simp at this; omega)).trans HB1.out)
  clear hown2 hgrow2 hb2 hO2 hi hz0 hz1 hz2
  obtain ⟨k, hk, hmod⟩ : ∃ k : Nat, k < n ∧ ∀ W : World, Calls Try.prog 15 #[.int .i64 v, .int .i64 (n : Int)] W fun e w' => e = .returned (.int .i64 (k : Int)) ∧ W = w' := by
    have m1 := md_lo v n (by omega)
    have m2 := md_hi v n (by omega)
    obtain ⟨k, hk⟩ := Int.eq_ofNat_of_zero_le m1
    exact ⟨k, by omega, fun W => (mod_any v n W (by omega) (by omega)).mono fun e w' h => by rw [hk] at h; exact h⟩
  have HMD := Lib.hid hmod
  clear hmod
  go_upto_region 5 with fail
  go_cut [] (fun wx => ∃ g3 : Nat → S, Own wx B n g3 ∧ (∀ i, i < n → (g3 i).wf) ∧ Below w1.heap.size w1 wx)
  case first =>
    obtain ⟨hBw, ⟨q0, q1, q2⟩, f0, f1, f2⟩ := HO2.out.at_ hk
    have hb0' : w.heap.size < w2.heap.size := heap_lt HB2.out
    have z0 : w2.cell? ⟨w.heap.size, 0, none⟩ = some (.int .u64 s.l) := by rw [cell_of_row w2 _ _ _ 25 (0, 0) HB2.out]; rfl
    have z1 : w2.cell? ⟨w.heap.size, 1, none⟩ = some (.int .u64 s.r) := by rw [cell_of_row w2 _ _ _ 25 (0, 0) HB2.out]; rfl
    have z2 : w2.cell? ⟨w.heap.size, 2, none⟩ = some (.int .u64 s.p) := by rw [cell_of_row w2 _ _ _ 25 (0, 0) HB2.out]; rfl
    have z2' : w2.cell? ⟨w.heap.size, 1 + 1, none⟩ = some (.int .u64 s.p) := z2
    have q2' : w2.cell? ⟨B, k * 3 + 1 + 1, none⟩ = some (.int .u64 (g k).p) := q2
    have f2' : w2.frozen? ⟨B, k * 3 + 1 + 1, none⟩ = false := f2
    go_region_with (go_at_call 15; refine (HMD.out _).mono ?_; rintro e w' ⟨rfl, rfl⟩)
    all_goals
      go_wp2_with fail
      go_meet
      exact ⟨_, three_sets s HO2.out hk, fun i hi => by split; exact hs; exact HM.out.wf i hi, (((hb3.setCell hBb _).setCell hBb _).setCell hBb _).drew⟩
  case rest =>
    obtain ⟨g3, hO3, hw3, hb4⟩ := hcut
    have hA : ∀ k : Nat, k < 3 → ∃ (A' : Option Addr) (n' c' : Nat) (f' : Nat → S), n' ≤ 9223372036854775807 ∧ Sl wc wc.heap.size A' n' f' ∧
        ∀ W, (Instr.index 29 (.agg #[.slice A len c, .slice (some ⟨w.heap.size + 1, 0, none⟩) n n, .slice (some ⟨B, 0, none⟩) n cap]) (.int .i64 (k : Int))).run Try.prog W = .ok (.slice A' n' c') W := by
      intro k hk
      match k, hk with
      | 0, hk => exact ⟨A, len, c, f, hn, H1.out.next hb4, idx 0 hk _ _ _ _ rfl⟩
      | 1, hk => exact ⟨_, n, n, g, by omega, (HO.out.slw HM.out.wf).next hb4, idx 1 hk _ _ _ _ rfl⟩
      | 2, hk => exact ⟨_, n, cap, g3, by omega, hO3.slw hw3, idx 2 hk _ _ _ _ rfl⟩
    have HA := Lib.hid hA
    clear hA hO3 hw3
    go_wp2_with fail
    go_loopw [43] (fun i wr => ∃ k : Nat, k ≤ 3 ∧ i = .int .i64 k ∧ Below wc.heap.size wc wr) (fun i _ => 3 - (intOf i).toNat)
    case atStart => exact ⟨0, by omega, rfl, Below.refl _ _⟩
    case round =>
      obtain ⟨k, hk, rfl, hbr⟩ := hrel
      by_cases hlt : k < 3
      · obtain ⟨A', n', c', f', hn', hS', hidx⟩ := HA.out k hlt
        have G0 := Lib.hid (hS'.next hbr)
        obtain ⟨v1, r1, p1, q1⟩ := select_both A' n' c' (x % 1500) (y % 300) f' hn'
        obtain ⟨v2, r2, p2, q2⟩ := select_both A' n' c' x y f' hn'
        obtain ⟨r3, p3, q3⟩ := check_both A' n' c' f' hn'
        have P1 := Lib.hid p1
        have P2 := Lib.hid p2
        have P3 := Lib.hid p3
        have Q1 := Lib.hid q1
        have Q2 := Lib.hid q2
        have Q3 := Lib.hid q3
        clear p1 p2 p3 q1 q2 q3 hS'
        have hlt' : (k : Int) < 3 := by omega
        go_wp2_with fail
        refine (P1.out _ G0.out).mono ?_
        rintro e w3 ⟨rfl, hb5⟩
        have G1 := Lib.hid (G0.out.next hb5)
        go_wp2_with fail
        refine (Q1.out _ G1.out).mono ?_
        rintro e w4 ⟨rfl, hb6⟩
        have G2 := Lib.hid (G1.out.next hb6)
        go_wp2_with fail
        refine (P2.out _ G2.out).mono ?_
        rintro e w5 ⟨rfl, hb7⟩
        have G3 := Lib.hid (G2.out.next hb7)
        go_wp2_with fail
        refine (Q2.out _ G3.out).mono ?_
        rintro e w6 ⟨rfl, hb8⟩
        have G4 := Lib.hid (G3.out.next hb8)
        go_wp2_with fail
        refine (P3.out _ G4.out).mono ?_
        rintro e w7 ⟨rfl, hb9⟩
        have G5 := Lib.hid (G4.out.next hb9)
        go_wp2_with fail
        refine (Q3.out _ G5.out).mono ?_
        rintro e w8 ⟨rfl, hb10⟩
        go_wp2_with fail
        go_roundw
        case rel => exact ⟨k + 1, by omega, by go_num, bthen (bthen (bthen (bthen (bthen (bthen hbr hb5) hb6) hb7) hb8) hb9) hb10⟩
        case measure => simp [intOf]; omega
      · have hlt' : ¬ (k : Int) < 3 := by omega
        go_wp2_with (go_at_call 13; refine (awake_any _).mono ?_; rintro e w3 ⟨rfl, hb5⟩)
        go_ret
        exact ⟨rfl, bthen (bthen (bthen (bthen hb0 (by simpa using hb1)) hb4) hbr) hb5⟩
end Go.Proofs.Ytgllakmcccjcbaa
