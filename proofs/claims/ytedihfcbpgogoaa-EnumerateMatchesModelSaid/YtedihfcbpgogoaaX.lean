/- Route's search: plain; its closure and slices.IndexFunc. No condition but that the rows lie in memory. -/
import Derived.Test.YtedihfcbpgogoaaW
namespace Go.Proofs.Ytedihfcbpgogoaa
open Go.RowKit
/-- Bridge k leads to the bus. -/
def mt (T : List Fn) (b : Nat → BN) (bus : Int) (k : Nat) : Bool := (fAt T k).br && decide ((b k).se ≤ bus) && decide (bus ≤ (b k).su)
def slot (T : List Fn) (s : Int) (k : Nat) : Bool := decide ((fAt T k).sl = s)
/-- From bridge p, whose secondary bus is at, the search ends with r. -/
inductive RtR (T : List Fn) (b : Nat → BN) (bus s : Int) : Int → Int → Option Nat → Prop
  | here {p : Int} {r : Option Nat} : (kids T p).find? (slot T s) = r → RtR T b bus s p bus r
  | no {p c : Int} : c ≠ bus → (∀ k ∈ kids T p, mt T b bus k = false) → RtR T b bus s p c none
  | go {p c : Int} {r : Option Nat} {k : Nat} : c ≠ bus → k ∈ kids T p → mt T b bus k = true → (∀ k' ∈ kids T p, mt T b bus k' = true → k' = k) → RtR T b bus s (k : Int) (b k).se r → RtR T b bus s p c r
theorem RtR.det {T : List Fn} {b : Nat → BN} {bus s p c : Int} {r r' : Option Nat} (h : RtR T b bus s p c r) (h' : RtR T b bus s p c r') : r = r' := by
  induction h generalizing r' with
  | here e =>
    cases h' with
    | here e' => rw [← e, ← e']
    | no hn => exact absurd rfl hn
    | go hn => exact absurd rfl hn
  | no hn hk =>
    cases h' with
    | here e' => exact absurd rfl hn
    | no => rfl
    | go _ hm ht => rw [hk _ hm] at ht; cases ht
  | go hn hm ht hu _ ih =>
    cases h' with
    | here e' => exact absurd rfl hn
    | no _ hk => rw [hk _ hm] at ht; cases ht
    | go _ hm' ht' _ hr =>
      have := hu _ hm' ht'
      subst this
      exact ih hr
theorem Asg.at {T : List Fn} {n : Nat} {b : Nat → BN} (h : Asg T n b) {k : Nat} (hk : k < T.length) : b k = (bus T).2 k := (h.2.2.2 k hk).symm
theorem Asg.num {T : List Fn} {n : Nat} {b : Nat → BN} (h : Asg T n b) : Num T (Dn T (-1)) 0 b0 (bus T).1 (bus T).2 := (num_spec h.1.vt (T.length + 1) (-1) 0 0 b0 (by omega) (by omega) (Int.le_refl _)).1
/-- At most one bridge on a bus leads to another bus. -/
theorem Asg.uni {T : List Fn} {n : Nat} {b : Nat → BN} (h : Asg T n b) {bus p : Int} {k k' : Nat} (hk : k ∈ kids T p) (hk' : k' ∈ kids T p) (hm : mt T b bus k = true) (hm' : mt T b bus k' = true) : k' = k := by
  have V := h.1.vt
  obtain ⟨a1, a2⟩ := (mem_kids V).1 hk
  obtain ⟨c1, c2⟩ := (mem_kids V).1 hk'
  unfold mt at hm hm'
  simp only [Bool.and_eq_true, decide_eq_true_eq] at hm hm'
  rw [h.at a1] at hm
  rw [h.at c1] at hm'
  refine Classical.byContradiction fun hne => ?_
  have nd : ∀ x y : Nat, x < T.length → y < T.length → (fAt T x).pa = (fAt T y).pa → x ≠ y → ¬ Dn T (x : Int) y := fun x y hx hy e hxy hd => hxy (Tr.apart V (.inr hd) (.inl rfl) hx hy e)
  have := h.num.dis k k' (dn_root V k a1) (dn_root V k' c1) hm.1.1 hm'.1.1 (fun e => hne e.symm) (nd k k' a1 c1 (by rw [a2, c2]) (fun e => hne e.symm)) (nd k' k c1 a1 (by rw [a2, c2]) hne)
  omega
set_option maxHeartbeats 1000000 in
theorem cls_any {w0 W : World} {a a' : Option Addr} {len cap cap' X4 X5 X6 : Nat} {T : List Fn} {b : Nat → BN} {bus : Int} (H : FnS w0 a len cap T) (hb : Below w0.heap.size w0 W) (hB : BS W a' len cap' b)
    (x4 : W.cell? ⟨X4, 0, none⟩ = some (.slice a len cap)) (x5 : W.cell? ⟨X5, 0, none⟩ = some (.slice a' len cap')) (x6 : W.cell? ⟨X6, 0, none⟩ = some (.int .i64 bus)) {k : Nat} (hk : k < len) :
    Calls Try.prog 32 #[.int .i64 (k : Int), .pointer (some ⟨X4, 0, none⟩), .pointer (some ⟨X5, 0, none⟩), .pointer (some ⟨X6, 0, none⟩)] W fun e w' => e = .returned (.bool (mt T b bus k)) ∧ ∃ q, w' = W.drewN q := by
  obtain ⟨bT, oT, rfl, hbT, _, _, hr⟩ := H.at hk
  have hcc := H.len.2.1
  have hcc' := hB.1
  have c4 : W.cell? ⟨bT, oT + k * 11 + 4, none⟩ = some (.bool (fAt T k).br) := (hb.cell (p := ⟨bT, oT + k * 11 + 4, none⟩) hbT).trans (rangeAt.cell hr (j := 4) rfl)
  obtain ⟨B, rfl, _, d0, d1, d2⟩ := hB.at hk
  have hkI : (k : Int) < len := by omega
  have HM : Hid (mt T b bus k = ((fAt T k).br && decide ((b k).se ≤ bus) && decide (bus ≤ (b k).su))) := rfl
  generalize mt T b bus k = M at *
  generalize (fAt T k).br = br at *
  generalize (b k).bu = p0 at *
  generalize (b k).se = p1 at *
  generalize (b k).su = p2 at *
  clear hr H hb hB
  cases br
  · go_enter Try.func32, Try.ntmps32
    go_wp2_with fail
    go_quiet (fail)
    go_wp2_with fail
    go_ret
    exact ⟨by rw [HM.out]; rfl, _, rfl⟩
  · by_cases h1 : p1 ≤ bus
    · have h1' : decide (p1 ≤ bus) = true := by simp [h1]
      by_cases h2 : bus ≤ p2
      · have h2' : decide (bus ≤ p2) = true := by simp [h2]
        go_enter Try.func32, Try.ntmps32
        go_wp2_with fail
        go_quiet (fail)
        go_wp2_with fail
        go_ret
        exact ⟨by rw [HM.out]; simp [h1, h2], _, rfl⟩
      · have h2' : decide (bus ≤ p2) = false := by simp; omega
        go_enter Try.func32, Try.ntmps32
        go_wp2_with fail
        go_quiet (fail)
        go_wp2_with fail
        go_ret
        exact ⟨by rw [HM.out]; simp; omega, _, rfl⟩
    · have h1' : decide (p1 ≤ bus) = false := by simp; omega
      go_enter Try.func32, Try.ntmps32
      go_wp2_with fail
      go_quiet (fail)
      go_wp2_with fail
      go_ret
      exact ⟨by rw [HM.out]; simp; omega, _, rfl⟩
def fx (o : Option Nat) : Int := match o with | none => -1 | some j => (j : Int)
theorem fi_some {α : Type} {l : List α} {p : α → Bool} {i : Nat} (h : i < l.length) (h1 : p l[i] = true) (h2 : ∀ j (hj : j < l.length), j < i → p l[j] = false) : l.findIdx? p = some i := by
  rw [List.findIdx?_eq_some_iff_getElem]
  exact ⟨h, h1, fun j hj => by simp [h2 j (by omega) hj]⟩
theorem toI_at {l : List Nat} {j : Nat} (hj : j < l.length) : (toI l).getD j 0 = (l[j] : Int) := by
  unfold toI
  rw [List.getD_eq_getElem?_getD, List.getElem?_map, List.getElem?_eq_getElem hj]
  rfl
set_option maxHeartbeats 1000000 in
theorem index_any {w0 W : World} {a a' : Option Addr} {len cap cap' X4 X5 X6 : Nat} {T : List Fn} {b : Nat → BN} {bus : Int} {v : Value} {ks : List Nat} (H : FnS w0 a len cap T) (hb : Below w0.heap.size w0 W) (hB : BS W a' len cap' b)
    (x4 : W.cell? ⟨X4, 0, none⟩ = some (.slice a len cap)) (x5 : W.cell? ⟨X5, 0, none⟩ = some (.slice a' len cap')) (x6 : W.cell? ⟨X6, 0, none⟩ = some (.int .i64 bus)) (hv : IR W v (toI ks)) (hks : ∀ k ∈ ks, k < len) (hl : ks.length ≤ 100000) :
    Calls Try.prog 30 #[v, .func (.func 32) #[] #[.pointer (some ⟨X4, 0, none⟩), .pointer (some ⟨X5, 0, none⟩), .pointer (some ⟨X6, 0, none⟩)]] W fun e w' => e = .returned (.int .i64 (fx (ks.findIdx? (mt T b bus)))) ∧ ∃ q, w' = W.drewN q := by
  have eg : ∀ args w, (callFunc 32 args).run Try.prog w = .ok (.enter 32 args) w := enters_of Try.func32 (by kernel_rfl) rfl
  obtain ⟨a1, cp, rfl, hcp, hf⟩ := hv.form
  have HC : Hid (∀ q k, k < len → Calls Try.prog 32 #[.int .i64 (k : Int), .pointer (some ⟨X4, 0, none⟩), .pointer (some ⟨X5, 0, none⟩), .pointer (some ⟨X6, 0, none⟩)] (W.drewN q) fun e w' => e = .returned (.bool (mt T b bus k)) ∧ ∃ q', w' = (W.drewN q).drewN q') := fun q k hk => cls_any (W := W.drewN q) H (bdN hb q) hB x4 x5 x6 hk
  have HF : Hid (∀ q j (hj : j < ks.length), ∃ g, a1 = some ⟨g, 0, none⟩ ∧ (W.drewN q).cell? ⟨g, j, none⟩ = some (.int .i64 (ks[j] : Int))) := fun q j hj => by
    obtain ⟨g, h1, _, h2⟩ := hf j (by rw [toI_len]; exact hj)
    rw [toI_at hj] at h2
    exact ⟨g, h1, h2⟩
  have HK := Lib.hid hks
  rw [toI_len] at hcp ⊢
  obtain ⟨n, hn⟩ : ∃ n, ks.length = n := ⟨_, rfl⟩
  have HN := Lib.hid hn
  rw [hn] at hcp hl ⊢
  clear hf hv hks hn H hb hB x4 x5 x6
  go_enter Try.func30, Try.ntmps30
  go_wp2_with fail
  go_loopw [5, 8] (fun _ z wr => ∃ i q : Nat, i ≤ n ∧ z = .int .i64 (i : Int) ∧ wr = W.drewN q ∧ Hid (∀ j (hj : j < ks.length), j < i → mt T b bus ks[j] = false)) (fun _ z _ => n - (intOf z).toNat)
  case atStart => exact ⟨0, 0, by omega, rfl, rfl, fun j _ hj => by omega⟩
  case round =>
    obtain ⟨i, q, hi, rfl, rfl, HI⟩ := hrel
    by_cases hin : i < n
    · have y1 : (i : Int) < n := by omega
      have hik : i < ks.length := by have := HN.out; omega
      obtain ⟨g, rfl, hc⟩ := HF.out q i hik
      have HC1 := Lib.hid (HC.out q ks[i] (HK.out _ (List.getElem_mem hik)))
      have HI2 : Hid (mt T b bus ks[i] = false → ∀ j (hj : j < ks.length), j < i + 1 → mt T b bus ks[j] = false) := fun h j hj hji => by
        rcases Nat.lt_succ_iff_lt_or_eq.1 hji with h1 | rfl
        · exact HI.out j hj h1
        · exact h
      have HS : Hid (mt T b bus ks[i] = true → ks.findIdx? (mt T b bus) = some i) := fun h => fi_some hik h HI.out
      generalize mt T b bus ks[i] = M at *
      generalize ks[i] = k at *
      go_wp2_with fail
      refine HC1.out.mono ?_
      rintro e w1 ⟨rfl, q', rfl⟩
      cases M
      · have h2 := Lib.hid (HI2.out rfl)
        clear HI2 HS
        go_wp2_with fail
        go_roundw
        case rel => exact ⟨i + 1, q + q', by omega, by go_num, by simp [World.drewN], h2⟩
        case measure => simp [intOf]; omega
      · have h2 := Lib.hid (HS.out rfl)
        clear HI2 HS
        go_wp2_with fail
        go_ret
        exact ⟨by rw [h2.out]; rfl, q + q', by simp [World.drewN]⟩
    · have y1 : ¬ (i : Int) < n := by omega
      have h2 : Hid (ks.findIdx? (mt T b bus) = none) := by
        show _ = none
        rw [List.findIdx?_eq_none_iff]
        intro x hx
        obtain ⟨j, hj, rfl⟩ := List.mem_iff_getElem.1 hx
        exact HI.out j hj (by have := HN.out; omega)
      go_wp2_with fail
      go_ret
      exact ⟨by rw [h2.out]; rfl, q, rfl⟩
end Go.Proofs.Ytedihfcbpgogoaa
