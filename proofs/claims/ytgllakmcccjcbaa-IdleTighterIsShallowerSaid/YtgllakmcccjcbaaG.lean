/- States: the list that it makes is valid and small. No condition. -/
import Derived.Test.YtgllakmcccjcbaaF
namespace Go.Proofs.Ytgllakmcccjcbaa
open Go.RowKit

/-- Powers fall from place k on; each is below p; latencies and residencies are 0. -/
def Inv1 (g : Nat → S) (n k : Nat) (p : Int) : Prop :=
  (∀ j, j < n → (g j).l = 0 ∧ (g j).r = 0) ∧ 0 ≤ p ∧ p ≤ 50 * ((n : Int) - k) ∧
  (∀ j, k ≤ j → j < n → 0 ≤ (g j).p ∧ (g j).p < p) ∧ ∀ j i, k ≤ j → j < i → i < n → (g i).p < (g j).p

theorem Inv1.step {g : Nat → S} {n k : Nat} {p v : Int} (h : Inv1 g n (k + 1) p) (hk : k < n) (h0 : p ≤ v) (h1 : v ≤ p + 49) :
    Inv1 (fun i => if i = k then ⟨(g k).l, (g k).r, v⟩ else g i) n k (v + 1) := by
  obtain ⟨a1, a2, a3, a4, a5⟩ := h
  refine ⟨fun j hj => ?_, by omega, by omega, fun j hj hn => ?_, fun j i hj hi hn => ?_⟩
  · by_cases e : j = k
    · subst e; simpa using a1 j hj
    · simpa [e] using a1 j hj
  · by_cases e : j = k
    · subst e; simp; omega
    · have := a4 j (by omega) hn; simp [e]; omega
  · have ei : ¬ i = k := by omega
    by_cases e : j = k
    · subst e; have := a4 i (by omega) hn; simp [ei]; omega
    · have := a5 j i (by omega) hi hn; simpa [e, ei] using this

/-- The first k states are finished, all powers fall. -/
def Inv2 (g : Nat → S) (n k : Nat) : Prop :=
  (∀ j, j < n → 0 ≤ (g j).p ∧ (g j).p ≤ 350) ∧ (∀ j i, j < i → i < n → (g i).p < (g j).p) ∧ (g 0).l = 0 ∧ (g 0).r = 0 ∧
  (∀ j, j < k → 0 ≤ (g j).l ∧ (g j).l ≤ 40 * j ∧ 0 ≤ (g j).r ∧ (g j).r ≤ 200 * j) ∧
  ∀ j, 0 < j → j < k → (g (j - 1)).l < (g j).l ∧ (g (j - 1)).r < (g j).r

theorem Inv1.inv2 {g : Nat → S} {n : Nat} {p : Int} (h : Inv1 g n 0 p) (hn : 1 ≤ n) (h7 : n ≤ 7) : Inv2 g n 1 := by
  obtain ⟨a1, a2, a3, a4, a5⟩ := h
  have a0 := a1 0 (by omega)
  refine ⟨fun j hj => ?_, fun j i hj hi => a5 j i (by omega) hj hi, a0.1, a0.2, fun j hj => ?_, fun j h0 hj => by omega⟩
  · have := a4 j (by omega) hj; omega
  · obtain rfl : j = 0 := by omega
    omega

theorem Inv2.step {g : Nat → S} {n k : Nat} {x y : Int} (h : Inv2 g n k) (h1 : 1 ≤ k)
    (hx0 : (g (k - 1)).l + 1 ≤ x) (hx1 : x ≤ (g (k - 1)).l + 40) (hy0 : (g (k - 1)).r + 1 ≤ y) (hy1 : y ≤ (g (k - 1)).r + 200) :
    Inv2 (fun i => if i = k then ⟨x, y, (g k).p⟩ else g i) n (k + 1) := by
  obtain ⟨a1, a2, a3, a4, a5, a6⟩ := h
  have a5' := a5 (k - 1) (by omega)
  have e0 : ¬ 0 = k := by omega
  refine ⟨fun j hj => ?_, fun j i hj hi => ?_, by simpa [e0] using a3, by simpa [e0] using a4, fun j hj => ?_, fun j h0 hj => ?_⟩
  · by_cases e : j = k
    · subst e; simpa using a1 j hj
    · simpa [e] using a1 j hj
  · have := a2 j i hj hi
    by_cases e : j = k
    · have ei : ¬ i = k := by omega
      subst e; simpa [ei] using this
    · by_cases ei : i = k
      · subst ei; simpa [e] using this
      · simpa [e, ei] using this
  · by_cases e : j = k
    · subst e; simp; omega
    · have := a5 j (by omega); simpa [e] using this
  · have ej : ¬ j - 1 = k := by omega
    by_cases e : j = k
    · subst e; simp [ej]; omega
    · have := a6 j h0 (by omega); simpa [e, ej] using this

theorem Inv2.valid {g : Nat → S} {n : Nat} (h : Inv2 g n n) (hn : 1 ≤ n) (h7 : n ≤ 7) : Valid g n := by
  obtain ⟨a1, a2, a3, a4, a5, a6⟩ := h
  refine ⟨hn, by omega, fun i hi => ⟨?_, ?_, ?_, fun h => by subst h; exact ⟨a3, a4⟩, fun h0 => ?_⟩⟩
  · have := a5 i hi; omega
  · have := a5 i hi; omega
  · have := a1 i hi; omega
  · exact ⟨(a6 i h0 hi).1, (a6 i h0 hi).2, a2 (i - 1) i (by omega) hi⟩

/-- Small: what the laws need besides validity. -/
def Small (g : Nat → S) (n : Nat) : Prop := 1 ≤ n ∧ n ≤ 7 ∧ ∀ j, j < n → 0 ≤ (g j).l ∧ (g j).l ≤ 280 ∧ 0 ≤ (g j).r ∧ (g j).r ≤ 1400 ∧ 0 ≤ (g j).p ∧ (g j).p ≤ 350

theorem Inv2.small {g : Nat → S} {n : Nat} (h : Inv2 g n n) (hn : 1 ≤ n) (h7 : n ≤ 7) : Small g n := by
  obtain ⟨a1, a2, a3, a4, a5, a6⟩ := h
  refine ⟨hn, h7, fun j hj => ?_⟩
  have := a5 j hj
  have := a1 j hj
  omega

theorem Own.sl {w : World} {B n : Nat} {g : Nat → S} (h : Own w B n g) (hs : Small g n) : Sl w w.heap.size (some ⟨B, 0, none⟩) n g := by
  refine ⟨fun i hi => ?_, fun hn => ⟨B, 0, rfl, (h.at_ hn).1, fun i hi => ?_⟩⟩
  · have := hs.2.2 i hi
    unfold S.wf; omega
  · obtain ⟨_, ⟨c0, c1, c2⟩, _⟩ := h.at_ hi
    simp only [Nat.zero_add]
    exact ⟨c0, c1, c2⟩

theorem Own.drew {w : World} {B n : Nat} {g : Nat → S} (h : Own w B n g) : Own w.drew B n g := h

theorem two_sets {w : World} {B n k : Nat} {g : Nat → S} (h : Own w B n g) (hk : k < n) (x y : Int) :
    Own ((w.setCell ⟨B, k * 3, none⟩ (.int .u64 x)).setCell ⟨B, k * 3 + 1, none⟩ (.int .u64 y)).drew.drew B n (fun i => if i = k then ⟨x, y, (g k).p⟩ else g i) := by
  have h2 := (h.set (j := 0) hk (by omega) x _ rfl).set (j := 1) hk (by omega) y _ rfl
  have e : (fun i => if i = k then (⟨x, y, (g k).p⟩ : S) else g i) = (fun i => if i = k then (match 1 with | 0 => ⟨y, ((fun i => if i = k then (match 0 with | 0 => ⟨x, (g k).r, (g k).p⟩ | 1 => ⟨(g k).l, x, (g k).p⟩ | _ => ⟨(g k).l, (g k).r, x⟩ : S) else g i) k).r, ((fun i => if i = k then (match 0 with | 0 => ⟨x, (g k).r, (g k).p⟩ | 1 => ⟨(g k).l, x, (g k).p⟩ | _ => ⟨(g k).l, (g k).r, x⟩ : S) else g i) k).p⟩ | 1 => ⟨((fun i => if i = k then (match 0 with | 0 => ⟨x, (g k).r, (g k).p⟩ | 1 => ⟨(g k).l, x, (g k).p⟩ | _ => ⟨(g k).l, (g k).r, x⟩ : S) else g i) k).l, y, ((fun i => if i = k then (match 0 with | 0 => ⟨x, (g k).r, (g k).p⟩ | 1 => ⟨(g k).l, x, (g k).p⟩ | _ => ⟨(g k).l, (g k).r, x⟩ : S) else g i) k).p⟩ | _ => S0 : S) else ((fun i => if i = k then (match 0 with | 0 => ⟨x, (g k).r, (g k).p⟩ | 1 => ⟨(g k).l, x, (g k).p⟩ | _ => ⟨(g k).l, (g k).r, x⟩ : S) else g i) i)) := by
    funext i
    by_cases e : i = k <;> simp [e]
  rw [e]
  exact h2.drew.drew

/-- What States leaves: a new block with a valid, small list of n states; n is the length of what came in, but 1 at least and 7 at most. -/
def StPost (len : Nat) (w : World) (e : Ending) (w' : World) : Prop :=
  ∃ (n : Nat) (g : Nat → S), (n ≤ len ∨ n = 1) ∧ Small g n ∧ Valid g n ∧ e = .returned (.slice (some ⟨w.heap.size, 0, none⟩) n n) ∧ Own w' w.heap.size n g ∧ Below w.heap.size w w'

theorem st_done {len n : Nat} {g : Nat → S} {w w' : World} (hn : 1 ≤ n) (h7 : n ≤ 7) (hl : n ≤ len ∨ n = 1) (h : Inv2 g n n) (ho : Own w' w.heap.size n g) (hb : Below w.heap.size w w') :
    StPost len w (.returned (.slice (some ⟨w.heap.size, 0, none⟩) n n)) w' := ⟨n, g, hl, h.small hn h7, h.valid hn h7, rfl, ho, hb⟩

set_option maxHeartbeats 2000000 in
theorem states_any (A : Option Addr) (len c : Nat) (w : World) (f : Nat → S) (hn : len ≤ 9223372036854775807) (hsl : Sl w w.heap.size A len f) :
    Calls Try.prog 14 #[.slice A len c] w (StPost len w) := by
  have HS := Lib.hid hsl
  clear hsl
  obtain ⟨i0, hi, hz0, hz1, hz2⟩ := info_parts Try.info25
  go_enter Try.func14, Try.ntmps14
  go_upto_region 1 with fail
  go_cut [3] (fun s3 wx => w = wx ∧ ∃ n : Nat, 1 ≤ n ∧ n ≤ 7 ∧ (n ≤ len ∨ n = 1) ∧ s3 = .int .i64 n)
  case first =>
    by_cases h0 : len < 1
    · obtain rfl : len = 0 := by omega
      go_wp2
      go_meet
      exact ⟨rfl, 1, by omega, by omega, .inr rfl, rfl⟩
    by_cases h7 : len ≤ 7
    · go_wp2
      all_goals go_meet
      all_goals first | exact ⟨rfl, len, by omega, by omega, .inl (by omega), rfl⟩ | exact ⟨rfl, 1, by omega, by omega, .inl (by omega), rfl⟩
    · go_wp2
      all_goals go_meet
      all_goals exact ⟨rfl, 7, by omega, by omega, .inl (by omega), rfl⟩
  case rest =>
    obtain ⟨rfl, n, hn1, hn7, hnl, rfl⟩ := hcut
    have hmk := run_make_rowN (P := Try.prog) 22 25 i0 _ Try.underlying22 hi hz0 .i64 .i64 n n (Nat.le_refl _) (by rw [hz2]; omega) (by omega)
    rw [hz1] at hmk
    have ho := Lib.hid (own_made w n)
    have HL := Lib.hid hnl
    clear hnl
    go_wp2
    clear hmk hz0 hz1 hz2 hi
    go_loopw [5, 6] (fun t i wr => ∃ (k : Nat) (g : Nat → S) (p : Int), k ≤ n ∧ i = .int .i64 (k - 1) ∧ t = .int .u64 p ∧ Hid (Own wr w.heap.size n g) ∧ Below w.heap.size w wr ∧ Hid (Inv1 g n k p)) (fun _ i _ => (intOf i + 1).toNat)
    case atStart => exact ⟨n, fun _ => S0, 0, Nat.le_refl _, rfl, rfl, ho, (Below.refl _ _).alloc (Nat.le_refl _) _, ⟨fun _ _ => ⟨rfl, rfl⟩, by omega, by omega, fun j h1 h2 => by omega, fun j i h1 h2 h3 => by omega⟩⟩
    case round =>
      obtain ⟨k, g, p, hk, rfl, rfl, hown, hbel, hinv⟩ := hrel
      clear ho
      have hsz := hbel.size
      by_cases hk0 : k ≤ 0
      · have hinv2 : Hid (Inv2 g n 1) := by
          obtain rfl : k = 0 := by omega
          exact hinv.out.inv2 hn1 hn7
        clear hinv
        go_wp2
        obtain ⟨wo, rfl⟩ : ∃ wo : World, wo = wr := ⟨_, rfl⟩
        go_loopw [7] (fun i wr => ∃ (k : Nat) (g : Nat → S), 1 ≤ k ∧ k ≤ n ∧ i = .int .i64 k ∧ Hid (Own wr w.heap.size n g) ∧ Below w.heap.size w wr ∧ Hid (Inv2 g n k)) (fun i _ => n - (intOf i).toNat)
        case atStart => exact ⟨1, g, Nat.le_refl _, hn1, rfl, hown, hbel, hinv2⟩
        case round =>
          clear hown hbel hinv2 hsz
          obtain ⟨k, g, hk1, hk, rfl, hown, hbel, hinv⟩ := hrel
          have hsz := hbel.size
          by_cases hlt : k < n
          · have hkl : k < len := by have := HL.out; omega
            obtain ⟨hB, ⟨q0, q1, q2⟩, f0, f1, -⟩ := hown.out.at_ hlt
            obtain ⟨-, ⟨o0, o1, -⟩, -⟩ := hown.out.at_ (show k - 1 < n by omega)
            obtain ⟨b, off, rfl, hb, e0, e1, -⟩ := HS.out.at_ hbel hkl
            obtain ⟨w1, w2, w3, w4, -, -⟩ := HS.out.1 k hkl
            obtain ⟨l1, l2, l3, l4⟩ := hinv.out.2.2.2.2.1 (k - 1) (by omega)
            have hbne : b < w.heap.size := hb
            go_wp2
            go_region
            have ho2 := Lib.hid (hown.out.set (j := 0) hlt (by omega) ((g (k - 1)).l + 1 + (f k).l % 40) _ rfl)
            have hb2 := hbel.setCell (p := ⟨w.heap.size, k * 3, none⟩) (Nat.le_refl _) (.int .u64 ((g (k - 1)).l + 1 + (f k).l % 40))
            obtain ⟨-, ⟨-, z1, -⟩, -, y1, -⟩ := ho2.out.at_ hlt
            obtain ⟨-, ⟨-, x1, -⟩, -⟩ := ho2.out.at_ (show k - 1 < n by omega)
            have hek : ¬ k - 1 = k := by omega
            simp only [if_true, if_neg hek, Nat.add_zero] at z1 y1 x1
            obtain ⟨b', off', e', -, -, t1, -⟩ := HS.out.at_ hb2 hkl
            simp only [Option.some.injEq, Addr.mk.injEq, and_true] at e'
            obtain ⟨rfl, rfl⟩ := e'
            clear q0 q1 q2 f0 f1 o0 o1 e0 e1
            go_wp2
            go_region
            go_wp2
            go_roundw
            case rel =>
              refine ⟨k + 1, _, by omega, by omega, by go_num, ?_, (hb2.setCell (Nat.le_refl _) _).drew.drew, hinv.out.step (x := (g (k - 1)).l + 1 + (f k).l % 40) (y := (g (k - 1)).r + 1 + (f k).r % 200) hk1 (by omega) (by omega) (by omega) (by omega)⟩
              exact two_sets hown.out hlt _ _
            case measure => simp [intOf]; omega
          · obtain rfl : k = n := by omega
            go_wp2
            go_ret
            exact st_done hn1 hn7 HL.out hinv.out hown.out hbel
      · obtain ⟨k, rfl⟩ : ∃ j, k = j + 1 := ⟨k - 1, by omega⟩
        obtain ⟨hB, ⟨-, -, c2⟩, -, -, f2⟩ := hown.out.at_ (show k < n by omega)
        obtain ⟨-, p0, p1, -⟩ := hinv.out
        by_cases hlt : k < len
        · obtain ⟨b, off, rfl, hb, -, -, e2⟩ := HS.out.at_ hbel hlt
          have hwf := HS.out.1 k hlt
          obtain ⟨-, -, -, -, w5, w6⟩ := hwf
          go_wp2
          go_roundw
          case rel => exact ⟨k, _, _, by omega, rfl, rfl, hown.out.set (j := 2) (by omega) (by omega) _ _ rfl, hbel.setCell (Nat.le_refl _) _, hinv.out.step (by omega) (by omega) (by omega)⟩
          case measure => simp [intOf]
        · go_wp2
          go_roundw
          case rel => exact ⟨k, _, _, by omega, rfl, rfl, hown.out.set (j := 2) (by omega) (by omega) _ _ rfl, hbel.setCell (Nat.le_refl _) _, hinv.out.step (by omega) (by omega) (by omega)⟩
          case measure => simp [intOf]
end Go.Proofs.Ytgllakmcccjcbaa
