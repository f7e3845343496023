/- Plain SHA-256 on 32-bit numbers. Condition: numbers below 2^32. -/
import Derived.Test.YtndbbbkdpjkljaaDoorA
namespace Go.Proofs.YtndbbbkdpjkljaaDoor
open Go.RowKit

/-- A byte. -/
def bt (s : List UInt8) (i : Nat) : Int := ((s.getD i 0).toNat : Int)
theorem bt_bd (s : List UInt8) (i : Nat) : 0 ≤ bt s i ∧ bt s i ≤ 255 := by
  unfold bt; have := (s.getD i 0).toNat_lt; omega
/-- Word k of a block. -/
def wd (s : List UInt8) (k : Nat) : Int := or3 (or3 (or3 (bt s (4 * k) * 16777216) (bt s (4 * k + 1) * 65536)) (bt s (4 * k + 2) * 256)) (bt s (4 * k + 3))
theorem wd_u (s : List UInt8) (k : Nat) : U (wd s k) := by
  have h0 := bt_bd s (4 * k)
  have h1 := bt_bd s (4 * k + 1)
  have h2 := bt_bd s (4 * k + 2)
  have h3 := bt_bd s (4 * k + 3)
  exact or3_u (or3_u (or3_u ⟨by omega, by omega⟩ ⟨by omega, by omega⟩) ⟨by omega, by omega⟩) ⟨by omega, by omega⟩
def sg0 (x : Int) : Int := xo3 (xo3 (rr 128 33554432 x) (rr 262144 16384 x)) (x / 8)
def sg1 (x : Int) : Int := xo3 (xo3 (rr 131072 32768 x) (rr 524288 8192 x)) (x / 1024)
theorem div_u {x d : Int} (hx : U x) (hd : 1 ≤ d) : U (x / d) := ⟨Int.ediv_nonneg hx.1 (by omega), Int.le_trans (Int.ediv_le_self _ hx.1) hx.2⟩
/-- The next word of the schedule. -/
def nx (a b c d : Int) : Int := ad3 (ad3 (ad3 a (sg0 b)) c) (sg1 d)
/-- The first n words of the schedule, in order. -/
def sched (s : List UInt8) : Nat → List Int
  | 0 => []
  | n + 1 => sched s n ++ [if n < 16 then wd s n else nx ((sched s n).getD (n - 16) 0) ((sched s n).getD (n - 15) 0) ((sched s n).getD (n - 7) 0) ((sched s n).getD (n - 2) 0)]
theorem sched_len (s : List UInt8) (n : Nat) : (sched s n).length = n := by
  induction n with
  | zero => rfl
  | succ n ih => simp [sched, ih]
/-- Word i of the schedule. -/
def sw (s : List UInt8) (i : Nat) : Int := (sched s 64).getD i 0
theorem sched_more (s : List UInt8) (n m i : Nat) (hi : i < n) : (sched s (n + m)).getD i 0 = (sched s n).getD i 0 := by
  induction m with
  | zero => rfl
  | succ m ih =>
    show (sched s (n + m) ++ _).getD i 0 = _
    rw [List.getD_eq_getElem?_getD, List.getElem?_append_left (by rw [sched_len]; omega), ← List.getD_eq_getElem?_getD, ih]
theorem sched_at (s : List UInt8) (n i : Nat) (hi : i < n) (hn : n ≤ 64) : (sched s n).getD i 0 = sw s i := by
  have := sched_more s n (64 - n) i hi
  rw [show n + (64 - n) = 64 by omega] at this
  exact this.symm
theorem sw_last (s : List UInt8) (n : Nat) (hn : n < 64) : sw s n = if n < 16 then wd s n else nx (sw s (n - 16)) (sw s (n - 15)) (sw s (n - 7)) (sw s (n - 2)) := by
  rw [← sched_at s (n + 1) n (by omega) (by omega)]
  show (sched s n ++ [_]).getD n 0 = _
  rw [List.getD_eq_getElem?_getD, List.getElem?_append_right (by rw [sched_len]; omega), sched_len]
  simp only [Nat.sub_self, List.getElem?_cons_zero, Option.getD_some]
  by_cases h : n < 16
  · rw [if_pos h, if_pos h]
  · rw [if_neg h, if_neg h, sched_at s n _ (by omega) (by omega), sched_at s n _ (by omega) (by omega), sched_at s n _ (by omega) (by omega), sched_at s n _ (by omega) (by omega)]
theorem sw_u (s : List UInt8) (n : Nat) (hn : n < 64) : U (sw s n) := by
  rw [sw_last s n hn]; split
  · exact wd_u s n
  · exact ad3_u _ _

structure S8 where
  a : Int
  b : Int
  c : Int
  d : Int
  e : Int
  f : Int
  g : Int
  h : Int
def S8.u (x : S8) : Prop := U x.a ∧ U x.b ∧ U x.c ∧ U x.d ∧ U x.e ∧ U x.f ∧ U x.g ∧ U x.h
def S8.get (x : S8) : Nat → Int
  | 0 => x.a
  | 1 => x.b
  | 2 => x.c
  | 3 => x.d
  | 4 => x.e
  | 5 => x.f
  | 6 => x.g
  | _ => x.h
def bs1 (e : Int) : Int := xo3 (xo3 (rr 64 67108864 e) (rr 2048 2097152 e)) (rr 33554432 128 e)
def bs0 (a : Int) : Int := xo3 (xo3 (rr 4 1073741824 a) (rr 8192 524288 a)) (rr 4194304 1024 a)
def chc (e f g : Int) : Int := xo3 (an3 e f) (an3 (xo3 4294967295 e) g)
def maj (a b c : Int) : Int := xo3 (xo3 (an3 a b) (an3 a c)) (an3 b c)
def t1 (k w : Int) (x : S8) : Int := ad3 (ad3 (ad3 (ad3 x.h (bs1 x.e)) (chc x.e x.f x.g)) k) w
def t2 (x : S8) : Int := ad3 (bs0 x.a) (maj x.a x.b x.c)
def stp (k w : Int) (x : S8) : S8 := ⟨ad3 (t1 k w x) (t2 x), x.a, x.b, x.c, ad3 x.d (t1 k w x), x.e, x.f, x.g⟩
theorem stp_u {k w : Int} {x : S8} (h : x.u) : (stp k w x).u := ⟨ad3_u _ _, h.1, h.2.1, h.2.2.1, ad3_u _ _, h.2.2.2.2.1, h.2.2.2.2.2.1, h.2.2.2.2.2.2.1⟩
/-- k rounds. -/
def rnds (K W : Nat → Int) (x : S8) : Nat → S8
  | 0 => x
  | n + 1 => stp (K n) (W n) (rnds K W x n)
theorem rnds_u {K W : Nat → Int} {x : S8} (h : x.u) (n : Nat) : (rnds K W x n).u := by
  induction n with
  | zero => exact h
  | succ n ih => exact stp_u ih
/-- The round constants. -/
def rcs : List Int := [1116352408, 1899447441, 3049323471, 3921009573, 961987163, 1508970993, 2453635748, 2870763221, 3624381080, 310598401, 607225278, 1426881987, 1925078388, 2162078206, 2614888103, 3248222580, 3835390401, 4022224774, 264347078, 604807628, 770255983, 1249150122, 1555081692, 1996064986, 2554220882, 2821834349, 2952996808, 3210313671, 3336571891, 3584528711, 113926993, 338241895, 666307205, 773529912, 1294757372, 1396182291, 1695183700, 1986661051, 2177026350, 2456956037, 2730485921, 2820302411, 3259730800, 3345764771, 3516065817, 3600352804, 4094571909, 275423344, 430227734, 506948616, 659060556, 883997877, 958139571, 1322822218, 1537002063, 1747873779, 1955562222, 2024104815, 2227730452, 2361852424, 2428436474, 2756734187, 3204031479, 3329325298]
def rc (i : Nat) : Int := rcs.getD i 0
theorem rcs_u : ∀ x ∈ rcs, U x := by
  have h : (rcs.all fun x => decide (0 ≤ x) && decide (x ≤ 4294967295)) = true := by decide
  intro x hx
  have := List.all_eq_true.1 h x hx
  simpa [U] using this
theorem rc_u (i : Nat) : U (rc i) := by
  unfold rc
  rw [List.getD_eq_getElem?_getD]
  rcases h : rcs[i]? with _ | x
  · exact ⟨by simp, by simp⟩
  · exact rcs_u x (List.mem_of_getElem? h)
/-- The state after a block of 64 bytes. -/
def S8.of (h : Nat → Int) : S8 := ⟨h 0, h 1, h 2, h 3, h 4, h 5, h 6, h 7⟩
def blk (h : Nat → Int) (s : List UInt8) (i : Nat) : Int := ad3 (h i) ((rnds rc (sw s) (S8.of h) 64).get i)
end Go.Proofs.YtndbbbkdpjkljaaDoor
