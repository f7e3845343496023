/- Sum: what it computes. Condition: at most 2^30 bytes. -/
import Derived.Test.YtndbbbkdpjkljaaDoorC
import Derived.Lib.IndexBytes
import Derived.Laws.Rows
namespace Go.Proofs.YtndbbbkdpjkljaaDoor
open Go.RowKit

def iv : Nat → Int
  | 0 => 1779033703
  | 1 => 3144134277
  | 2 => 1013904242
  | 3 => 2773480762
  | 4 => 1359893119
  | 5 => 2600822924
  | 6 => 528734635
  | _ => 1541459225

/-- n blocks of l, one behind the other. -/
def bls (l : List UInt8) (h : Nat → Int) : Nat → Nat → Int
  | 0 => h
  | n + 1 => blk (bls l h n) ((l.drop (64 * n)).take 64)

def byv (l : List UInt8) : List Value := l.map fun b => Value.int .u8 (b.toNat : Int)

theorem iv_u (i : Nat) : U (iv i) := by
  unfold iv; split <;> exact ⟨by omega, by omega⟩
theorem bls_u (l : List UInt8) (n i : Nat) : U (bls l iv n i) := by
  cases n with
  | zero => exact iv_u i
  | succ n => exact ad3_u _ _

theorem bls_u' (l : List UInt8) {h : Nat → Int} (hh : ∀ i, U (h i)) (n i : Nat) : U (bls l h n i) := by
  cases n with
  | zero => exact hh i
  | succ n => exact ad3_u _ _
/-- N cells in an array. -/
def arr (N : Nat) (v : Nat → Value) : Array Value := ((List.range N).map v).toArray
theorem arr_size (N : Nat) (v : Nat → Value) : (arr N v).size = N := by simp [arr]
theorem arr_at (N : Nat) (v : Nat → Value) {i : Nat} (h : i < N) : (arr N v)[i]? = some (v i) := by simp [arr, h]
theorem Row.arr {w : World} {B t N : Nat} {v : Nat → Value} (h : Row w B t N v) : w.heap[B]? = some (.cells (YtndbbbkdpjkljaaDoor.arr N v) t (0, 0)) := by
  obtain ⟨cs, hh, hs, hc⟩ := h
  rw [hh]
  congr 2
  apply Array.ext
  · rw [hs, arr_size]
  · intro i h1 h2
    have := hc i (by omega)
    have h3 := arr_at N v (show i < N by omega)
    rw [Array.getElem?_eq_getElem h1] at this
    rw [Array.getElem?_eq_getElem h2] at h3
    injection this with this
    injection h3 with h3
    rw [this, h3]
theorem size_eq (t : ByteArray) : t.size = t.data.toList.length := by rw [Array.length_toList]; rfl
theorem ext_take (t : ByteArray) : (t.extract 0 64).data.toList = t.data.toList.take 64 := by
  rw [Lib.extract_data]; rfl
theorem ext_drop (t : ByteArray) : (t.extract 64 t.size).data.toList = t.data.toList.drop 64 := Lib.extract_to_end t 64
theorem ext_take_size (t : ByteArray) (h : 64 ≤ t.size) : (t.extract 0 64).size = 64 := by
  rw [size_eq, ext_take, List.length_take, ← size_eq]; omega
theorem ext_drop_size (t : ByteArray) : (t.extract 64 t.size).size = t.size - 64 := by
  rw [size_eq, ext_drop, List.length_drop, ← size_eq]
theorem Row.ofListAt (w : World) (B t : Nat) (hB : B = w.heap.size) (cs : Array Value) (v : Nat → Value) (N : Nat) (h : cs.toList = (List.range N).map v) : Row (w.alloc (.cells cs t)) B t N v := by
  subst hB; exact Row.ofList w t cs v N h
/-- The first q bytes of the length. -/
def lenb (L : Nat) (q : Nat) : List UInt8 := (List.range q).map fun i => UInt8.ofNat (L / 2 ^ (56 - 8 * i))
theorem lenb_val (L q : Nat) : ((L : Int) * 8 / 2 ^ (56 - 8 * q) % 256) = (((UInt8.ofNat (L * 8 / 2 ^ (56 - 8 * q))).toNat : Nat) : Int) := by
  rw [UInt8.toNat_ofNat']
  have e : ((L : Int) * 8 / 2 ^ (56 - 8 * q)) = ((L * 8 / 2 ^ (56 - 8 * q) : Nat) : Int) := by
    rw [Int.natCast_ediv, Int.natCast_mul, Int.natCast_pow]; rfl
  rw [e]; omega
theorem lenb_succ (L q : Nat) : lenb (L * 8) q ++ [UInt8.ofNat (L * 8 / 2 ^ (56 - 8 * q))] = lenb (L * 8) (q + 1) := by
  unfold lenb; rw [List.range_succ, List.map_append]; rfl
def sliceLen : Value → Nat
  | .slice _ n _ => n
  | _ => 0
def strLen : Value → Nat
  | .string t => t.size
  | _ => 0

theorem byv_row (t : ByteArray) (cap : Nat) (h : t.size ≤ cap) : (bytesRow t cap).size = cap ∧ (bytesRow t cap).toList.take t.size = byv t.data.toList := by
  constructor
  · simp [bytesRow]; have : t.data.size = t.size := rfl; omega
  · unfold bytesRow byv
    rw [Array.toList_append, List.take_append_of_le_length (by simp), List.take_of_length_le (by simp)]
    simp
theorem sb_bytes (W : World) (g base cap : Nat) (t : ByteArray) (hg : base ≤ g) (h1 : t.size ≤ cap) (h2 : cap ≤ maxLen) (hh : W.heap[g]? = some (.cells (bytesRow t cap) 5 ((bytesRow t cap).size, (bytesRow t cap).size + 1))) :
    SB W base 5 (.slice (some ⟨g, 0, none⟩) t.size cap) t.size (byv t.data.toList) := by
  obtain ⟨e1, e2⟩ := byv_row t cap h1
  rw [e1] at hh
  exact ⟨by unfold byv; rw [List.length_map, ← size_eq], g, cap, _, _, rfl, hg, hh, h1, h2, by omega, e2, fun i hi hx => by simp at hx; omega⟩
theorem Tryd.info5 : (Tryd.prog.info? 5).map (fun i => (i.zero, i.size, i.bytes)) = some (some (.int .u8 0), 1, 1) := by kernel_rfl
theorem byv_snoc (l : List UInt8) (b : UInt8) : byv l ++ [.int .u8 (b.toNat : Int)] = byv (l ++ [b]) := by simp [byv]

def zb (_ : Nat) : Value := .int .u8 0

theorem Tryd.info62 : (Tryd.prog.info? 62).map (fun i => (i.zero, i.size, i.bytes)) = some (some (.int .u32 0), 1, 4) := by kernel_rfl
/-- Byte i of the digest. -/
def dgb (H : Nat → Int) (i : Nat) : Int := H (i / 4) / 2 ^ (24 - 8 * (i % 4)) % 256
/-- The digest's cells, the first 4 q written. -/
def dgt (H : Nat → Int) (q i : Nat) : Value := if i < 4 * q then .int .u8 (dgb H i) else zb i
theorem dgt_hi (H : Nat → Int) (q i : Nat) (h : 4 * q ≤ i) : dgt H q i = zb i := if_neg (by omega)
theorem dgt_lo (H : Nat → Int) (q i : Nat) (h : i < 4 * q) : dgt H q i = .int .u8 (dgb H i) := if_pos h
theorem dgb_at (H : Nat → Int) (q j : Nat) (hj : j < 4) : dgb H (4 * q + j) = H q / 2 ^ (24 - 8 * j) % 256 := by
  unfold dgb; rw [show (4 * q + j) / 4 = q by omega, show (4 * q + j) % 4 = j by omega]
theorem dgt_row {w : World} {B q : Nat} {H : Nat → Int} (h : Row w B 26 32 (dgt H q)) (hq : q < 8) (hu : U (H q)) :
    Row ((((w.setCell ⟨B, 4 * q, none⟩ (.int .u8 (H q / 16777216))).setCell ⟨B, 4 * q + 1, none⟩ (.int .u8 (H q / 65536 % 256))).setCell ⟨B, 4 * q + 2, none⟩ (.int .u8 (H q / 256 % 256))).setCell ⟨B, 4 * q + 3, none⟩ (.int .u8 (H q % 256))) B 26 32 (dgt H (q + 1)) := by
  refine Row.congr (Row.set (Row.set (Row.set (Row.set h (i := 4 * q) (by omega) _) (i := 4 * q + 1) (by omega) _) (i := 4 * q + 2) (by omega) _) (i := 4 * q + 3) (by omega) _) fun i hi => ?_
  obtain ⟨hu0, hu1⟩ := hu
  by_cases e3 : i = 4 * q + 3
  · subst e3; rw [upd_hit, dgt_lo _ _ _ (by omega), dgb_at _ _ 3 (by omega)]; simp
  rw [upd_miss _ _ e3]
  by_cases e2 : i = 4 * q + 2
  · subst e2; rw [upd_hit, dgt_lo _ _ _ (by omega), dgb_at _ _ 2 (by omega)]; rfl
  rw [upd_miss _ _ e2]
  by_cases e1 : i = 4 * q + 1
  · subst e1; rw [upd_hit, dgt_lo _ _ _ (by omega), dgb_at _ _ 1 (by omega)]; rfl
  rw [upd_miss _ _ e1]
  by_cases e0 : i = 4 * q
  · subst e0; rw [upd_hit, dgt_lo _ _ _ (by omega)]
    have := dgb_at H q 0 (by omega)
    rw [Nat.add_zero] at this
    rw [this]
    show Value.int .u8 (H q / 16777216) = .int .u8 (H q / 16777216 % 256)
    congr 1; omega
  rw [upd_miss _ _ e0]
  by_cases h4 : i < 4 * q
  · rw [dgt_lo _ _ _ h4, dgt_lo _ _ _ (by omega)]
  · rw [dgt_hi _ _ _ (by omega), dgt_hi _ _ _ (by omega)]

theorem Row.setAll {B t N : Nat} : ∀ (vs : List Value) (o : Nat) (w : World) (v : Nat → Value), Row w B t N v → o + vs.length ≤ N → Row (w.setCells B o vs) B t N (fun i => if o ≤ i ∧ i < o + vs.length then vs.getD (i - o) (v i) else v i)
  | [], o, _, v, h, _ => Row.congr h (fun i _ => by rw [if_neg (by simp)])
  | u :: r, o, _, v, h, hl => by
    have hl' : o + (r.length + 1) ≤ N := hl
    refine Row.congr (Row.setAll r (o + 1) _ _ (Row.set h (i := o) (by omega) u) (by omega)) fun i hi => ?_
    simp only [List.length_cons]
    by_cases e : i = o
    · subst e
      rw [if_neg (by omega), upd_hit, if_pos (by omega), Nat.sub_self]; rfl
    · rw [upd_miss _ _ e]
      by_cases h1 : o + 1 ≤ i ∧ i < o + 1 + r.length
      · rw [if_pos h1, if_pos (by omega), show i - o = (i - (o + 1)) + 1 by omega]; rfl
      · rw [if_neg h1, if_neg (by omega)]
theorem Row.setWhole {w : World} {B t N : Nat} {v u : Nat → Value} (h : Row w B t N v) : Row (w.setCells B 0 (YtndbbbkdpjkljaaDoor.arr N u).toList) B t N u := by
  refine Row.congr (Row.setAll _ 0 w v h (by simp [YtndbbbkdpjkljaaDoor.arr])) fun i hi => ?_
  rw [if_pos (by simpa [YtndbbbkdpjkljaaDoor.arr] using hi)]
  simp [YtndbbbkdpjkljaaDoor.arr, hi]
theorem Below.setAll {B b : Nat} {a : World} (hb : B ≤ b) : ∀ (vs : List Value) (o : Nat) (w : World), Below B a w → Below B a (w.setCells b o vs)
  | [], _, _, h => h
  | u :: r, o, _, h => Below.setAll hb r (o + 1) _ (h.setCell (p := ⟨b, o, none⟩) hb u)
theorem Row.there {w : World} {B t N : Nat} {v : Nat → Value} (h : Row w B t N v) : w.there B 0 N := fun j hj => ⟨by rw [Nat.zero_add, Row.cell h hj]; rfl, Row.frozen h _⟩
theorem sb_ne {w : World} {base e n B t N : Nat} {v : Value} {xs : List Value} {f : Nat → Value} (h : SB w base e v n xs) (hr : Row w B t N f) (hne : e ≠ t) : v.ownBlock ≠ some B := by
  obtain ⟨_, g, cap, cur, fr, rfl, _, hh, _⟩ := h
  intro he
  have : g = B := by simpa [Value.ownBlock] using he
  subst this
  obtain ⟨cs, hc, _⟩ := hr
  rw [hh] at hc
  injection hc with hc
  injection hc with _ ht
  exact hne ht

/-- In the middle of Sum: the tail so far, the result's block, the state's block. -/
structure St (w0 wr : World) (H : Nat → Int) (v : Value) (n : Nat) (l : List UInt8) : Prop where
  sb : SB wr w0.heap.size 5 v n (byv l)
  r0 : Row wr w0.heap.size 26 32 zb
  r1 : Row wr (w0.heap.size + 1) 63 8 (uc H)
  bel : Below w0.heap.size w0 wr
theorem St.next {w0 wr w1 : World} {H : Nat → Int} {v v' : Value} {n : Nat} {l : List UInt8} (h : St w0 wr H v n l) (o : Obj) (b : UInt8) (hs : SB w1 w0.heap.size 5 v' (n + 1) (byv l ++ [.int .u8 (b.toNat : Int)]))
    (hc : Ch (fun k => v.ownBlock = some k) (wr.alloc o) w1) : St w0 w1 H v' (n + 1) (l ++ [b]) := by
  refine ⟨by rw [← byv_snoc]; exact hs, (h.r0.alloc o).ch hc (sb_ne (h.sb.alloc o) (h.r0.alloc o) (by decide)), (h.r1.alloc o).ch hc (sb_ne (h.sb.alloc o) (h.r1.alloc o) (by decide)), ?_⟩
  refine Below.thenCh (h.bel.alloc h.bel.size o) hc (by have := h.bel.size; simp; omega) fun i hi => ?_
  obtain ⟨_, g, cap, _, _, rfl, hb, _⟩ := h.sb
  have : g = i := by simpa [Value.ownBlock] using hi
  omega
theorem St.toStr {w0 wr : World} {H : Nat → Int} {g n cap : Nat} {l : List UInt8} (h : St w0 wr H (.slice (some ⟨g, 0, none⟩) n cap) n l) :
    (convert 23 9 (.slice (some ⟨g, 0, none⟩) n cap)).run Tryd.prog wr = .ok (.string ⟨l.toArray⟩) wr := by
  obtain ⟨g', cap', e, _, _, _, _, hc⟩ := h.sb.form
  injection e with e1 e2 e3
  injection e1 with e1
  have eg : g = g' := congrArg Addr.block e1
  have hn : l.length = n := by have := h.sb.1; unfold byv at this; simpa using this
  subst eg
  have := run_convert_bytes_back (P := Tryd.prog) wr 23 9 5 ⟨g, 0, none⟩ cap l Tryd.underlying23 Tryd.underlying5 Tryd.underlying9 (fun j hj => by
    rw [Addr.add_mid, Nat.zero_add]
    exact hc j _ (by unfold byv; simp [hj]))
  rw [hn] at this
  exact this
theorem St.form {w0 wr : World} {H : Nat → Int} {v : Value} {n : Nat} {l : List UInt8} (h : St w0 wr H v n l) : ∃ g cap, v = .slice (some ⟨g, 0, none⟩) n cap := by
  obtain ⟨_, g, cap, _, _, rfl, _⟩ := h.sb
  exact ⟨g, cap, rfl⟩

theorem bls_front (l p : List UInt8) (h : Nat → Int) (k : Nat) (hk : 64 * k ≤ l.length) : bls (l ++ p) h k = bls l h k := by
  induction k with
  | zero => rfl
  | succ k ih =>
    unfold bls
    rw [ih (by omega), List.drop_append_of_le_length (by omega), List.take_append_of_le_length (by rw [List.length_drop]; omega)]
theorem bls_add (l : List UInt8) (h : Nat → Int) (k r : Nat) : bls l h (k + r) = bls (l.drop (64 * k)) (bls l h k) r := by
  induction r with
  | zero => rfl
  | succ r ih =>
    show blk (bls l h (k + r)) _ = blk _ _
    rw [ih, List.drop_drop, show 64 * k + 64 * r = 64 * (k + r) by omega]
    rfl
/-- What is put behind a message of n bytes. -/
def padb (n : Nat) : List UInt8 := [128] ++ List.replicate ((119 - n % 64) % 64) 0 ++ lenb (n * 8) 8
/-- The state at the end. -/
def sumH (l : List UInt8) : Nat → Int := bls (l ++ padb l.length) iv ((l ++ padb l.length).length / 64)
/-- The bytes of the digest of l. -/
def sumD (l : List UInt8) : Nat → Int := dgb (sumH l)
def b8 (D : Nat → Int) (i : Nat) : Value := .int .u8 (D i)
theorem sum_final (l t m : List UInt8) (k j q r N : Nat) (ht : t = l.drop (64 * k)) (hk : 64 * k + t.length = l.length) (h64 : t.length < 64) (hj : j = (119 - t.length) % 64) (hq : q = 8) (hm : m = t ++ [128] ++ List.replicate j 0 ++ lenb (l.length * 8) q)
    (hr : r = N) (hN : m.length = 64 * N) : bls m (bls l iv k) r = sumH l := by
  have e1 : l.length % 64 = t.length := by omega
  have hm' : m = (l ++ padb l.length).drop (64 * k) := by
    rw [List.drop_append_of_le_length (by omega), ← ht, hm, padb, e1, ← hj, hq]; simp
  have hlen : (l ++ padb l.length).length = 64 * (k + N) := by
    have : m.length = (l ++ padb l.length).length - 64 * k := by rw [hm', List.length_drop]
    have h2 : l.length ≤ (l ++ padb l.length).length := by simp
    omega
  unfold sumH
  rw [hlen, show 64 * (k + N) / 64 = k + r by omega, bls_add, bls_front _ _ _ _ (by omega), ← hm']

set_option maxRecDepth 100000 in
set_option maxHeartbeats 4000000 in
theorem sum_any (s : ByteArray) (w : World) (hs : s.size ≤ 1073741824) (hr : Rnd w) (h0 : 0 < w.heap.size) :
    Calls Tryd.prog 15 #[.string s] w fun e w' => e = .returned (.agg (arr 32 (b8 (sumD s.data.toList)))) ∧ Below w.heap.size w w' := by
  have HR := Lib.hid hr
  clear hr
  go_enter Tryd.func15, Tryd.ntmps15
  go_wp2_with fail
  go_loopw [0] (fun x wr => ∃ (k : Nat) (t : ByteArray), x = .string t ∧ Hid (t.data.toList = s.data.toList.drop (64 * k)) ∧ 64 * k + t.size ≤ s.size ∧ s.size ≤ 64 * k + t.size ∧ Hid (Row wr w.heap.size 26 32 zb) ∧ Hid (Row wr (w.heap.size + 1) 63 8 (uc (bls s.data.toList iv k))) ∧ Below w.heap.size w wr) (fun x _ => strLen x)
  case atStart =>
    refine ⟨0, s, rfl, by simp [Hid], by omega, by omega, ?_, ?_, ((Below.refl _ _).alloc (Nat.le_refl _) _).alloc (by simp) _⟩
    · exact Row.alloc (Row.ofList w 26 _ _ 32 (by kernel_rfl)) _
    · exact Row.ofListAt _ _ _ (by simp) _ _ 8 (by kernel_rfl)
  case round =>
    obtain ⟨k, t, rfl, ht, hz1, hz2, hR0, hR1, hbel⟩ := hrel
    by_cases h64 : 64 ≤ t.size
    · have HM := Lib.hid (mix_any (w.heap.size + 1) (bls s.data.toList iv k) (t.extract 0 64) wr (ext_take_size t h64) hR1.out (fun i _ => bls_u _ _ _) (HR.out.below hbel h0) (by have := hbel.size; omega))
      have hds := ext_drop_size t
      have HDS := Lib.hid hds
      clear hds
      go_wp2_with fail
      refine HM.out.mono ?_
      rintro e w1 ⟨rfl, hR1', hc1⟩
      have R1' := Lib.hid hR1'
      have R0' := Lib.hid (hR0.out.ch hc1 (by omega))
      have b1 : Below w.heap.size w w1 := Below.thenCh hbel hc1 hbel.size (by intro i hi; omega)
      clear hR1' hc1 HM
      go_wp2_with fail
      go_roundw
      case rel =>
        refine ⟨k + 1, _, rfl, ?_, ?_, ?_, R0', ?_, b1⟩
        · show (t.extract 64 t.size).data.toList = _
          rw [ext_drop, ht.out, List.drop_drop]
          congr 1
        · rw [HDS.out]; omega
        · rw [HDS.out]; omega
        · have := R1'.out
          rw [ext_take, ht.out] at this
          exact this
      case measure => show (t.extract 64 t.size).size < t.size; rw [HDS.out]; omega
    · have hcv := fun W => run_bytes_of_string (P := Tryd.prog) W 9 23 5 t Tryd.underlying9 Tryd.underlying23 Tryd.underlying5
      obtain ⟨i0, hi, hy0, hy1, hy2⟩ := info_parts Tryd.info5
      have hg1 := grownCap_ge wr t.size 0 5
      have hg2 := grownCap_le_maxLen wr t.size 0 5 (by unfold maxLen; omega)
      generalize hcap : grownCap wr t.size 0 5 = cap at hcv hg1 hg2
      have HCV := Lib.hid hcv
      clear hcv
      have hcv := HCV.out wr
      rw [hcap] at hcv
      clear hcap HCV
      have HSB : Hid (SB ((wr.alloc (.cells (bytesRow t cap) 5 ((bytesRow t cap).size, (bytesRow t cap).size + 1))).alloc (.cells #[.int .u8 128] 5)).drew w.heap.size 5 (.slice (some ⟨wr.heap.size, 0, none⟩) t.size cap) t.size (byv t.data.toList)) :=
        SB.alloc (sb_bytes (wr.alloc (.cells (bytesRow t cap) 5 ((bytesRow t cap).size, (bytesRow t cap).size + 1))) wr.heap.size w.heap.size cap t hbel.size hg1 hg2 (heap_alloc_new wr _)) _
      go_wp2_with (at_builtin; refine wpList_push rfl _ _ 23 rfl i0 (.int .u8 0) (.int .u8 128) 1 Tryd.underlying23 hi hy0 hy1 hy2 rfl rfl (by exact HSB.out) ⟨wr.heap.size + 1, 0, none⟩ 1 rfl ?hu rfl ?hb ?h63 ?hby ?_)
      case hu => simp [go_sem]
      case hb => have := hbel.size; simp; omega
      case h63 => unfold maxLen; omega
      case hby => omega
      intro v1 w1 hs1 hc1
      have hst0 : Hid (St w w1 (bls s.data.toList iv k) v1 (t.size + 1) (t.data.toList ++ [128])) := by
        refine ⟨?_, ?_, ?_, ?_⟩
        · rw [← byv_snoc]; exact hs1
        · refine Row.ch (w := ((wr.alloc (.cells (bytesRow t cap) 5 ((bytesRow t cap).size, (bytesRow t cap).size + 1))).alloc (.cells #[.int .u8 128] 5)).drew) ((hR0.out.alloc _).alloc _) hc1 ?_
          have := hR1.out.lt
          simp [Value.ownBlock]; omega
        · refine Row.ch (w := ((wr.alloc (.cells (bytesRow t cap) 5 ((bytesRow t cap).size, (bytesRow t cap).size + 1))).alloc (.cells #[.int .u8 128] 5)).drew) ((hR1.out.alloc _).alloc _) hc1 ?_
          have := hR1.out.lt
          simp [Value.ownBlock]; omega
        · refine Below.thenCh (((hbel.alloc hbel.size _).alloc (by have := hbel.size; simp; omega) _).drew) hc1 (by have := hbel.size; simp; omega) fun i hi => ?_
          have : wr.heap.size = i := by simpa [Value.ownBlock] using hi
          have := hbel.size
          omega
      clear hs1 hc1 HSB hcv
      obtain ⟨g, cap1, hv1⟩ := hst0.out.form
      rw [hv1]
      rw [hv1] at hst0
      clear hv1 v1
      obtain ⟨z, hz⟩ : ∃ z : Nat, z = (119 - t.size) % 64 := ⟨_, rfl⟩
      have HZZ := Lib.hid hz
      clear hz
      have ht64 : t.size < 64 := by omega
      go_wp2_with fail
      obtain ⟨wo, rfl⟩ : ∃ wo : World, wo = wr := ⟨_, rfl⟩
      go_loopw [5] (fun x wr => ∃ (j g cap : Nat) (l : List UInt8), j ≤ z ∧ x = .slice (some ⟨g, 0, none⟩) (t.size + 1 + j) cap ∧ Hid (l = t.data.toList ++ [128] ++ List.replicate j 0) ∧ Hid (St w wr (bls s.data.toList iv k) (.slice (some ⟨g, 0, none⟩) (t.size + 1 + j) cap) (t.size + 1 + j) l)) (fun x _ => t.size + 1 + z - sliceLen x)
      case atStart => exact ⟨0, g, cap1, t.data.toList ++ [128], by omega, rfl, (by simp : t.data.toList ++ [128] = t.data.toList ++ [128] ++ List.replicate 0 0), hst0⟩
      case round =>
        obtain ⟨j, g, cap2, l, hj, rfl, hl, hst⟩ := hrel
        clear hst0
        have hz63 : z ≤ 63 := by have := HZZ.out; omega
        by_cases hjz : j = z
        · have e56 : (((t.size : Int) + 1 + j) % 64 != 56) = false := by
            have := HZZ.out
            simp; omega
          have HJ := Lib.hid hjz
          clear hjz
          go_wp2_with fail
          obtain ⟨wp, rfl⟩ : ∃ wp : World, wp = wr := ⟨_, rfl⟩
          go_loopw [5, 6] (fun x y wr => ∃ (q g cap : Nat) (m : List UInt8), q ≤ 8 ∧ x = .slice (some ⟨g, 0, none⟩) (t.size + 1 + j + q) cap ∧ y = .int .i64 (56 - 8 * (q : Int)) ∧ Hid (m = l ++ lenb (s.size * 8) q) ∧ Hid (St w wr (bls s.data.toList iv k) (.slice (some ⟨g, 0, none⟩) (t.size + 1 + j + q) cap) (t.size + 1 + j + q) m)) (fun _ y _ => (intOf y + 8).toNat)
          case atStart => exact ⟨0, g, cap2, l, by omega, rfl, rfl, (by simp [lenb] : l = l ++ lenb (s.size * 8) 0), hst⟩
          case round =>
            clear hst
            obtain ⟨q, g, cap3, m, hq, rfl, rfl, hm, hst⟩ := hrel
            by_cases hq8 : q < 8
            · have y0 : (0 : Int) ≤ 56 - 8 * (q : Int) := by omega
              have y1 : 56 - 8 * (q : Int) ≤ 56 := by omega
              have HA := Lib.hid (SB.alloc hst.out.sb (.cells #[.int .u8 ((s.size : Int) * 8 / 2 ^ (56 - 8 * q) % 256)] 5))
              have hbs := hst.out.bel.size
              go_wp2_with (at_builtin; refine wpList_push rfl _ _ 23 rfl i0 (.int .u8 0) (.int .u8 ((s.size : Int) * 8 / 2 ^ (56 - 8 * q) % 256)) 1 Tryd.underlying23 hi hy0 hy1 hy2 rfl rfl (by exact HA.out) ⟨wr.heap.size, 0, none⟩ 1 rfl ?hu rfl ?hb ?h63 ?hby ?_)
              case hu => simp [go_sem]
              case hb => simp; omega
              case h63 => unfold maxLen; omega
              case hby => omega
              intro v2 w2 hs2 hc2
              rw [lenb_val] at hs2
              have hst2 := Lib.hid (hst.out.next (.cells #[.int .u8 ((s.size : Int) * 8 / 2 ^ (56 - 8 * q) % 256)] 5) (UInt8.ofNat (s.size * 8 / 2 ^ (56 - 8 * q))) hs2 hc2)
              clear hs2 hc2 HA
              obtain ⟨g2, cap4, hv2⟩ := hst2.out.form
              rw [hv2]
              rw [hv2] at hst2
              clear hv2 v2
              go_wp2_with fail
              go_roundw
              case rel => exact ⟨q + 1, g2, cap4, m ++ [UInt8.ofNat (s.size * 8 / 2 ^ (56 - 8 * q))], by omega, rfl, by go_num, (by rw [hm.out, List.append_assoc, lenb_succ] : m ++ [UInt8.ofNat (s.size * 8 / 2 ^ (56 - 8 * q))] = l ++ lenb (s.size * 8) (q + 1)), hst2⟩
              case measure => simp [intOf]; omega
            · have hq8' : 8 ≤ q := by omega
              have hcb := hst.out.toStr
              go_wp2_with fail
              obtain ⟨wv, rfl⟩ : ∃ wv : World, wv = wr := ⟨_, rfl⟩
              have hml : Hid (m.length = t.size + 1 + j + q) := by have := hst.out.sb.1; unfold byv at this; simpa [Hid] using this
              obtain ⟨N, hN⟩ : ∃ N : Nat, m.length = 64 * N := by
                have h1 := hml.out
                have h2 := HZZ.out
                have h3 := HJ.out
                exact ⟨(t.size + 1 + j + q) / 64, by omega⟩
              have HN := Lib.hid hN
              clear hN
              go_loopw [7] (fun x wr => ∃ (r : Nat) (y : ByteArray), x = .string y ∧ Hid (y.data.toList = m.drop (64 * r)) ∧ Hid (64 * r + y.size = m.length) ∧ Hid (Row wr w.heap.size 26 32 zb) ∧ Hid (Row wr (w.heap.size + 1) 63 8 (uc (bls m (bls s.data.toList iv k) r))) ∧ Below w.heap.size w wr) (fun x _ => strLen x)
              case atStart => exact ⟨0, ⟨m.toArray⟩, rfl, (by simp : (⟨m.toArray⟩ : ByteArray).data.toList = m.drop (64 * 0)), (by simp [ByteArray.size] : 64 * 0 + (⟨m.toArray⟩ : ByteArray).size = m.length), hst.out.r0, hst.out.r1, hst.out.bel⟩
              case round =>
                clear hst hcb
                obtain ⟨r, y, rfl, hy, hys, hR0, hR1, hbel⟩ := hrel
                by_cases hye : y.size = 0
                · have hE : (!y.toList.isEmpty) = false := by
                    rw [ByteArray.toList_eq]
                    have : y.data.toList.length = 0 := by rw [← size_eq]; exact hye
                    rw [List.eq_nil_of_length_eq_zero this]; rfl
                  have hrN : Hid (r = N) := by have h1 := hys.out; have h2 := HN.out; show r = N; omega
                  have hA1 := Lib.hid (Row.arr (hR1.out.alloc (.cells (arr 32 zb) 26)))
                  clear hye
                  go_wp2_with (refine wpList_load_row rfl 63 _ rfl (w.heap.size + 1) rfl 63 (arr 8 (uc (bls m (bls s.data.toList iv k) r))) (0, 0) _ (by exact hA1.out) Tryd.underlying63 rfl (by kernel_rfl) ?_)
                  obtain ⟨HF, hHF⟩ : ∃ HF : Nat → Int, HF = bls m (bls s.data.toList iv k) r := ⟨_, rfl⟩
                  rw [← hHF]
                  have HHF := Lib.hid hHF
                  have HFu : Hid (∀ i, U (HF i)) := by
                    rw [hHF]; exact fun i => bls_u' _ (bls_u _ _) _ _
                  clear hHF
                  obtain ⟨i62, hj, hj0, hj1, hj2⟩ := info_parts Tryd.info62
                  have HXX := Lib.hid (fun (q : Nat) (hq : q < 8) (W : World) => run_index_array (P := Tryd.prog) 63 62 8 _ i62 (arr 8 (uc HF)) q _ Tryd.underlying63 Tryd.underlying62 rfl hj hj1 hq (arr_at 8 (uc HF) hq) W)
                  have hRd : Hid (Row (wr.alloc (.cells (arr 32 zb) 26)) wr.heap.size 26 32 (dgt HF 0)) := Row.congr (Row.ofList wr 26 _ zb 32 rfl) (fun i hi => (dgt_hi HF 0 i (by omega)).symm)
                  clear hj hj0 hj1 hj2 hA1
                  have hR0a := Lib.hid (hR0.out.alloc (.cells (arr 32 zb) 26))
                  have hba := hbel.alloc hbel.size (.cells (arr 32 zb) 26)
                  have hlt0 : w.heap.size < wr.heap.size := hR0.out.lt
                  have hne0 : w.heap.size ≤ wr.heap.size := by omega
                  have hne : w.heap.size ≠ wr.heap.size := by omega
                  obtain ⟨wz, rfl⟩ : ∃ wz : World, wz = wr := ⟨_, rfl⟩
                  go_loopw [56] (fun y wr => ∃ (q : Nat), q ≤ 8 ∧ y = .int .i64 q ∧ Hid (Row wr w.heap.size 26 32 zb) ∧ Hid (Row wr wz.heap.size 26 32 (dgt HF q)) ∧ Below w.heap.size w wr) (fun y _ => 8 - (intOf y).toNat)
                  case atStart => exact ⟨0, by omega, rfl, hR0a, hRd, hba⟩
                  case round =>
                    clear hR0a hRd hba
                    obtain ⟨q5, hq5, rfl, hQ0, hQd, hbq⟩ := hrel
                    by_cases hq58 : q5 < 8
                    · have hxx : ∀ W, (Instr.index 63 (.agg (arr 8 (uc HF))) (.int .i64 (q5 : Int))).run Tryd.prog W = .ok (.int .u32 (HF q5)) W := HXX.out q5 hq58
                      have y1 : (q5 : Int) < 8 := by omega
                      obtain ⟨hu0, hu1⟩ := HFu.out q5
                      have d0 := Row.cell hQd.out (i := 4 * q5) (by omega)
                      have d1 := Row.cell hQd.out (i := 4 * q5 + 1) (by omega)
                      have d2 := Row.cell hQd.out (i := 4 * q5 + 2) (by omega)
                      have d3 := Row.cell hQd.out (i := 4 * q5 + 3) (by omega)
                      rw [dgt_hi _ _ _ (by omega)] at d0 d1 d2 d3
                      unfold zb at d0 d1 d2 d3
                      have f0 := Row.frozen hQd.out (4 * q5)
                      have f1 := Row.frozen hQd.out (4 * q5 + 1)
                      have f2 := Row.frozen hQd.out (4 * q5 + 2)
                      have f3 := Row.frozen hQd.out (4 * q5 + 3)
                      go_wp2_with fail
                      go_roundw
                      case rel =>
                        refine ⟨q5 + 1, by omega, by go_num, ?_, dgt_row hQd.out hq58 (HFu.out q5), (((hbq.setCell hne0 _).setCell hne0 _).setCell hne0 _).setCell hne0 _⟩
                        exact (((hQ0.out.far hne _).far hne _).far hne _).far hne _
                      case measure => simp [intOf]; omega
                    · have y1 : ¬ (q5 : Int) < 8 := by omega
                      have hQd8 : Hid (Row wr wz.heap.size 26 32 (dgt HF 8)) := by rw [show q5 = 8 by omega] at hQd; exact hQd
                      have hAd := Lib.hid hQd8.out.arr
                      have hTh := Lib.hid (Row.there hQ0.out)
                      go_wp2_with (first | (refine wpList_load_row rfl 26 _ rfl wz.heap.size rfl 26 (arr 32 (dgt HF 8)) (0, 0) _ (by exact hAd.out) Tryd.underlying26 rfl (by kernel_rfl) ?_) | (refine wpList_store_mid rfl 26 _ _ rfl w.heap.size 0 (arr 32 (dgt HF 8)) rfl rfl (by exact hTh.out) (by kernel_rfl) (by kernel_rfl) ?_))
                      have hrow := Row.setWhole (u := dgt HF 8) hQ0.out
                      have hfin : Hid (arr 32 (dgt HF 8) = arr 32 (b8 (sumD s.data.toList))) := by
                        have e : HF = sumH s.data.toList := by
                          rw [HHF.out]
                          exact sum_final s.data.toList t.data.toList m k j q r N ht.out (by rw [← size_eq, ← size_eq]; omega) (by rw [← size_eq]; omega) (by rw [HJ.out, HZZ.out, size_eq]) (by omega) (by rw [hm.out, hl.out, size_eq]) hrN.out HN.out
                        show arr 32 (dgt HF 8) = arr 32 (b8 (sumD s.data.toList))
                        unfold arr
                        congr 1
                        apply List.map_congr_left
                        intro i hi
                        rw [dgt_lo _ _ _ (by have := List.mem_range.1 hi; omega), e]; rfl
                      refine bodyPost_ret (v := .agg (arr 32 (dgt HF 8))) (results_cell_row rfl _ _ w.heap.size 26 (arr 32 (dgt HF 8)) (0, 0) _ rfl hrow.arr Tryd.underlying26 rfl (by kernel_rfl)) rfl ⟨?_, Below.setAll (Nat.le_refl _) _ _ _ hbq⟩
                      rw [hfin.out]
                · have hy64 : 64 ≤ y.size := by have h1 := hys.out; have h2 := HN.out; omega
                  have hE : (!y.toList.isEmpty) = true := by
                    rw [ByteArray.toList_eq]
                    rcases h : y.data.toList with _ | ⟨a, b⟩
                    · have := size_eq y; rw [h] at this; simp only [List.length_nil] at this; omega
                    · rfl
                  have HM := Lib.hid (mix_any (w.heap.size + 1) (bls m (bls s.data.toList iv k) r) (y.extract 0 64) wr (ext_take_size y hy64) hR1.out (fun i _ => bls_u' _ (bls_u _ _) _ _) (HR.out.below hbel h0) (by have := hbel.size; omega))
                  have HDS := Lib.hid (ext_drop_size y)
                  go_wp2_with fail
                  refine HM.out.mono ?_
                  rintro e w2 ⟨rfl, hR1', hc1⟩
                  have R1' := Lib.hid hR1'
                  have R0' := Lib.hid (hR0.out.ch hc1 (by omega))
                  have b1 : Below w.heap.size w w2 := Below.thenCh hbel hc1 hbel.size (by intro i hi; omega)
                  clear hR1' hc1 HM
                  go_wp2_with fail
                  go_roundw
                  case rel =>
                    refine ⟨r + 1, _, rfl, ?_, ?_, R0', ?_, b1⟩
                    · show (y.extract 64 y.size).data.toList = _
                      rw [ext_drop, hy.out, List.drop_drop]
                      congr 1
                    · have h1 := hys.out
                      show 64 * (r + 1) + (y.extract 64 y.size).size = m.length
                      rw [HDS.out]; omega
                    · have := R1'.out
                      rw [ext_take, hy.out] at this
                      exact this
                  case measure => show (y.extract 64 y.size).size < y.size; rw [HDS.out]; omega
        · have e56 : (((t.size : Int) + 1 + j) % 64 != 56) = true := by
            have := HZZ.out
            simp; omega
          have HA := Lib.hid (SB.alloc hst.out.sb (.cells #[.int .u8 0] 5))
          have hbs := hst.out.bel.size
          go_wp2_with (at_builtin; refine wpList_push rfl _ _ 23 rfl i0 (.int .u8 0) (.int .u8 0) 1 Tryd.underlying23 hi hy0 hy1 hy2 rfl rfl (by exact HA.out) ⟨wr.heap.size, 0, none⟩ 1 rfl ?hu rfl ?hb ?h63 ?hby ?_)
          case hu => simp [go_sem]
          case hb => simp; omega
          case h63 => unfold maxLen; omega
          case hby => omega
          intro v2 w2 hs2 hc2
          have hst2 := Lib.hid (hst.out.next (.cells #[.int .u8 0] 5) 0 hs2 hc2)
          clear hs2 hc2 HA
          obtain ⟨g2, cap3, hv2⟩ := hst2.out.form
          rw [hv2]
          rw [hv2] at hst2
          clear hv2 v2
          go_wp2_with fail
          go_roundw
          case rel => exact ⟨j + 1, g2, cap3, l ++ [0], by omega, rfl, (by rw [hl.out, List.append_assoc, ← List.replicate_succ'] : l ++ [0] = t.data.toList ++ [128] ++ List.replicate (j + 1) 0), hst2⟩
          case measure => simp [sliceLen]; omega
end Go.Proofs.YtndbbbkdpjkljaaDoor
