/- Abort. Conditions: those that each theorem names. -/
import Derived.Lib.OwnBridge
import Derived.Deep.DeepCutAuto
import Derived.Test.YtefgfmnnaglfmaaN8
import Derived.Test.YtefgfmnnaglfmaaSg
namespace Go.Proofs.Ytefgfmnnaglfmaa
open Go.RowKit
section
variable {w w' : World} {F : Nat → Prop} {L n : Nat} {s : LK} {y : Lay}
theorem OK.foreignT (h : OK w F L n s y) (c : Ch F w w') : OK w' F L n s y :=
  ⟨h.top.ch c h.lL, h.mo.ch c h.lo, h.mt.ch c h.lt, h.ne, h.lL, h.lo, h.lt, h.rL, h.rmo, h.rmt, h.low, (fun k hk => Nat.lt_of_lt_of_le (h.fin k hk) c.size),
    (fun i x hx => by obtain ⟨a, b, d, e, f⟩ := h.obj i x hx; exact ⟨a, b.ch c a, d.ch c d.2, e, f⟩), (fun i x hx => by obtain ⟨a, b, d, e, f⟩ := h.thr i x hx; exact ⟨a, b.ch c a, d.ch c d.2, e, f⟩)⟩
/-- New blocks are foreign from now on. -/
theorem OK.adoptT (h : OK w F L n s y) (c : Ch F w w') {G : Nat → Prop} (hG : ∀ k, G k → w.heap.size ≤ k ∧ k < w'.heap.size) : ∃ y', OK w' (fun k => F k ∨ G k) L n s y' := by
  have hr : ∀ k, k < w.heap.size → (if w.heap.size ≤ k then Role.free else y.role k) = y.role k := fun k hk => if_neg (by omega)
  have nf : ∀ k, k < w.heap.size → ¬ F k → ¬ (F k ∨ G k) := fun k hk hn hc => by
    rcases hc with hc | hc
    · exact hn hc
    · have := (hG k hc).1; omega
  refine ⟨{ y with role := fun k => if w.heap.size ≤ k then .free else y.role k }, h.top.ch c h.lL, h.mo.ch c h.lo, h.mt.ch c h.lt, h.ne, nf _ h.top.lt h.lL, nf _ h.mo.lt h.lo, nf _ h.mt.lt h.lt, (hr _ h.top.lt).trans h.rL, (hr _ h.mo.lt).trans h.rmo, (hr _ h.mt.lt).trans h.rmt, ?_, ?_, ?_, ?_⟩
  · rintro k (hk | hk)
    · exact (hr k (h.fin k hk)).trans (h.low k hk)
    · exact if_pos (hG k hk).1
  · rintro k (hk | hk)
    · exact Nat.lt_of_lt_of_le (h.fin k hk) c.size
    · exact (hG k hk).2
  · intro i x hx
    obtain ⟨a, b, d, e, f⟩ := h.obj i x hx
    exact ⟨nf _ b.lt a, b.ch c a, ⟨(d.ch c d.2).1, fun k hk => nf k (d.lt k hk).2 (d.2 k hk)⟩, (hr _ b.lt).trans e, fun k hk => (hr k (d.lt k hk).2).trans (f k hk)⟩
  · intro i x hx
    obtain ⟨a, b, d, e, f⟩ := h.thr i x hx
    exact ⟨nf _ b.lt a, b.ch c a, ⟨(d.ch c d.2).1, fun k hk => nf k (d.lt k hk).2 (d.2 k hk)⟩, (hr _ b.lt).trans e, fun k hk => (hr k (d.lt k hk).2).trans (f k hk)⟩
end
def orI (a b : Int) : Int := if a ≠ 0 then a else b
set_option maxRecDepth 100000 in
theorem or_any (a b : Int) (w : World) (B : Nat) (h0 : w.cell? ⟨B, 0, none⟩ = some (.int .i64 a)) (h1 : w.cell? ⟨B, 1, none⟩ = some (.int .i64 b)) :
    Calls Try.prog 70 #[.slice (some ⟨B, 0, none⟩) 2 2] w fun e w' => e = .returned (.int .i64 (orI a b)) ∧ w = w' := by
  go_enter Try.func70, Try.ntmps70
  go_wp2_with fail
  go_loop [8] (fun z => ∃ k : Nat, k ≤ 2 ∧ z = .int .i64 (k : Int) ∧ Hid ((0 < k → a = 0) ∧ (1 < k → b = 0))) (fun z => 2 - (intOf z).toNat)
  case atStart => exact ⟨0, by omega, rfl, fun h => by omega, fun h => by omega⟩
  case round =>
    obtain ⟨k, hk, rfl, HK⟩ := hrel
    rcases (by omega : k = 0 ∨ k = 1 ∨ k = 2) with rfl | rfl | rfl
    · by_cases ha : a = 0
      · have hb : (a != 0) = false := by simpa using ha
        have HK2 : Hid ((0 < 1 → a = 0) ∧ (1 < 1 → b = 0)) := ⟨fun _ => ha, fun h => by omega⟩
        clear ha
        go_wp2_with fail
        go_round
        case rel => exact ⟨1, by omega, rfl, HK2⟩
        case measure => simp [intOf]
      · have hb : (a != 0) = true := by simpa using ha
        have HE : Hid (orI a b = a) := if_pos ha
        clear ha
        go_wp2_with fail
        go_ret
        rw [HE.out]
        exact ⟨rfl, rfl⟩
    · have h1' : w.cell? ⟨B, 0 + 1, none⟩ = some (.int .i64 b) := h1
      by_cases hb0 : b = 0
      · have hb : (b != 0) = false := by simpa using hb0
        have HK2 : Hid ((0 < 2 → a = 0) ∧ (1 < 2 → b = 0)) := ⟨fun _ => HK.out.1 (by omega), fun _ => hb0⟩
        clear hb0
        go_wp2_with fail
        go_round
        case rel => exact ⟨2, by omega, rfl, HK2⟩
        case measure => simp [intOf]
      · have hb : (b != 0) = true := by simpa using hb0
        have HE : Hid (orI a b = b) := if_neg (by have := HK.out.1 (by omega); simp [this])
        clear hb0
        go_wp2_with fail
        go_ret
        rw [HE.out]
        exact ⟨rfl, rfl⟩
    · have HE : Hid (orI a b = 0) := by
        show _ = _
        unfold orI
        rw [if_neg (by have := HK.out.1 (by omega); simp [this])]
        exact HK.out.2 (by omega)
      go_wp2_with fail
      go_ret
      rw [HE.out]
      exact ⟨rfl, rfl⟩
def cmpO (s : LK) (a b : Int) : Int := orI (Lib.compareInt (lvOf s b) (lvOf s a)) (Lib.compareInt b a)
theorem cmp_lt (u v : Int) : (Lib.compareInt u v < 0 ↔ u < v) ∧ (Lib.compareInt u v = 0 ↔ u = v) := by
  unfold Lib.compareInt
  split
  · omega
  · split <;> omega
theorem cmpO_lt (s : LK) (a b : Int) : cmpO s a b < 0 ↔ gtO s a b := by
  unfold cmpO orI gtO
  have h1 := cmp_lt (lvOf s b) (lvOf s a)
  have h2 := cmp_lt b a
  split
  · rename_i h; rw [h1.1]; have : lvOf s b ≠ lvOf s a := fun e => h (h1.2.2 e); omega
  · rename_i h; rw [h2.1]; have : lvOf s b = lvOf s a := h1.2.1 (Classical.not_not.1 h); omega
section
variable {w w' : World} {F : Nat → Prop} {L n : Nat} {s : LK} {y : Lay}
set_option maxRecDepth 100000 in
set_option maxHeartbeats 2000000 in
theorem closure_any {a b : Int} {xa xb : Ob} {B : Nat} (h : OK w F L n s y) (hB : w.cell? ⟨B, 0, none⟩ = some (ptr L)) (ha : s.o a = some xa) (hb : s.o b = some xb) (hia : InI a) (hib : InI b) :
    Calls Try.prog 69 #[.int .i64 a, .int .i64 b, .pointer (some ⟨B, 0, none⟩)] w fun e w' => e = .returned (.int .i64 (cmpO s a b)) ∧ ∃ q os, w' = Sort.grow (w.drewN q) os := by
  have SX : Hid (w.drew.cell? ⟨B, 0, none⟩ = some (ptr L) ∧ OK w.drew F L n s y) := ⟨hB, h.drew⟩
  have HF : Hid (∀ Q, OK Q F L n s y → Q.cell? ⟨L, 0, none⟩ = some (.map (some y.mo)) ∧ (Instr.lookup 53 (.map (some y.mo)) (.int .i64 b) false).run Try.prog Q = .ok (ptr (y.ob b)) Q ∧ (Instr.lookup 53 (.map (some y.mo)) (.int .i64 a) false).run Try.prog Q = .ok (ptr (y.ob a)) Q ∧ Q.cell? ⟨y.ob b, 1, none⟩ = some (.int .i64 xb.lv) ∧ Q.cell? ⟨y.ob a, 1, none⟩ = some (.int .i64 xa.lv)) := fun Q hQ => by
    have k1 := hQ.lookO hib
    have k2 := hQ.lookO hia
    rw [fo_some hb] at k1
    rw [fo_some ha] at k2
    exact ⟨hQ.c0, k1, k2, Row.cell (hQ.obj _ _ hb).2.1 (i := 1) (by omega), Row.cell (hQ.obj _ _ ha).2.1 (i := 1) (by omega)⟩
  have HC1 := Lib.hid (fun Q => Try.cmp_Compare_int xb.lv xa.lv Q)
  have HC2 := Lib.hid (fun Q => Try.cmp_Compare_int b a Q)
  have HE : Hid (cmpO s a b = orI (Lib.compareInt xb.lv xa.lv) (Lib.compareInt b a)) := by
    show _ = _
    unfold cmpO lvOf
    rw [ha, hb]
  obtain ⟨c1, hc1⟩ : ∃ c, Lib.compareInt xb.lv xa.lv = c := ⟨_, rfl⟩
  obtain ⟨c2, hc2⟩ : ∃ c, Lib.compareInt b a = c := ⟨_, rfl⟩
  rw [hc1] at HC1
  rw [hc2] at HC2
  rw [hc1, hc2] at HE
  clear h hB ha hb hia hib hc1 hc2
  go_enter Try.func69, Try.ntmps69
  go_wp2_with fail
  refine wp_region_pl (fun Y => Y.cell? ⟨B, 0, none⟩ = some (ptr L) ∧ OK Y F L n s y) ((0, 0) :: (1, 0) :: (2, 0) :: (3, 0) :: (4, 0) :: (5, 0) :: (6, 0) :: (7, 0) :: (8, 0) :: (9, 0) :: (10, 0) :: (11, 0) :: (12, 0) :: (13, 0) :: (14, 0) :: (15, 0) :: (16, 0) :: (17, 0) :: (18, 0) :: (19, 0) :: (20, 0) :: (21, 0) :: (22, 1) :: (23, 1) :: (24, 0) :: []) (by kernel_rfl) (by kernel_rfl) ?_
  generalize hw0 : w.drew = w0 at *
  have HW0 := Lib.hid hw0
  clear hw0
  iterate 18 (apply wpP_go; (focus rfl); (focus rfl); (focus exact SX.out); (focus (rintro Q ⟨s0, s1⟩; obtain ⟨k0, k1, k2, k3, k4⟩ := HF.out Q s1; clear s1; go_simp; exact rfl)); intro K hK; go_simp; refine hK _ ?_; clear hK K)
  apply wpP_call
  focus rfl
  focus rfl
  focus exact SX.out
  focus (rintro Q ⟨s0, s1⟩; clear s1; go_simp; exact ⟨rfl, rfl⟩)
  focus (rintro Q _; exact (HC1.out Q).mono fun _ _ h => ⟨h.1, h.2.symm⟩)
  intro K hK
  go_simp
  refine hK _ ?_
  clear hK K
  iterate 2 (apply wpP_go; (focus rfl); (focus rfl); (focus exact SX.out); (focus (rintro Q ⟨s0, s1⟩; clear s1; go_simp; exact rfl)); intro K hK; go_simp; refine hK _ ?_; clear hK K)
  apply wpP_call
  focus rfl
  focus rfl
  focus exact SX.out
  focus (rintro Q ⟨s0, s1⟩; clear s1; go_simp; exact ⟨rfl, rfl⟩)
  focus (rintro Q _; exact (HC2.out Q).mono fun _ _ h => ⟨h.1, h.2.symm⟩)
  intro K hK
  go_simp
  refine hK _ ?_
  clear hK K
  have bal : Below w0.heap.size w0 (w0.alloc (.cells #[.int .i64 c1, .int .i64 c2] 3)) := (Below.refl _ _).alloc (Nat.le_refl _) _
  have hrow := Row.ofList w0 3 #[.int .i64 c1, .int .i64 c2] (fun j => if j = 0 then .int .i64 c1 else .int .i64 c2) 2 rfl
  have HO := Lib.hid (or_any c1 c2 (w0.alloc (.cells #[.int .i64 c1, .int .i64 c2] 3)) w0.heap.size (hrow.cell (i := 0) (by omega)) (hrow.cell (i := 1) (by omega)))
  have S2 : Hid ((w0.alloc (.cells #[.int .i64 c1, .int .i64 c2] 3)).cell? ⟨B, 0, none⟩ = some (ptr L) ∧ OK (w0.alloc (.cells #[.int .i64 c1, .int .i64 c2] 3)) F L n s y) := ⟨cell_later bal SX.out.1, SX.out.2.below bal⟩
  clear bal hrow
  apply wpP_one
  focus rfl
  intro K hK
  go_simp
  refine hK _ _ S2.out ?_
  clear hK K
  apply wpP_one
  focus rfl
  intro K hK
  go_simp
  refine HO.out.mono ?_
  rintro e w' ⟨rfl, rfl⟩
  refine hK _ _ S2.out ?_
  clear hK K
  apply wpP_go; (focus rfl); (focus rfl); (focus exact S2.out); (focus (rintro Q ⟨s0, s1⟩; clear s1; go_simp; exact rfl)); intro K hK; go_simp; refine hK _ ?_; clear hK K
  refine wpP_done ?_
  go_wp2_with fail
  go_ret
  rw [HE.out]
  refine ⟨rfl, 1, #[.cells #[.int .i64 c1, .int .i64 c2] 3], ?_⟩
  rw [← HW0.out, Sort.alloc_eq_grow]
  rfl
end
open Go.Sort in
theorem grown_putT {α : Type} [Inhabited α] (enc : α → Value) {w : World} {g n : Nat} {os : Array Obj} (d : Array α) : w.grownBy (sortWorld enc w g 0 n d os) (some g) := by
  refine ⟨rfl, rfl, rfl, by simp [sortWorld], fun k hk hne => ?_⟩
  unfold sortWorld
  rw [heap_grow_old _ _ (by simpa using hk)]
  have : g ≠ k := fun e => hne (by rw [e])
  simp [putRow, mapBlock, Sort.ahead, Array.getElem?_modify, this]
open Go.Sort in
theorem ltO (s : LK) {k : Nat} (l : List Int) (x y : Fin (k + 1)) : ltOf (fun x y : Fin (k + 1) => cmpO s (l.getD x.val 0) (l.getD y.val 0)) x y = true ↔ gtO s (l.getD x.val 0) (l.getD y.val 0) := by
  unfold ltOf
  rw [decide_eq_true_iff, cmpO_lt]
open Go.Sort in
theorem swoO (s : LK) (k : Nat) (l : List Int) : SWO (ltOf (fun x y : Fin (k + 1) => cmpO s (l.getD x.val 0) (l.getD y.val 0))) where
  irrefl x := by rw [← Bool.not_eq_true, ltO]; exact gtO.irr s _
  trans x y z h1 h2 := by rw [ltO] at *; exact h1.trans h2
  ntrans x y z h1 h2 := by
    rw [← Bool.not_eq_true, ltO] at *
    unfold gtO at *
    omega
open Go.Sort in
theorem enc_putT {k : Nat} (w : World) (g : Nat) (l : List Int) (d : List (Fin (k + 1))) : putRow (fun i : Fin (k + 1) => Value.int .i64 (l.getD i.val 0)) w g 0 d.toArray = putRow (Value.int .i64) w g 0 ((d.map fun i => l.getD i.val 0).toArray) := by
  unfold putRow
  congr 1
  funext c
  unfold putCells
  congr 1
  funext j x
  simp only [Nat.zero_add, Nat.sub_zero, List.size_toArray, List.length_map]
  by_cases h : j < d.length
  · simp [h]
  · simp [h]
theorem fin_map {k : Nat} (l : List Int) (hl : l.length = k + 1) : (List.finRange (k + 1)).map (fun i => l.getD i.val 0) = l := by
  apply List.ext_getElem
  · simp [hl]
  · intro j h1 h2
    simp [h2]
open Go.Sort in
set_option maxHeartbeats 1000000 in
/-- SortFunc with Abort's comparison. -/
theorem sortO {w : World} {F : Nat → Prop} {L n : Nat} {s : LK} {y : Lay} {B g cp k : Nat} {l : List Int} (h : OK w F L n s y) (hB : w.cell? ⟨B, 0, none⟩ = some (ptr L)) (hBl : B < w.heap.size) (hBg : B ≠ g) (hg : F g) (hr : OI w (.slice (some ⟨g, 0, none⟩) (k + 1) cp) l) (hl : l.length = k + 1) (hk : k ≤ 1000) (hn : l.Nodup)
    (hm : ∀ a ∈ l, InI a ∧ (s.o a).isSome = true) :
    Calls Try.prog 68 #[.slice (some ⟨g, 0, none⟩) (k + 1) cp, .func (.func 69) #[] #[.pointer (some ⟨B, 0, none⟩)]] w fun e w' => e = .returned (.tuple #[]) ∧ ∃ l' : List Int, l'.Perm l ∧ l'.Pairwise (gtO s) ∧ OI w' (.slice (some ⟨g, 0, none⟩) (k + 1) cp) l' ∧ Ch (fun x => x = g) w w' := by
  have hd := fin_map l hl
  have eg : ∀ args w, (callFunc 69 args).run Try.prog w = .ok (.enter 69 args) w := enters_of Try.func69 (by kernel_rfl) rfl
  have hr' := hr
  obtain ⟨_, ⟨hv, _⟩ | ⟨g', cp', cur, ev, _, hg', hnn, hmm, hsz, htt⟩⟩ := hr'
  · cases hv
  injection ev with e1 e2 e3
  injection e1 with e1
  have : g = g' := congrArg Addr.block e1
  subst this
  subst e3
  have hgl := heap_lt hg'
  have hH : Holds (fun i : Fin (k + 1) => Value.int .i64 (l.getD i.val 0)) w g 0 (List.finRange (k + 1)).toArray := by
    intro j hj
    have hj' : j < k + 1 := by simpa using hj
    have hrow : w.ownsRow 0 3 1 (.slice (some ⟨g, 0, none⟩) (k + 1) cp) (k + 1) (l.map (Value.int .i64)) := by
      have h9 := hr
      unfold OI at h9
      rw [hl] at h9
      exact h9
    rw [Nat.zero_add]
    refine ⟨?_, World.ownsRow.frozenAt hrow j⟩
    rw [World.ownsRow.cellAt hrow j (by omega)]
    simp [hj', hl]
  have hcmp : CmpLays1 Try.prog 69 #[.pointer (some ⟨B, 0, none⟩)] (fun i : Fin (k + 1) => Value.int .i64 (l.getD i.val 0)) (fun x y : Fin (k + 1) => cmpO s (l.getD x.val 0) (l.getD y.val 0)) g 0 (List.finRange (k + 1)).toArray.size w := by
    intro m os dk _ x z
    have hmem : ∀ i : Fin (k + 1), l.getD i.val 0 ∈ l := fun i => by
      have hi : i.val < l.length := by rw [hl]; exact i.isLt
      rw [List.getD_eq_getElem?_getD, List.getElem?_eq_getElem hi]; exact List.getElem_mem hi
    have c : Ch (fun x => x = g) w (sortWorld (fun i : Fin (k + 1) => Value.int .i64 (l.getD i.val 0)) w g 0 m dk os) := Ch.of_grown (grown_putT _ dk) (fun k hk _ => by injection hk with hk; exact hk.symm)
    obtain ⟨xa, hxa⟩ := Option.isSome_iff_exists.1 (hm _ (hmem x)).2
    obtain ⟨xb, hxb⟩ := Option.isSome_iff_exists.1 (hm _ (hmem z)).2
    exact closure_any (h.foreignT (c.mono fun k hk _ => by rw [hk]; exact hg)) ((c.cell (p := ⟨B, 0, none⟩) hBl hBg).trans hB) hxa hxb (hm _ (hmem x)).1 (hm _ (hmem z)).1
  have hcon := Try.slices_SortFunc (fun i : Fin (k + 1) => Value.int .i64 (l.getD i.val 0)) (fun _ => rfl) (fun x y : Fin (k + 1) => cmpO s (l.getD x.val 0) (l.getD y.val 0)) (swoO s k l) 69 #[.pointer (some ⟨B, 0, none⟩)] g 0 cp (List.finRange (k + 1)).toArray w eg hcmp hH hgl (by simp; omega)
  rw [List.size_toArray, List.length_finRange] at hcon
  refine hcon.mono ?_
  rintro e w' ⟨he, d', q, os, hp, hs, rfl⟩
  have hsz' : d'.size = k + 1 := by have := hp.1; simpa using this
  have hp3 : d'.toList.Perm (List.finRange (k + 1)) := by
    have := hp.2.2
    have e9 : ∀ (a : Array (Fin (k + 1))) (m : Nat), m = a.size → a.extract 0 m = a := fun a m hm => by subst hm; simp
    have e1 := e9 d' (k + 1) hsz'.symm
    have e2 := e9 (List.finRange (k + 1)).toArray (k + 1) (by simp)
    rw [e1, e2] at this
    simpa using this
  have hpl : (d'.toList.map (fun i => l.getD i.val 0)).Perm l := by
    have := hp3.map (fun i : Fin (k + 1) => l.getD i.val 0)
    rwa [hd] at this
  have hnl : (d'.toList.map (fun i => l.getD i.val 0)).Nodup := hpl.nodup_iff.2 hn
  refine ⟨he, d'.toList.map (fun i => l.getD i.val 0), hpl, ?_, ?_, ?_⟩
  · rw [List.pairwise_iff_getElem]
    intro i j hi hj hij
    have hi' : i < d'.size := by simpa using hi
    have hj' : j < d'.size := by simpa using hj
    have h9 := hs i j (Nat.zero_le _) hij (by omega)
    rw [← Bool.not_eq_true, ltO, getElem!_pos d' j hj', getElem!_pos d' i hi'] at h9
    have hne : (d'.toList.map (fun i => l.getD i.val 0))[i] ≠ (d'.toList.map (fun i => l.getD i.val 0))[j] := fun e => by
      have := (List.getElem_inj hnl).1 e
      omega
    rcases gtO.total s hne with h8 | h8
    · exact h8
    · exact absurd (by simpa using h8) h9
  · unfold OI
    have hle : (d'.toList.map (fun i => l.getD i.val 0)).length = k + 1 := by simpa using hsz'
    rw [hle]
    have h2 := ownsRow_sorted_i (w := w) (base := 0) (os := os) (n := q) (ss := l) (ts := d'.toList.map (fun i => l.getD i.val 0)) (by rw [hle, hl]) (Nat.zero_le _) hg' hnn hmm hsz
    have h3 : sortWorld (fun i : Fin (k + 1) => Value.int .i64 (l.getD i.val 0)) w g 0 q d' os = grow (putRow (Value.int .i64) (Sort.ahead w q) g 0 (d'.toList.map (fun i => l.getD i.val 0)).toArray) os := by
      unfold sortWorld
      rw [← enc_putT]
    rw [h3]
    rw [hl] at h2
    exact h2
  · exact Ch.of_grown (grown_putT _ d') (fun k hk _ => by injection hk with hk; exact hk.symm)
end Go.Proofs.Ytefgfmnnaglfmaa
namespace Go.Proofs.Ytefgfmnnaglfmaa
open Go.RowKit
def abR (s : LK) (t : Int) (l : List Int) : LK := match s.t t with
  | none => s
  | some _ => (abF (if (stT s t).st = 2 then stopS s t 0 else s) l).setT t none
theorem abF_si {t : Int} : ∀ (l : List Int) (s : LK), SI s → (stT s t).st ≠ 2 → (0 ≤ t ∧ t < 4) → l.Nodup → (∀ a ∈ l, a ∈ (stT s t).hd) → SI (abF s l) ∧ (stT (abF s l) t).st = (stT s t).st ∧ (∀ j, lvOf (abF s l) j = lvOf s j) ∧ ∀ a, a ∈ (stT (abF s l) t).hd ↔ a ∈ (stT s t).hd ∧ a ∉ l
  | [], s, h, _, _, _, _ => ⟨h, rfl, fun _ => rfl, fun a => by simp [abF]⟩
  | b :: r, s, h, h2, ht, hn, hm => by
    obtain ⟨x, hx, hmx, hct, how⟩ := (h.hd t b).1 (hm b (List.mem_cons_self))
    obtain ⟨f1, f2, f3, f4⟩ := free_of h hx hmx how h2 ht
    have hn' := List.nodup_cons.1 hn
    obtain ⟨g1, g2, g3, g4⟩ := abF_si r (freeS s b) f1 (by rw [f2]; exact h2) ht hn'.2 (fun a ha => (f4 a).2 ⟨fun e => hn'.1 (by rw [← e]; exact ha), hm a (List.mem_cons_of_mem _ ha)⟩)
    refine ⟨g1, g2.trans f2, fun j => (g3 j).trans (f3 j), fun a => ?_⟩
    show a ∈ (stT (abF (freeS s b) r) t).hd ↔ _
    rw [g4 a, f4 a, List.mem_cons]
    constructor
    · rintro ⟨⟨h1, h2⟩, h3⟩; exact ⟨h2, fun h => h.elim h1 h3⟩
    · rintro ⟨h1, h2⟩; exact ⟨⟨fun h => h2 (.inl h), h1⟩, fun h => h2 (.inr h)⟩
/-- Two states that differ in thread t alone, its mutexes the same. -/
def Sim (t : Int) (a b : LK) : Prop := a.o = b.o ∧ (∀ j, (stT a j).hd = (stT b j).hd) ∧ ∀ j, j ≠ t → a.t j = b.t j
theorem Sim.T {t : Int} {a b : LK} (h : Sim t a b) {j : Int} (hj : j ≠ t) : stT a j = stT b j := by unfold stT; rw [h.2.2 j hj]
theorem Sim.up {t i : Int} {a b : LK} {f : Th → Th} (h : Sim t a b) (hf : ∀ x y : Th, x.hd = y.hd → (f x).hd = (f y).hd) : Sim t (a.upT i f) (b.upT i f) := by
  refine ⟨h.1, fun j => ?_, fun j hj => ?_⟩
  · rw [stT_upT, stT_upT]
    split
    · exact hf _ _ (h.2.1 i)
    · exact h.2.1 j
  · show (if j = i then some (f (stT a i)) else a.t j) = if j = i then some (f (stT b i)) else b.t j
    by_cases e : j = i
    · rw [if_pos e, if_pos e, ← e, h.T hj]
    · rw [if_neg e, if_neg e]; exact h.2.2 j hj
theorem Sim.so {t i : Int} {a b : LK} (h : Sim t a b) (x : Option Ob) : Sim t (a.setO i x) (b.setO i x) := ⟨by show (fun j => if j = i then x else a.o j) = fun j => if j = i then x else b.o j; rw [h.1], h.2.1, h.2.2⟩
theorem Sim.uo {t i : Int} {a b : LK} (h : Sim t a b) (f : Ob → Ob) : Sim t (a.upO i f) (b.upO i f) := by
  have := h.so (i := i) ((a.o i).map f)
  unfold LK.upO
  rw [show b.o i = a.o i by rw [h.1]]
  exact this
theorem Sim.free {t id : Int} {a b : LK} (h : Sim t a b) : Sim t (freeS a id) (freeS b id) := by
  unfold freeS
  rw [show b.o id = a.o id by rw [h.1]]
  rcases a.o id with _ | x
  · exact h
  · have h1 : Sim t (takeS a id x) (takeS b id x) := (h.up (i := x.ow) (f := fun t => { t with hd := t.hd.erase id }) (fun p q e => by show p.hd.erase id = q.hd.erase id; rw [e])).so _
    show Sim t (giveS _ _ _) (giveS _ _ _)
    unfold giveS
    rcases x.q with _ | ⟨c, r⟩
    · exact h1
    · exact ((h1.so _).uo _).up (fun p q e => by show p.hd ++ [id] = q.hd ++ [id]; rw [e])
theorem Sim.abF {t : Int} : ∀ (l : List Int) {a b : LK}, Sim t a b → Sim t (abF a l) (abF b l)
  | [], _, _, h => h
  | _ :: r, _, _, h => Sim.abF r h.free
theorem stT_gone (s : LK) (t j : Int) : stT (s.setT t none) j = if j = t then th0 else stT s j := by
  unfold stT LK.setT
  by_cases e : j = t <;> simp [e]
/-- The state behind Abort: what the reference's state says, and that it is a good one. -/
theorem ab_rel {s : LK} {t : Int} {l : List Int} (h : SI s) (ht : 0 ≤ t ∧ t < 4) (hp : l.Pairwise (gtO s)) (hm : ∀ a, a ∈ l ↔ a ∈ (stT s t).hd) :
    SI (abR s t l) ∧ (abR s t l).o = (abF (ab0 s t) l).o ∧ ∀ j, (stT (abR s t l) j).st = (stT (abF (ab0 s t) l) j).st ∧ ((stT (abF (ab0 s t) l) j).st = 2 → (stT (abR s t l) j).en = (stT (abF (ab0 s t) l) j).en ∧ (stT (abR s t l) j).dl = (stT (abF (ab0 s t) l) j).dl) := by
  have h0 := ab0_si h ht
  have hT0 := ab0_T s t
  have hnd : l.Nodup := hp.imp (fun {a b} hg e => by rw [e] at hg; exact gtO.irr s b hg)
  obtain ⟨g1, g2, g3, g4⟩ := abF_si l (ab0 s t) h0 (by rw [hT0, if_pos rfl]; show (0 : Int) ≠ 2; omega) ht hnd (fun a ha => by rw [hT0, if_pos rfl]; exact (hm a).1 ha)
  have g2' : (stT (Ytefgfmnnaglfmaa.abF (ab0 s t) l) t).st = 0 := by rw [g2, hT0, if_pos rfl]
  have ghd : (stT (Ytefgfmnnaglfmaa.abF (ab0 s t) l) t).hd = [] := by
    apply List.eq_nil_iff_forall_not_mem.2
    intro a ha
    have h9 := (g4 a).1 ha
    rw [hT0, if_pos rfl] at h9
    exact h9.2 ((hm a).2 h9.1)
  unfold abR
  rcases hs : s.t t with _ | th
  · have hT : stT s t = th0 := by unfold stT; rw [hs]; rfl
    have hl : l = [] := List.eq_nil_iff_forall_not_mem.2 fun a ha => by have := (hm a).1 ha; rw [hT] at this; cases this
    subst hl
    have e0 : ab0 s t = s.upT t fun x => { x with st := 0 } := by unfold ab0; rw [hT]; exact if_neg (by show ¬ (0 : Int) = 2; omega)
    refine ⟨h, ?_, fun j => ?_⟩
    · show s.o = (ab0 s t).o; rw [e0]; rfl
    · show (stT s j).st = (stT (ab0 s t) j).st ∧ _
      have : (stT (ab0 s t) j).st = (stT s j).st ∧ (stT (ab0 s t) j).en = (stT s j).en ∧ (stT (ab0 s t) j).dl = (stT s j).dl := by
        rw [hT0]
        by_cases e : j = t
        · rw [if_pos e, e, hT]; exact ⟨rfl, rfl, rfl⟩
        · rw [if_neg e]; exact ⟨rfl, rfl, rfl⟩
      exact ⟨this.1.symm, fun _ => ⟨this.2.1.symm, this.2.2.symm⟩⟩
  · have hsim : Sim t (Ytefgfmnnaglfmaa.abF (if (stT s t).st = 2 then stopS s t 0 else s) l) (Ytefgfmnnaglfmaa.abF (ab0 s t) l) := by
      apply Sim.abF
      unfold ab0
      split
      · exact ⟨rfl, fun _ => rfl, fun _ _ => rfl⟩
      · refine ⟨rfl, fun j => ?_, fun j hj => ?_⟩
        · rw [stT_upT]
          by_cases e : j = t
          · rw [if_pos e, e]
          · rw [if_neg e]
        · show s.t j = if j = t then _ else s.t j
          rw [if_neg hj]
    generalize Ytefgfmnnaglfmaa.abF (if (stT s t).st = 2 then stopS s t 0 else s) l = p at *
    generalize Ytefgfmnnaglfmaa.abF (ab0 s t) l = q at *
    have hTT : ∀ j, stT (p.setT t none) j = if j = t then th0 else stT q j := fun j => by
      rw [stT_gone]
      by_cases e : j = t
      · rw [if_pos e, if_pos e]
      · rw [if_neg e, if_neg e, hsim.T e]
    refine ⟨SIf.si (s := p.setT t none) ?_ (fun j hj => ?_) (fun j hj => ?_), hsim.1, fun j => ?_⟩
    · show SIf p.o _
      rw [hsim.1]
      refine ⟨fun i id => ?_, fun i => ?_, g1.qn, fun k y hy u hu => ?_, fun u hu => ?_, g1.q0, g1.ct, g1.lv⟩
      · rw [hTT, ← g1.hd]
        by_cases e : i = t
        · rw [if_pos e, e, ghd]; exact Iff.rfl
        · rw [if_neg e]
      · rw [hTT]
        split
        · exact List.nodup_nil
        · exact g1.hn i
      · have h9 := g1.qs k y hy u hu
        rw [hTT, if_neg (fun e => by rw [e, g2'] at h9; exact absurd h9.1 (by omega))]
        exact h9
      · rw [hTT] at hu ⊢
        by_cases e : u = t
        · rw [if_pos e] at hu; cases hu
        · rw [if_neg e] at hu ⊢; exact g1.sq u hu
    · by_cases e : j = t
      · rw [e]; exact ht
      · have hj' : (p.t j).isSome = true := by
          have : (p.setT t none).t j = p.t j := by show (if j = t then _ else _) = _; rw [if_neg e]
          rw [← this]; exact hj
        exact g1.ti j (by rw [← hsim.2.2 j e]; exact hj')
    · exact g1.oi j (by rw [← hsim.1]; exact hj)
    · rw [hTT]
      by_cases e : j = t
      · rw [if_pos e, e, g2']; exact ⟨rfl, fun h => by omega⟩
      · rw [if_neg e]; exact ⟨rfl, fun _ => ⟨rfl, rfl⟩⟩
section
variable {w w' : World} {F : Nat → Prop} {L n : Nat} {s : LK} {y : Lay}
set_option maxRecDepth 100000 in
set_option maxHeartbeats 1000000 in
theorem stop_any2 {i st : Int} {t : Th} {x : Ob} (h : OK w F L n s y) (hi : InI i) (ht : s.t i = some t) (hI : InI t.ob) (hs : s.o t.ob = some x) (hl : x.q.length ≤ 1000) :
    Calls Try.prog 38 #[ptr L, .int .i64 i, .int .i64 st] w fun e w' => e = .returned (.tuple #[]) ∧ (∃ y', OK w' F L n (stopS s i st) y' ∧ y'.th i = y.th i) ∧ Keep F w w' := by
  have c1 := h.c1
  have hlt := h.lookT hi
  rw [ft_some ht] at hlt
  obtain ⟨lO, rO, qO, _⟩ := h.obj _ _ hs
  obtain ⟨lT, rT, qT, _⟩ := h.thr _ _ ht
  have hot : y.ob t.ob ≠ y.th i := h.ot hs ht
  have S1 : Hid (w.drew.cell? ⟨L, 0, none⟩ = some (.map (some y.mo)) ∧ w.drew.cell? ⟨y.th i, 1, none⟩ = some (.int .i64 t.ob) ∧ (Instr.lookup 53 (.map (some y.mo)) (.int .i64 t.ob) false).run Try.prog w.drew = .ok (ptr (y.ob t.ob)) w.drew) := ⟨h.drew.c0, Row.cell rT (i := 1) (by omega), by rw [← fo_some (y := y) hs]; exact h.drew.lookO hI⟩
  have H1 := h.drew
  have hbw : Keep F w w.drew := (Keep.refl _ _).drew
  have o4 : w.drew.cell? ⟨y.ob t.ob, 4, none⟩ = some (y.qv t.ob) := Row.cell rO (i := 4) (by omega)
  have t0 : w.drew.cell? ⟨y.th i, 0, none⟩ = some (.int .i64 t.st) := Row.cell rT (i := 0) (by omega)
  have g0 : w.drew.frozen? ⟨y.th i, 0, none⟩ = false := Row.frozen rT 0
  have qO1 : QR w.drew F (y.qv t.ob) x.q := qO
  have esT : stT s i = t := by unfold stT; rw [ht]; rfl
  by_cases hm : i ∈ x.q
  · obtain ⟨k, hk, hix, her⟩ := idx_mem hm
    rcases qO1.cases with ⟨_, e⟩ | ⟨g, cap, e⟩
    · rw [e] at hm; cases hm
    have HDO := Lib.hid fun q => H1.delO hs e hk q
    rw [e] at qO1 o4
    have HIX : Hid (Calls Try.prog 58 #[.slice (some ⟨g, 0, none⟩) x.q.length cap, .int .i64 i] w.drew fun e w' => e = .returned (.int .i64 (k : Int)) ∧ w.drew = w') := by
      have := idx_call (w := w.drew) (a := i) qO1
      rw [hix] at this
      exact this
    have HDC := Lib.hid (del_call (w := w.drew) (k := k) qO1 hk)
    have hkI : (k : Int) ≤ 1000 := by omega
    obtain ⟨vs, hvs⟩ : ∃ vs, (x.q.take k ++ x.q.drop (k + 1) ++ [0]).map (Value.int .i64) = vs := ⟨_, rfl⟩
    rw [hvs] at HDC HDO
    rw [her] at HDO
    have hsf : stopS s i st = (s.setO t.ob (some { x with q := x.q.erase i })).setT i (some { t with st := st }) := by
      unfold stopS LK.upO LK.upT
      rw [esT, hs]
      show (s.setO t.ob _).setT i (some { stT s i with st := st }) = _
      rw [esT]; rfl
    obtain ⟨m, hm'⟩ : ∃ m, x.q.length = m := ⟨_, rfl⟩
    rw [hm'] at HIX HDC HDO o4 hl
    clear h rO rT qT qO qO1 hvs her hix esT
    go_enter Try.func38, Try.ntmps38
    go_wp2_with fail
    refine wp_region_pl (fun X => X.cell? ⟨L, 0, none⟩ = some (.map (some y.mo)) ∧ X.cell? ⟨y.th i, 1, none⟩ = some (.int .i64 t.ob) ∧ (Instr.lookup 53 (.map (some y.mo)) (.int .i64 t.ob) false).run Try.prog X = .ok (ptr (y.ob t.ob)) X)
      ((0, 0) :: (1, 0) :: (2, 0) :: (3, 0) :: (4, 0) :: (5, 0) :: (6, 0) :: (7, 0) :: (8, 0) :: (9, 0) :: []) (by kernel_rfl) (by kernel_rfl) ?_
    iterate 10 (apply wpP_go; (focus rfl); (focus rfl); (focus exact S1.out); (focus (rintro X ⟨s0, s1, s2⟩; go_simp; exact rfl)); intro K hK; go_simp; refine hK _ ?_; clear hK K)
    refine wpP_done ?_
    clear S1 c1 hlt
    generalize w.drew = V at *
    go_wp2_with fail
    refine HIX.out.mono ?_
    rintro e1 w1 ⟨rfl, rfl⟩
    have hk0 : ¬ (k : Int) < 0 := by omega
    go_wp2_with fail
    refine HDC.out.mono ?_
    rintro e1 w1 ⟨rfl, q, rfl⟩
    obtain ⟨hok, c4, f4, hb⟩ := HDO.out q
    rw [e, hm'] at c4
    have htA : (s.setO t.ob (some { x with q := x.q.erase i })).t i = some t := ht
    have A := hok.sSt htA st
    obtain ⟨_, rT2, _⟩ := hok.thr _ _ htA
    have p0 := Row.cell rT2 (i := 0) (by omega)
    have pf := Row.frozen rT2 0
    have e2 : (y.setQ t.ob (.slice (some ⟨g, 0, none⟩) (m - 1) cap) V.heap.size).th i = y.th i := rfl
    rw [e2] at p0 pf A
    rw [World.frozen?_setCell] at pf
    have p0' : ((V.drewN q).setCells g 0 vs).cell? ⟨y.th i, 0, none⟩ = some (.int .i64 t.st) := by
      have h1 : (((V.drewN q).setCells g 0 vs).setCell ⟨y.ob t.ob, 4, none⟩ (.slice (some ⟨g, 0, none⟩) (m - 1) cap)).cell? ⟨y.th i, 0, none⟩ = ((V.drewN q).setCells g 0 vs).cell? ⟨y.th i, 0, none⟩ := World.cell?_setCell_other _ _ _ _ (by intro h; exact hot (congrArg Addr.block h))
      exact h1.symm.trans p0
    have hF : (fun w' => (∃ y', OK w' F L n (stopS s i st) y' ∧ y'.th i = y.th i) ∧ Keep F w w') (((((V.drewN q).setCells g 0 vs).setCell ⟨y.ob t.ob, 4, none⟩ (.slice (some ⟨g, 0, none⟩) (m - 1) cap))).setCell ⟨y.th i, 0, none⟩ (.int .i64 st)) := by
      show (∃ y', OK _ F L n (stopS s i st) y' ∧ y'.th i = y.th i) ∧ _
      rw [hsf]
      exact ⟨⟨_, A, rfl⟩, (hbw.trans hb).trans ((Keep.refl _ _).setCell (p := ⟨y.th i, 0, none⟩) lT _)⟩
    have HF := Lib.hid hF
    clear hok hb A rT2 p0 hF HDO HDC HIX e2
    generalize (V.drewN q).setCells g 0 vs = W0 at *
    go_wp2_with fail
    go_end0
    exact ⟨rfl, HF.out⟩
  · have hsf : stopS s i st = (s.setT i (some { t with st := st })) := by
      unfold stopS LK.upO LK.upT
      rw [esT, hs, Option.map_some, List.erase_of_not_mem hm]
      have e1 : s.setO t.ob (some x) = s := by
        unfold LK.setO
        have : (fun j => if j = t.ob then some x else s.o j) = s.o := by
          funext j
          by_cases e : j = t.ob
          · rw [if_pos e, e, hs]
          · rw [if_neg e]
        rw [this]
      show (s.setO t.ob (some x)).setT i (some { stT (s.setO t.ob (some x)) i with st := st }) = _
      rw [e1, esT]
    have HIX : Hid (Calls Try.prog 58 #[y.qv t.ob, .int .i64 i] w.drew fun e w' => e = .returned (.int .i64 (-1)) ∧ w.drew = w') := by
      rcases qO1.cases with ⟨e, e2⟩ | ⟨g, cap, e⟩
      · rw [e]
        have := Try.slices_Index_int_empty none 0 i w.drew
        exact this.mono fun e w' ⟨h1, h2⟩ => ⟨h1, h2.symm⟩
      · rw [e] at qO1 ⊢
        have := idx_call (w := w.drew) (a := i) qO1
        rw [idx_none hm] at this
        exact this
    have A := H1.sSt ht st
    have hF : (fun w' => (∃ y', OK w' F L n (stopS s i st) y' ∧ y'.th i = y.th i) ∧ Keep F w w') (w.drew.setCell ⟨y.th i, 0, none⟩ (.int .i64 st)) := by
      show (∃ y', OK _ F L n (stopS s i st) y' ∧ y'.th i = y.th i) ∧ _
      rw [hsf]
      exact ⟨⟨_, A, rfl⟩, hbw.trans ((Keep.refl _ _).setCell (p := ⟨y.th i, 0, none⟩) lT _)⟩
    have HF := Lib.hid hF
    clear h rO rT qT qO qO1 esT hF A
    go_enter Try.func38, Try.ntmps38
    go_wp2_with fail
    refine wp_region_pl (fun X => X.cell? ⟨L, 0, none⟩ = some (.map (some y.mo)) ∧ X.cell? ⟨y.th i, 1, none⟩ = some (.int .i64 t.ob) ∧ (Instr.lookup 53 (.map (some y.mo)) (.int .i64 t.ob) false).run Try.prog X = .ok (ptr (y.ob t.ob)) X)
      ((0, 0) :: (1, 0) :: (2, 0) :: (3, 0) :: (4, 0) :: (5, 0) :: (6, 0) :: (7, 0) :: (8, 0) :: (9, 0) :: []) (by kernel_rfl) (by kernel_rfl) ?_
    iterate 10 (apply wpP_go; (focus rfl); (focus rfl); (focus exact S1.out); (focus (rintro X ⟨s0, s1, s2⟩; go_simp; exact rfl)); intro K hK; go_simp; refine hK _ ?_; clear hK K)
    refine wpP_done ?_
    clear S1 c1 hlt
    generalize w.drew = V at *
    go_wp2_with fail
    refine HIX.out.mono ?_
    rintro e1 w1 ⟨rfl, rfl⟩
    go_wp2_with fail
    go_end0
    exact ⟨rfl, HF.out⟩
end
end Go.Proofs.Ytefgfmnnaglfmaa
namespace Go.Proofs.Ytefgfmnnaglfmaa
open Go.RowKit
section
variable {w w' : World} {F F' : Nat → Prop} {L n : Nat} {s : LK} {y : Lay}
theorem OK.shrink (h : OK w F' L n s y) (hF : ∀ k, F k → F' k) : OK w F L n s y :=
  ⟨h.top, h.mo, h.mt, h.ne, fun k => h.lL (hF _ k), fun k => h.lo (hF _ k), fun k => h.lt (hF _ k), h.rL, h.rmo, h.rmt, fun k hk => h.low k (hF k hk), fun k hk => h.fin k (hF k hk),
    fun i x hx => by obtain ⟨a, b, d, e, f⟩ := h.obj i x hx; exact ⟨fun k => a (hF _ k), b, ⟨d.1, fun g hg k => d.2 g hg (hF _ k)⟩, e, f⟩, fun i x hx => by obtain ⟨a, b, d, e, f⟩ := h.thr i x hx; exact ⟨fun k => a (hF _ k), b, ⟨d.1, fun g hg k => d.2 g hg (hF _ k)⟩, e, f⟩⟩
theorem Keep.shrink (h : Keep F' w w') (hF : ∀ k, F k → F' k) : Keep F w w' := Ch.mono h (fun k hk _ hf => hk (hF k hf))
theorem Keep.cell' (h : Keep F w w') (hfin : ∀ k, F k → k < w.heap.size) (p : Addr) (hp : F p.block) : w'.cell? p = w.cell? p := Ch.cell h p (hfin _ hp) (fun hn => hn hp)
theorem clone_ints {v : Value} {l : List Int} (hq : QR w F v l) (hl : l.length ≤ 1000) :
    Calls Try.prog 35 #[v] w fun e w' => ∃ v', e = .returned v' ∧ OI w' v' l ∧ (∀ g, v'.ownBlock = some g → w.heap.size ≤ g) ∧ Below w.heap.size w w' := by
  have own : ∀ {w' : World} {v' : Value} {m : Nat} {xs : List Value}, w'.ownsRow w.heap.size 3 1 v' m xs → w'.ownsRow 0 3 1 v' m xs ∧ ∀ g, v'.ownBlock = some g → w.heap.size ≤ g := fun {w' v' m xs} h => by
    refine ⟨⟨h.1, h.2.imp id ?_⟩, fun g hg => (h.lt g hg).1⟩
    rintro ⟨g, cap, cur, rfl, h1, r⟩
    exact ⟨g, cap, cur, rfl, Nat.zero_le _, r⟩
  rcases hq.cases with ⟨rfl, rfl⟩ | ⟨g, cap, rfl⟩
  · refine (Try.slices_Clone_int_nil 0 0 w).mono ?_
    rintro e w' ⟨rfl, rfl⟩
    exact ⟨_, rfl, OI.nil _, (fun g hg => by cases hg), Below.refl _ _⟩
  · by_cases hn : l = []
    · subst hn
      refine (Try.slices_Clone_int_zero ⟨g, 0, none⟩ cap w).mono ?_
      rintro e w' ⟨v', rfl, ho, _, hb⟩
      obtain ⟨h1, h2⟩ := own ho
      exact ⟨v', rfl, h1, h2, hb⟩
    · obtain ⟨_, _, _, h3, _⟩ := hq.cell
      refine (Try.slices_Clone_int g 0 l.length cap l w (Nat.le_refl _) (by omega) h3).mono ?_
      rintro e w' ⟨v', rfl, ho, _, hb⟩
      obtain ⟨h1, h2⟩ := own ho
      rw [List.take_length] at h1
      exact ⟨v', rfl, h1, h2, hb⟩
theorem sort_any {B m cp : Nat} {a : Option Addr} {l : List Int} (h : OK w F L n s y) (hB : w.cell? ⟨B, 0, none⟩ = some (ptr L)) (hBF : F B) (hBa : ∀ g, (Value.slice a m cp).ownBlock = some g → F g ∧ B ≠ g) (hr : OI w (.slice a m cp) l) (hl : l.length = m) (hk : m ≤ 1000) (hn : l.Nodup) (hm : ∀ a ∈ l, InI a ∧ (s.o a).isSome = true) :
    Calls Try.prog 68 #[.slice a m cp, .func (.func 69) #[] #[.pointer (some ⟨B, 0, none⟩)]] w fun e w' => e = .returned (.tuple #[]) ∧ ∃ l' : List Int, l'.Perm l ∧ l'.Pairwise (gtO s) ∧ OI w' (.slice a m cp) l' ∧ Ch (fun x => (Value.slice a m cp).ownBlock = some x) w w' := by
  rcases m with _ | k
  · refine (Try.slices_SortFunc_none (α := Nat) a cp _ w).mono ?_
    rintro e w' ⟨rfl, rfl⟩
    have : l = [] := List.eq_nil_of_length_eq_zero hl
    subst this
    exact ⟨rfl, [], List.Perm.refl _, List.Pairwise.nil, hr, Ch.refl _ _⟩
  · obtain ⟨a', cp', e, h1, h2, h3⟩ := own_form hr
    injection e with e1 e2 e3
    obtain ⟨g, rfl, _⟩ := h3 (by omega)
    subst e1
    obtain ⟨hg, hBg⟩ := hBa g rfl
    refine (sortO h hB (h.fin B hBF) hBg hg hr hl (by omega) hn hm).mono ?_
    rintro e w' ⟨he, l', h4, h5, h6, h7⟩
    exact ⟨he, l', h4, h5, h6, h7.mono (fun k hk _ => by rw [hk]; rfl)⟩
set_option maxRecDepth 100000 in
set_option maxHeartbeats 4000000 in
theorem abort_any {t : Int} (h : OK w F L n s y) (hI : SI s) (ht : 0 ≤ t ∧ t < 4) (hn : n ≤ 900000) :
    Calls Try.prog 49 #[ptr L, .int .i64 t] w fun e w' => e = .returned (.tuple #[]) ∧ ∃ l, l.Pairwise (gtO s) ∧ (∀ a, a ∈ l ↔ a ∈ (stT s t).hd) ∧ PO w F L (n + 6) (abR s t l) w' := by
  have hti : InI t := ⟨by omega, by omega⟩
  have bal : Below w.heap.size w (w.alloc (.cells #[ptr L] 23)) := (Below.refl _ _).alloc (Nat.le_refl _) _
  obtain ⟨y1, h1⟩ := h.adoptT (w' := w.alloc (.cells #[ptr L] 23)) (Ch.of_below bal _) (G := fun k => k = w.heap.size) (fun k hk => by subst hk; simp)
  have HB1 : Hid ((w.alloc (.cells #[ptr L] 23)).cell? ⟨w.heap.size, 0, none⟩ = some (ptr L)) := Row.cell (Row.ofList w 23 #[ptr L] (fun _ => ptr L) 1 rfl) (i := 0) (by omega)
  have HK1 : Hid (Keep F w (w.alloc (.cells #[ptr L] 23))) := Keep.of bal
  have HI := Lib.hid hI
  have hwB : w.heap.size < (w.alloc (.cells #[ptr L] 23)).heap.size := by simp
  have HH := Lib.hid (h.below bal)
  clear h hI bal
  go_enter Try.func49, Try.ntmps49
  go_upto_region 1 with fail
  generalize w.alloc (.cells #[ptr L] 23) = w1 at *
  obtain ⟨B, hB⟩ : ∃ B, w.heap.size = B := ⟨_, rfl⟩
  simp only [hB]
  rw [hB] at h1 HB1 hwB
  clear hB
  have H1 := Lib.hid h1
  have b0 := HB1.out
  have c1 := h1.c1
  have hlt := h1.lookT hti
  rcases hs : s.t t with _ | th
  · rw [ft_none hs] at hlt
    have HE : Hid (abR s t [] = s ∧ (stT s t).hd = []) := ⟨by unfold abR; rw [hs], by unfold stT; rw [hs]; rfl⟩
    clear h1 hs
    go_wp2_with fail
    refine bodyPost_ret (results_none rfl _ _ _) rfl ?_
    refine ⟨rfl, [], List.Pairwise.nil, fun a => by rw [HE.out.2], ?_⟩
    rw [HE.out.1]
    exact ⟨⟨y, HH.out.mono (by omega)⟩, HK1.out⟩
  · rw [ft_some hs] at hlt
    have hTs : stT s t = th := by unfold stT; rw [hs]; rfl
    obtain ⟨lT, rT, qT, _⟩ := h1.thr _ _ hs
    have t0 : w1.cell? ⟨y1.th t, 0, none⟩ = some (.int .i64 th.st) := Row.cell rT (i := 0) (by omega)
    obtain ⟨TB, hTB⟩ : ∃ b, y1.th t = b := ⟨_, rfl⟩
    rw [hTB] at hlt t0
    obtain ⟨s1, hs1⟩ : ∃ s1, (if (stT s t).st = 2 then stopS s t 0 else s) = s1 := ⟨_, rfl⟩
    have HS1 : Hid ((if (stT s t).st = 2 then stopS s t 0 else s) = s1 ∧ s.t t = some th ∧ y1.th t = TB) := ⟨hs1, hs, hTB⟩
    have hs1T : SI s1 ∧ (stT s1 t).st ≠ 2 ∧ (stT s1 t).hd = th.hd ∧ (∀ j, lvOf s1 j = lvOf s j) ∧ (s1.t t).isSome = true := by
      rw [← hs1]
      by_cases h2 : (stT s t).st = 2
      · rw [if_pos h2]
        refine ⟨HI.out.stop h2 (by omega), ?_, ?_, fun j => ?_, ?_⟩
        · rw [stop_T, if_pos rfl]; show (0 : Int) ≠ 2; omega
        · rw [stop_T, if_pos rfl, hTs]
        · have := ab0_lv HI.out t j; unfold ab0 at this; rwa [if_pos h2] at this
        · show ((LK.upT _ _ _).t t).isSome = true
          unfold LK.upT; rw [LK.at_t]; rfl
      · rw [if_neg h2]; exact ⟨HI.out, h2, by rw [hTs], fun _ => rfl, by rw [hs]; rfl⟩
    have HST := Lib.hid hs1T
    have HSTOP : Hid (th.st = 2 → Calls Try.prog 38 #[ptr L, .int .i64 t, .int .i64 0] w1 fun e w' => e = .returned (.tuple #[]) ∧ (∃ y', OK w' (fun k => F k ∨ k = B) L n s1 y' ∧ y'.th t = TB) ∧ Keep (fun k => F k ∨ k = B) w1 w') := fun h2 => by
      have h2' : (stT s t).st = 2 := by rw [hTs]; exact h2
      obtain ⟨x, hx, hm⟩ := HI.out.sq t h2'
      rw [hTs] at hx
      have := stop_any2 (st := 0) H1.out hti hs (by have := HI.out.io hx; exact ⟨by omega, by omega⟩) hx (by have := HI.out.ql hx; omega)
      rw [← hs1, if_pos h2', ← hTB]
      exact this
    have HNO : Hid (th.st ≠ 2 → s1 = s) := fun h2 => by rw [← hs1, if_neg (by rw [hTs]; exact h2)]
    obtain ⟨st, hst⟩ : ∃ z, th.st = z := ⟨_, rfl⟩
    rw [hst] at t0 HSTOP HNO
    clear h1 hs hs1 hs1T hTs lT rT qT hTB hst
    go_upto_if 20 with fail
    go_cut [] (fun wx => Hid (∃ y2, OK wx (fun k => F k ∨ k = B) L n s1 y2 ∧ y2.th t = TB) ∧ Hid (Keep (fun k => F k ∨ k = B) w1 wx))
    case first =>
      by_cases h2 : st = 2
      · have HC := Lib.hid (HSTOP.out h2)
        subst h2
        clear HSTOP HNO
        go_wp2_with fail
        refine HC.out.mono ?_
        rintro e w2 ⟨rfl, h3, h4⟩
        have HR : Hid (∃ y2, OK w2 (fun k => F k ∨ k = B) L n s1 y2 ∧ y2.th t = TB) := h3
        have HK : Hid (Keep (fun k => F k ∨ k = B) w1 w2) := h4
        clear h3 h4 HC
        go_wp2_with fail
        go_meet
        exact ⟨HR, HK⟩
      · have h2b : (st == 2) = false := by simpa using h2
        have HR : Hid (∃ y2, OK w1 (fun k => F k ∨ k = B) L n s1 y2 ∧ y2.th t = TB) := ⟨y1, by rw [HNO.out h2]; exact H1.out, HS1.out.2.2⟩
        have HK : Hid (Keep (fun k => F k ∨ k = B) w1 w1) := Keep.refl _ _
        clear HSTOP HNO h2
        go_wp2_with fail
        go_meet
        exact ⟨HR, HK⟩
    case rest =>
      obtain ⟨HR, HK⟩ := hcut
      clear HSTOP HNO t0 c1 hlt b0
      obtain ⟨y2, h2, hyt⟩ := HR.out
      obtain ⟨th1, hth1⟩ := Option.isSome_iff_exists.1 HST.out.2.2.2.2
      have hT1 : stT s1 t = th1 := by unfold stT; rw [hth1]; rfl
      have hhd : th1.hd = th.hd := by rw [← HST.out.2.2.1, hT1]
      obtain ⟨_, rT, qT, _⟩ := h2.thr _ _ hth1
      rw [hyt] at rT
      have t4 : wc.cell? ⟨TB, 4, none⟩ = some (y2.hv t) := Row.cell rT (i := 4) (by omega)
      have hlen : th1.hd.length ≤ 6 := by have := HST.out.1.hl t; rwa [hT1] at this
      have HCL := Lib.hid (clone_ints qT (by omega))
      have hform : ∃ a m c, y2.hv t = .slice a m c := by
        rcases qT.cases with ⟨e, _⟩ | ⟨g, c, e⟩
        · exact ⟨_, _, _, e⟩
        · exact ⟨_, _, _, e⟩
      obtain ⟨ha, hm, hc, hve⟩ := hform
      rw [hve] at t4 HCL
      rw [hhd] at HCL hlen
      have H2 := Lib.hid h2
      clear h2 hyt hth1 hT1 hhd rT qT hve HR
      go_wp2_with fail
      refine HCL.out.mono ?_
      rintro e w3 ⟨v, rfl, ho, hob, hb3⟩
      obtain ⟨va, vc, ev, _, hvc, _⟩ := own_form ho
      obtain ⟨m, hm'⟩ : ∃ m, th.hd.length = m := ⟨_, rfl⟩
      rw [hm'] at ev hlen
      subst ev
      obtain ⟨y3, h3⟩ := H2.out.adoptT (Ch.of_below hb3 _) (G := fun k => (Value.slice va m vc).ownBlock = some k) (fun k hk => ⟨hob k hk, own_lt' ho hk⟩)
      have hfc : ∀ k, F k ∨ k = B → k < wc.heap.size := H2.out.fin
      have HB3 : Hid (w3.cell? ⟨B, 0, none⟩ = some (ptr L) ∧ ∀ g, (Value.slice va m vc).ownBlock = some g → B ≠ g) := by
        have hBc := hfc B (.inr rfl)
        refine ⟨(hb3.cell (p := ⟨B, 0, none⟩) hBc).trans ((HK.out.cell' H1.out.fin ⟨B, 0, none⟩ (.inr rfl)).trans HB1.out), fun g hg e => ?_⟩
        have := hob g hg
        omega
      have HFO : Hid (∀ k, (Value.slice va m vc).ownBlock = some k → ¬ (F k ∨ k = B)) := fun k hk hf => by have := hob k hk; have := hfc k hf; omega
      have hnd : th.hd.Nodup := by rw [← HST.out.2.2.1]; exact HST.out.1.hn t
      have hmem : ∀ a ∈ th.hd, InI a ∧ (s1.o a).isSome = true := fun a ha => by
        rw [← HST.out.2.2.1] at ha
        obtain ⟨x, hx, _⟩ := (HST.out.1.hd t a).1 ha
        have := HST.out.1.io hx
        exact ⟨⟨by omega, by omega⟩, by rw [hx]; rfl⟩
      have HSO := Lib.hid (sort_any h3 HB3.out.1 (.inl (.inr rfl)) (fun g hg => ⟨.inr hg, HB3.out.2 g hg⟩) ho hm' (by omega) hnd hmem)
      have HK3 : Hid (Keep (fun k => F k ∨ k = B) w1 w3) := HK.out.trans (Keep.of hb3)
      have H3 := Lib.hid h3
      clear ho hob hb3 h3 hfc hnd hmem HCL H2 t4 HK
      unfold maxLen at hvc
      go_wp2_with fail
      refine HSO.out.mono ?_
      rintro e w4 ⟨rfl, l, hpm, hpw, hoi, hch⟩
      have hll : l.length = m := by rw [hpm.length_eq, hm']
      have hokF : OK w4 (fun k => (F k ∨ k = B) ∨ (Value.slice va m vc).ownBlock = some k) L n s1 y3 := H3.out.foreignT (hch.mono (fun k hk _ => .inr hk))
      have HRO : Hid (0 < m → ∃ g, va = some ⟨g, 0, none⟩ ∧ g < w4.heap.size ∧ (F g ∨ g = B ∨ True) ∧ ∀ j, j < m → w4.cell? ⟨g, j, none⟩ = some (.int .i64 (l.getD j 0))) := fun h9 => by
        obtain ⟨a9, c9, e9, _, _, h10⟩ := own_form hoi
        rw [hll] at e9 h10
        obtain ⟨g9, e8, h11, h12, _⟩ := h10 h9
        injection e9 with e9
        refine ⟨g9, by rw [e9]; exact e8, h11, .inr (.inr trivial), fun j hj => h12 j _ ?_⟩
        rw [List.getElem?_map, List.getD_eq_getElem?_getD, List.getElem?_eq_getElem (by omega)]; rfl
      have HL : Hid (l.Perm th.hd ∧ l.Pairwise (gtO s) ∧ l.length = m) := ⟨hpm, hpw.imp (fun {a b} h => by
        unfold gtO at *
        rw [HST.out.2.2.2.1, HST.out.2.2.2.1] at h
        exact h), hll⟩
      have HK4 : Hid (Keep (fun k => F k ∨ k = B) w1 w4) := HK3.out.trans (hch.mono (fun k hk _ => HFO.out k hk))
      have HF4 : Hid (∃ y4, OK w4 (fun k => (F k ∨ k = B) ∨ (Value.slice va m vc).ownBlock = some k) L (n + 0) (abF s1 (l.take 0)) y4 ∧ Keep (fun k => (F k ∨ k = B) ∨ (Value.slice va m vc).ownBlock = some k) w4 w4) := ⟨y3, hokF, Keep.refl _ _⟩
      have HFIN : Hid (∀ k, ((F k ∨ k = B) ∨ (Value.slice va m vc).ownBlock = some k) → k < w4.heap.size) := hokF.fin
      have HB4 : Hid (w4.cell? ⟨B, 0, none⟩ = some (ptr L)) := (hch.cell (p := ⟨B, 0, none⟩) (H3.out.fin B (.inl (.inr rfl))) (fun h => HB3.out.2 B h rfl)).trans HB3.out.1
      have HGF : Hid (∀ g, va = some ⟨g, 0, none⟩ → (Value.slice va m vc).ownBlock = some g) := fun g hg => by rw [hg]; rfl
      have hBlt : B < w4.heap.size := hokF.fin B (.inl (.inr rfl))
      clear hpm hpw hoi hch hll hokF HSO H3 HK3
      go_wp2_with fail
      obtain ⟨we, hwe⟩ : ∃ z : World, z = w4 := ⟨_, rfl⟩
      subst hwe
      go_loopw [34] (fun z wr => ∃ k : Nat, k ≤ m ∧ z = .int .i64 (k : Int) ∧ Hid (∃ y4, OK wr (fun k => (F k ∨ k = B) ∨ (Value.slice va m vc).ownBlock = some k) L (n + k) (abF s1 (l.take k)) y4 ∧ Keep (fun k => (F k ∨ k = B) ∨ (Value.slice va m vc).ownBlock = some k) we wr)) (fun z _ => m - (intOf z).toNat)
      case atStart => exact ⟨0, by omega, rfl, HF4⟩
      case round =>
        clear HF4
        obtain ⟨k, hk, rfl, HF5⟩ := hrel
        obtain ⟨y5, h5, k5⟩ := HF5.out
        have b5 : wr.cell? ⟨B, 0, none⟩ = some (ptr L) := (k5.cell' HFIN.out ⟨B, 0, none⟩ (.inl (.inr rfl))).trans HB4.out
        by_cases hkm : k < m
        · have y9 : (k : Int) < m := by omega
          obtain ⟨g, rfl, hgl, _, hcl⟩ := HRO.out (by omega)
          have q5 : wr.cell? ⟨g, k, none⟩ = some (.int .i64 (l.getD k 0)) := (k5.cell' HFIN.out ⟨g, k, none⟩ (.inr (HGF.out g rfl))).trans (hcl k hkm)
          have hkl : k < l.length := by rw [HL.out.2.2]; exact hkm
          obtain ⟨id, hid⟩ : ∃ z, l.getD k 0 = z := ⟨_, rfl⟩
          have hidm : l[k]? = some id := by rw [← hid, List.getD_eq_getElem?_getD, List.getElem?_eq_getElem hkl]; rfl
          have htk : l.take (k + 1) = l.take k ++ [id] := by
            rw [List.take_succ_eq_append_getElem hkl]
            have := List.getElem?_eq_getElem hkl
            rw [hidm] at this
            injection this with this
            rw [this]
          have hnl : l.Nodup := HL.out.1.nodup_iff.2 (by rw [← HST.out.2.2.1]; exact HST.out.1.hn t)
          have hmm : ∀ a, a ∈ l ↔ a ∈ (stT s1 t).hd := fun a => by rw [HST.out.2.2.1]; exact HL.out.1.mem_iff
          obtain ⟨g1, g2, g3, g4⟩ := abF_si (l.take k) s1 HST.out.1 HST.out.2.1 ht (hnl.sublist (List.take_sublist k l)) (fun a ha => (hmm a).1 (List.mem_of_mem_take ha))
          have hidk : id ∉ l.take k := fun h9 => by
            obtain ⟨j, hj⟩ := List.mem_iff_getElem?.1 h9
            rw [List.getElem?_take] at hj
            split at hj
            · have := (List.getElem?_inj (by omega) hnl).1 (hj.trans hidm.symm); omega
            · cases hj
          have hidh : id ∈ (stT (abF s1 (l.take k)) t).hd := (g4 id).2 ⟨(hmm id).1 (List.mem_of_getElem? hidm), hidk⟩
          obtain ⟨x, hx, hmx, hct, how⟩ := (g1.hd t id).1 hidh
          have hth : ∃ tt, (abF s1 (l.take k)).t t = some tt := by
            rcases e : (abF s1 (l.take k)).t t with _ | tt
            · unfold stT at hidh; rw [e] at hidh; cases hidh
            · exact ⟨tt, rfl⟩
          obtain ⟨tt, htt⟩ := hth
          have hsT : stT (abF s1 (l.take k)) t = tt := by unfold stT; rw [htt]; rfl
          have hio := g1.io hx
          have HFR := Lib.hid (free_any (id := id) (x := x) (t := tt) h5 ⟨by omega, by omega⟩ (by omega) hx (by rw [how]; exact htt) (by rw [how]; exact hti) (by rw [← hsT]; exact hidh) (by have := g1.ql hx; omega) (fun a ha => by have := g1.it (g1.qs id x hx a ha).1; exact ⟨by omega, by omega⟩) (fun j tj htj => by
            have h9 := g1.hl j
            have : stT (abF s1 (l.take k)) j = tj := by unfold stT; rw [htj]; rfl
            rw [this] at h9
            omega))
          have HTK : Hid (abF s1 (l.take (k + 1)) = freeS (abF s1 (l.take k)) id) := by show _ = _; rw [htk, abF_add]
          have HK5 := Lib.hid k5
          rw [hid] at q5
          clear hid hidm htk hnl hmm g1 g2 g3 g4 hidk hidh hx hmx hct how htt hsT hio h5 k5 hcl HF5
          go_wp2_with fail
          refine HFR.out.mono ?_
          rintro e w6 ⟨rfl, ⟨y6, h6⟩, k6⟩
          have HF6 : Hid (∃ y4, OK w6 (fun k => (F k ∨ k = B) ∨ (Value.slice (some ⟨g, 0, none⟩) m vc).ownBlock = some k) L (n + (k + 1)) (abF s1 (l.take (k + 1))) y4 ∧ Keep (fun k => (F k ∨ k = B) ∨ (Value.slice (some ⟨g, 0, none⟩) m vc).ownBlock = some k) we w6) := ⟨y6, by rw [HTK.out]; exact h6, HK5.out.trans k6⟩
          clear h6 k6 HFR b5 q5
          go_wp2_with fail
          go_roundw
          case rel => exact ⟨k + 1, by omega, by go_num, HF6⟩
          case measure => simp [intOf]; omega
        · have y9 : ¬ (k : Int) < m := by omega
          have htk : l.take k = l := List.take_of_length_le (by rw [HL.out.2.2]; omega)
          rw [htk] at h5
          have hmo := h5.mt.drop Try.underlying3 Try.underlying54 hti 0
          obtain ⟨w7, hrun, hm7, hc7⟩ := hmo
          have c15 := h5.c1
          have HP : Hid (PO w F L (n + 6) (abR s t l) w7) := by
            have h7 := h5.delThr hc7 hm7
            have hkm6 : k ≤ 6 := by omega
            have e : abR s t l = (abF s1 l).setT t none := by unfold abR; rw [HS1.out.2.1]; show (abF (if (stT s t).st = 2 then stopS s t 0 else s) l).setT t none = _; rw [HS1.out.1]
            rw [e]
            refine ⟨⟨y5, (h7.mono (by omega)).shrink (fun k hk => .inl (.inl hk))⟩, ?_⟩
            have kk : Keep F we w7 := (k5.shrink (fun k hk => .inl (.inl hk))).trans (hc7.mono (fun k hk _ hf => by subst hk; exact h5.lt (.inl (.inl hf))))
            exact (HK1.out.trans (HK4.out.shrink (fun k hk => .inl hk))).trans kk
          have HRUN := Lib.hid hrun
          clear htk hm7 hc7 h5 k5 HF5 hrun
          have hrun := HRUN.out
          go_wp2_with fail
          go_end0
          exact ⟨rfl, l, HL.out.2.1, fun a => by rw [HL.out.1.mem_iff, show (stT s t).hd = th.hd by unfold stT; rw [HS1.out.2.1]; rfl], HP.out⟩
end
end Go.Proofs.Ytefgfmnnaglfmaa
