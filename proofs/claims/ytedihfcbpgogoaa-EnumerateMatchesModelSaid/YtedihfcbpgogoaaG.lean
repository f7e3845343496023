/- enumerate.on. No condition but that the topology is valid. -/
import Derived.Test.YtedihfcbpgogoaaF
namespace Go.Proofs.Ytedihfcbpgogoaa
open Go.RowKit
def fI (T : List Fn) (p : Int) (i : Nat) : List Int := ((List.range i).filter fun k => decide ((fAt T k).pa = p)).map fun n : Nat => (n : Int)
theorem fI_succ (T : List Fn) (p : Int) (i : Nat) : fI T p (i + 1) = if (fAt T i).pa = p then fI T p i ++ [(i : Int)] else fI T p i := by
  unfold fI
  rw [List.range_succ, List.filter_append]
  by_cases h : (fAt T i).pa = p <;> simp [h]
theorem fI_len (T : List Fn) (p : Int) (i : Nat) : (fI T p i).length ≤ i := by
  unfold fI
  rw [List.length_map]
  have := List.length_filter_le (fun k => decide ((fAt T k).pa = p)) (List.range i)
  simpa using this
theorem fI_mem {T : List Fn} {p e : Int} {i : Nat} : e ∈ fI T p i ↔ ∃ k : Nat, k < i ∧ (fAt T k).pa = p ∧ (k : Int) = e := by
  unfold fI
  simp [List.mem_filter, and_assoc]
theorem fI_nodup (T : List Fn) (p : Int) (i : Nat) : (fI T p i).Nodup := by
  unfold fI
  rw [List.Nodup, List.pairwise_map]
  exact ((List.nodup_range).filter _).imp (fun h e => h (by omega))
theorem on_done {T : List Fn} (V : VT T) {p : Int} {E : List Int} (hp : E.Perm (fI T p T.length)) (hs : E.Pairwise (fun i j => (fAt T i.toNat).sl ≤ (fAt T j.toNat).sl)) : E = kidsI T p := by
  have hm : ∀ e ∈ E, 0 ≤ e := fun e he => by obtain ⟨k, _, _, rfl⟩ := fI_mem.1 (hp.mem_iff.1 he); omega
  have e1 : (E.map Int.toNat).map (fun n : Nat => (n : Int)) = E := by
    rw [List.map_map]
    have : E.map ((fun n : Nat => (n : Int)) ∘ Int.toNat) = E.map id := List.map_congr_left (fun a ha => by have := hm a ha; simp; omega)
    rw [this, List.map_id]
  have hnd : E.Nodup := hp.nodup_iff.2 (fI_nodup T p _)
  have h1 : E.map Int.toNat = kids T p := by
    refine kids_eq V ?_ (fun k => ?_) (by rw [List.pairwise_map]; exact hs)
    · rw [List.Nodup, List.pairwise_map]
      refine List.Pairwise.imp_of_mem ?_ hnd
      intro a b ha hb h e
      have := hm a ha; have := hm b hb
      exact h (by omega)
    · rw [List.mem_map]
      constructor
      · rintro ⟨e, he, rfl⟩
        obtain ⟨k, h1, h2, rfl⟩ := fI_mem.1 (hp.mem_iff.1 he)
        exact ⟨by simpa using h1, by simpa using h2⟩
      · rintro ⟨h1, h2⟩
        exact ⟨(k : Int), hp.mem_iff.2 (fI_mem.2 ⟨k, h1, h2, rfl⟩), by simp⟩
  unfold kidsI
  rw [← h1, e1]
theorem OW.step {w wr w2 : World} {v : Value} {E : List Int} (h : OW w wr v E) (hb : Below wr.heap.size wr w2) : OW w w2 v E :=
  ⟨h.row.ch (Ch.of_below hb (fun _ => False)) (fun _ _ h => h), h.new, bthen h.bel hb⟩
set_option maxRecDepth 100000 in
set_option maxHeartbeats 2000000 in
theorem on_any {w : World} {a : Option Addr} {len cap : Nat} {T : List Fn} {p : Int} (V : VT T) (h : FnS w a len cap T) (hl : len ≤ 1000) :
    Calls Try.prog 31 #[.slice a len cap, .int .i64 p] w fun e w' => ∃ v, e = .returned v ∧ OW w w' v (kidsI T p) := by
  have H := Lib.hid h
  obtain ⟨hT, hc, _⟩ := h.len
  clear h
  obtain ⟨i0, hi0, hz0, hz1, hz2⟩ := info_parts Try.info3
  go_enter Try.func31, Try.ntmps31
  go_wp2_with fail
  have HB1 : Hid (Below w.heap.size w (w.alloc (.cells #[.slice a len cap] 22))) := (Below.refl _ _).alloc (Nat.le_refl _) _
  have O0 : Hid (OW (w.alloc (.cells #[.slice a len cap] 22)) (w.alloc (.cells #[.slice a len cap] 22)) (.slice none 0 0) (fI T p 0)) := OW.nil _
  go_loopw [5, 6, 7, 10] (fun v _ _ z wr => ∃ i : Nat, i ≤ len ∧ z = .int .i64 (i : Int) ∧ Hid (OW (w.alloc (.cells #[.slice a len cap] 22)) wr v (fI T p i))) (fun _ _ _ z _ => len - (intOf z).toNat)
  case atStart => exact ⟨0, by omega, rfl, O0⟩
  case round =>
    clear O0
    obtain ⟨i, hi, rfl, O⟩ := hrel
    by_cases hil : i < len
    · have y1 : (i : Int) < len := by omega
      obtain ⟨b, o, rfl, hb, _, hbv, hr⟩ := H.out.at hil
      have hbel : Below w.heap.size w wr := bthen HB1.out O.out.bel
      have c : ∀ j u, (cF (fAt T i))[j]? = some u → wr.cell? ⟨b, o + i * 11 + j, none⟩ = some u := fun j u hu => (hbel.cell (p := ⟨b, o + i * 11 + j, none⟩) hb).trans (rangeAt.cell hr hu)
      have c0 := c 0 _ rfl
      have c1 := c 1 _ rfl
      have c2 := c 2 _ rfl
      have c3 := c 3 _ rfl
      have c4 := c 4 _ rfl
      have c5 := c 5 _ rfl
      have c6 := c 6 _ rfl
      have c7 := c 7 _ rfl
      have c8 := c 8 _ rfl
      have c9 := c 9 _ rfl
      have c10 := c 10 _ rfl
      rw [Nat.add_zero] at c0
      obtain ⟨ab, cb, hbv, _⟩ := hbv
      rw [hbv] at c10
      have hs := fI_succ T p i
      have hfl := fI_len T p i
      clear c hr hbel
      generalize fAt T i = fi at *
      generalize fi.ba.length = nb at *
      by_cases hp : fi.pa = p
      · rw [if_pos hp] at hs
        rw [hp] at c0
        have O2 := Lib.hid (O.out.step ((Below.refl _ _).alloc (Nat.le_refl _) (.cells #[.int .i64 p, .int .i64 fi.sl, .int .i64 fi.ve, .int .i64 fi.de, .bool fi.br, .bool fi.pf, .bool fi.hp, .int .i64 fi.sp, .int .i64 fi.pn, .int .i64 fi.vc, .slice ab nb cb] 25)))
        have hP := IR.push O2.out.row (i : Int)
        rw [show (wr.alloc (.cells #[.int .i64 p, .int .i64 fi.sl, .int .i64 fi.ve, .int .i64 fi.de, .bool fi.br, .bool fi.pf, .bool fi.hp, .int .i64 fi.sp, .int .i64 fi.pn, .int .i64 fi.vc, .slice ab nb cb] 25)).heap.size = wr.heap.size + 1 by simp] at hP
        have HP := Lib.hid hP
        clear hP
        generalize fI T p i = E at *
        go_wp2_with (at_builtin; refine wpList_append_lies _ rfl _ _ 49 rfl 0 3 i0 _ 1 8 Try.underlying49 hi0 hz0 hz1 hz2 rfl (by omega) u5 E.length (E.map (Value.int .i64)) rfl (by exact HP.out.2) ⟨wr.heap.size + 1, 0, none⟩ 1 1 [.int .i64 (i : Int)] rfl rfl (by exact HP.out.1) (by simp [Value.oneCell']) (by omega) (by simp only [maxLen]; omega) (by omega) (Nat.zero_le _) (wr.heap.size + 2) (by simp) ?_)
        intro g cap2 w4 ho hg hat hbel
        have O3 := Lib.hid (O2.out.take ho hg (hat.imp id (fun e => by simp; omega)))
        rw [← hs] at O3
        clear ho hg hat
        go_wp2_with fail
        go_roundw
        case rel => exact ⟨i + 1, by omega, by go_num, O3⟩
        case measure => simp [intOf]; omega
      · rw [if_neg hp] at hs
        have O2 := Lib.hid (O.out.step ((Below.refl _ _).alloc (Nat.le_refl _) (.cells #[.int .i64 fi.pa, .int .i64 fi.sl, .int .i64 fi.ve, .int .i64 fi.de, .bool fi.br, .bool fi.pf, .bool fi.hp, .int .i64 fi.sp, .int .i64 fi.pn, .int .i64 fi.vc, .slice ab nb cb] 25)))
        go_wp2_with fail
        go_roundw
        case rel => exact ⟨i + 1, by omega, by go_num, by rw [hs]; exact O2⟩
        case measure => simp [intOf]; omega
    · have y1 : ¬ (i : Int) < len := by omega
      have hi2 : i = T.length := by omega
      have hiI : (i : Int) = (T.length : Int) := by omega
      have O2 : Hid (OW w wr u5 (fI T p T.length)) := by
        rw [hi2] at O
        exact ⟨O.out.row, (fun g hg => by have := O.out.new g hg; simp at this; omega), bthen HB1.out O.out.bel⟩
      clear hi2 hiI
      have hil2 : i = len := by omega
      subst hil2
      obtain ⟨av, cv, hv, _, hcl⟩ := O.out.row.form
      have HCL := Lib.hid hcl
      clear hcl
      subst hv
      obtain ⟨E, hE⟩ : ∃ E, fI T p i = E := ⟨_, rfl⟩
      have HE := Lib.hid hE
      rw [show fI T p T.length = E by rw [hT, hE]] at O2
      rw [hE] at O HCL O2 ⊢
      clear hE
      rcases E with _ | ⟨e0, E0⟩
      · have HS := Lib.hid (Try.slices_SortFunc_none (α := Nat) av cv (.func (.func 45) #[] #[.pointer (some ⟨w.heap.size, 0, none⟩)]) wr)
        go_wp2_with fail
        refine HS.out.mono ?_
        rintro e w2 ⟨rfl, rfl⟩
        go_wp2_with fail
        go_ret
        refine ⟨_, rfl, ?_⟩
        have : ([] : List Int) = kidsI T p := on_done V (by rw [hT, HE.out]) List.Pairwise.nil
        rw [← this]
        exact O2.out
      · obtain ⟨g, hga, _, _⟩ := HCL.out 0 (by simp)
        subst hga
        have hlen0 : 0 < i := by
          rcases Nat.eq_zero_or_pos i with h0 | h0
          · have := HE.out; rw [h0] at this; simp [fI] at this
          · exact h0
        obtain ⟨n, hn⟩ : ∃ n, i = n + 1 := ⟨i - 1, by omega⟩
        subst hn
        have hng : w.heap.size + 1 ≤ g := by have := O.out.new g rfl; simpa using this
        have hX : wr.cell? ⟨w.heap.size, 0, none⟩ = some (.slice a (n + 1 : Nat) cap) := (O.out.bel.cell (p := ⟨w.heap.size, 0, none⟩) (by simp)).trans (cell_of_row _ _ 0 _ _ _ (heap_alloc_new w _))
        have hsz : w.heap.size < wr.heap.size := by have := O.out.bel.size; simp at this; omega
        have hEm : ∀ e ∈ e0 :: E0, 0 ≤ e ∧ e < ((n + 1 : Nat) : Int) := fun e he => by
          rw [← HE.out] at he
          obtain ⟨k, h1, _, rfl⟩ := fI_mem.1 he
          omega
        have hEl : (e0 :: E0).length ≤ 1000000 := by have := fI_len T p (n + 1); rw [HE.out] at this; omega
        have HS := Lib.hid (sortOn (w0 := w) (w := wr) (X := w.heap.size) (g := g) (cp := cv) (E := e0 :: E0) H.out (bthen HB1.out O.out.bel) hX hsz (by omega) (by omega) O.out.row hEm hEl)
        clear hEm hX
        go_wp2_with fail
        refine HS.out.mono ?_
        rintro e w2 ⟨rfl, E', hp, hs, hr, hch⟩
        have HP := Lib.hid hp
        have HSS := Lib.hid hs
        have HR := Lib.hid hr
        have HCH := Lib.hid hch
        clear hp hs hr hch
        go_wp2_with fail
        go_ret
        refine ⟨_, rfl, ?_⟩
        have : E' = kidsI T p := on_done V (by rw [hT, HE.out]; exact HP.out) HSS.out
        rw [← this]
        exact ⟨HR.out, O2.out.new, O2.out.bel.trans (HCH.out.below O2.out.bel.size (fun k hk => by omega))⟩
end Go.Proofs.Ytedihfcbpgogoaa
