/- A law of the varstore, walked. Conditions: those that each theorem names. -/
import Derived.Test.YtfglopkglnpokaaGreatM14
import Derived.Test.YtfglopkglnpokaaGreatM8
import Derived.Test.YtfglopkglnpokaaGreatV4
namespace Go.Proofs.YtfglopkglnpokaaGreat
open Go.RowKit Go.ChangeShapes Go.WideShapes Go.ChangeAt Go.Deep
def StrS (w : World) (a : Option Addr) (len cap : Nat) (l : List ByteArray) : Prop := l.length = len ∧ len ≤ cap ∧ cap ≤ maxLen ∧ (∀ s ∈ l, s.size ≤ maxLen) ∧ (l ≠ [] → ∃ b o, a = some ⟨b, o, none⟩ ∧ b < w.heap.size ∧ ∀ i s, l[i]? = some s → w.rangeAt b (o + i * 1) [.string s])
theorem StrS.at {w : World} {a : Option Addr} {len cap i : Nat} {l : List ByteArray} (h : StrS w a len cap l) (hi : i < len) : ∃ (b o : Nat) (s : ByteArray), a = some ⟨b, o, none⟩ ∧ b < w.heap.size ∧ l[i]? = some s ∧ s.size ≤ maxLen ∧ w.cell? ⟨b, o + i, none⟩ = some (.string s) := by
  obtain ⟨h1, h2, h3, h4, h5⟩ := h
  obtain ⟨b, o, e, hl, hr⟩ := h5 (by intro e; rw [e] at h1; simp at h1; omega)
  have hc : l[i]? = some l[i] := List.getElem?_eq_getElem (by omega)
  have := hr i _ hc
  have h0 := this 0 _ rfl
  rw [Nat.mul_one] at h0
  exact ⟨b, o, l[i], e, hl, hc, h4 _ (List.getElem_mem _), h0⟩
theorem clS : Tryz.prog.cellsOf 9 = 1 := by kernel_rfl
theorem open_strl {H : Type} {enc : TypeId × Value → H} {w : World} {base : Nat} {spare : Nat → Bool} {held : Bool} {fuel : Nat} {cs : List Value} {x : DataW H × List MemPlace} (h : DataW.trod enc Tryz.prog w base spare held fuel 25 cs = some x) :
    ∃ (A : Option Addr) (len cap : Nat) (l : List ByteArray), cs = [.slice A len cap] ∧ StrS w A len cap l := by
  obtain ⟨A, len, cap, l, h1, h2, h3, h4, h5, h6⟩ := open_list Tryz.underlying25 clS (by omega) (fun s => [.string s]) (fun s : ByteArray => s.size ≤ maxLen) (fun _ => rfl) (fun {fuel} {cs} {x} h => by
    obtain ⟨s, h, _, hs⟩ := DataW.trod_string Tryz.underlying9 h
    exact ⟨s, hs, h⟩) h
  exact ⟨A, len, cap, l, h1, h2, h3, h4, h5, h6⟩
section
variable {fl : FL} {st : ST}
theorem chg_calm (h : Inv fl st) (hc : fl.cut = false) (hg : st.gen + 1 < 18446744073709551616) {k : Nat} {n v : Str} (hk : k = 1 ∨ k = 2) (hok : okLens k n.length v.length = true) :
    Inv (chgF fl st k n v).2.1 (chgF fl st k n v).2.2 ∧ (chgF fl st k n v).2.1.cut = false ∧ (chgF fl st k n v).2.2.gen ≤ st.gen + 1 := by
  rcases chgF_cases h hk hok hg with ⟨g, st', e, h1, _, h3, h4, _, h6⟩ | ⟨e, _⟩ | ⟨k1, _⟩
  · rw [e]
    refine ⟨h1, h4 hc, ?_⟩
    rcases h6 with ⟨_, e, _⟩ | ⟨_, _, e, _⟩
    · show st'.gen ≤ _; omega
    · show st'.gen ≤ _; omega
  · rw [e]; exact ⟨h, hc, Nat.le_succ _⟩
  · rw [hc] at k1; cases k1
theorem set_calm (h : Inv fl st) (hc : fl.cut = false) (hg : st.gen + 1 < 18446744073709551616) (n v : Str) :
    Inv (setF fl st n v).2.1 (setF fl st n v).2.2 ∧ (setF fl st n v).2.1.cut = false ∧ (setF fl st n v).2.2.gen ≤ st.gen + 1 := by
  unfold setF
  split
  · exact ⟨h, hc, Nat.le_succ _⟩
  · rename_i ho
    split
    · exact ⟨h, hc, Nat.le_succ _⟩
    · exact chg_calm h hc hg (.inl rfl) (by simpa using ho)
theorem del_calm (h : Inv fl st) (hc : fl.cut = false) (hg : st.gen + 1 < 18446744073709551616) (n : Str) :
    Inv (delF fl st n).2.1 (delF fl st n).2.2 ∧ (delF fl st n).2.1.cut = false ∧ (delF fl st n).2.2.gen ≤ st.gen + 1 := by
  unfold delF
  split
  · exact ⟨h, hc, Nat.le_succ _⟩
  · rename_i ho
    split
    · exact ⟨h, hc, Nat.le_succ _⟩
    · exact chg_calm h hc hg (.inr rfl) (by simpa using ho)
end
end Go.Proofs.YtfglopkglnpokaaGreat
namespace Go.Proofs.YtfglopkglnpokaaGreat
open Go.RowKit
theorem program_bad {w : World} {D : Nat → Prop} {X : Nat} {y : FLay} {fl : FL} (h : FW w D X y fl) {b p : Nat} (hb : b < fl.B) (hp : p < fl.P) {d : ByteArray} (hd : d.size ≠ 64) :
    Calls Tryz.prog 16 #[fptr X, .int .i64 b, .int .i64 p, .string d] w fun e w' => e = .returned (.int .i64 1) ∧ w = w' := by
  have HIP := Lib.hid (isPage_any h hb hp)
  have hdI : ((d.size : Int) != 64) = true := by rw [bne_iff_ne]; omega
  clear h
  go_enter Tryz.func16, Tryz.ntmps16
  go_wp2_with fail
  refine HIP.out.mono ?_
  rintro e w' ⟨rfl, rfl⟩
  have hdI : ((d.size : Int) != 64) = true := by rw [bne_iff_ne]; omega
  go_wp2_with fail
  go_ret
  exact ⟨rfl, rfl⟩
theorem rprogram_bad {w : World} {D : Nat → Prop} {X : Nat} {y : RLay} {fl : FL} (h : RW w D X y fl) {b p : Nat} (hb : b < fl.B) (hp : p < fl.P) {d : ByteArray} (hd : d.size ≠ 64) :
    Calls Tryz.prog 17 #[fptr X, .int .i64 b, .int .i64 p, .string d] w fun e w' => e = .returned (.int .i64 1) ∧ w = w' := by
  have HIP := Lib.hid (rin_any h hb hp)
  clear h
  go_enter Tryz.func17, Tryz.ntmps17
  go_wp2_with fail
  refine HIP.out.mono ?_
  rintro e w' ⟨rfl, rfl⟩
  have hdI : ((d.size : Int) != 64) = true := by rw [bne_iff_ne]; omega
  go_wp2_with fail
  go_ret
  exact ⟨rfl, rfl⟩
/-- What programming any string comes to. -/
def progA (fl : FL) (b p : Nat) (d : ByteArray) : Int × FL := if d.size = 64 then progF fl b p d.data.toList else (1, fl)
theorem progA_same (fl : FL) (b p : Nat) (d : ByteArray) : (progA fl b p d).2.B = fl.B ∧ (progA fl b p d).2.P = fl.P := by
  unfold progA
  split
  · have := progF_same fl b p d.data.toList; exact ⟨this.1, this.2⟩
  · exact ⟨rfl, rfl⟩
theorem progA_calm {fl : FL} (ho : fl.off = false) (hc : fl.cut = false) (b p : Nat) (d : ByteArray) : (progA fl b p d).2.off = false ∧ (progA fl b p d).2.cut = false := by
  unfold progA
  split
  · unfold progF
    rw [if_neg (by rw [ho]; exact Bool.noConfusion)]
    split
    · exact ⟨ho, hc⟩
    · have hi : intF fl = (false, fl) := by unfold intF; rw [hc]; rfl
      rw [hi]
      exact ⟨ho, hc⟩
  · exact ⟨ho, hc⟩
theorem programA {w : World} {D : Nat → Prop} {X : Nat} {y : FLay} {fl : FL} (h : FW w D X y fl) {b p : Nat} (hb : b < fl.B) (hp : p < fl.P) (d : ByteArray) :
    Calls Tryz.prog 16 #[fptr X, .int .i64 b, .int .i64 p, .string d] w fun e w' => e = .returned (.int .i64 (progA fl b p d).1) ∧ FW w' D X y (progA fl b p d).2 ∧ Ch D w w' := by
  unfold progA
  split
  · rename_i hd; exact program_any h hb hp hd
  · rename_i hd
    refine (program_bad h hb hp hd).mono ?_
    rintro e w' ⟨he, rfl⟩
    exact ⟨he, h, Ch.refl _ _⟩
theorem rprogramA {w : World} {D : Nat → Prop} {X : Nat} {y : RLay} {fl : FL} (h : RW w D X y fl) {b p : Nat} (hb : b < fl.B) (hp : p < fl.P) (d : ByteArray) :
    Calls Tryz.prog 17 #[fptr X, .int .i64 b, .int .i64 p, .string d] w fun e w' => e = .returned (.int .i64 (progA fl b p d).1) ∧ RW w' D X y (progA fl b p d).2 ∧ Ch D w w' := by
  unfold progA
  split
  · rename_i hd; exact rprogram_any h hb hp hd
  · rename_i hd
    refine (rprogram_bad h hb hp hd).mono ?_
    rintro e w' ⟨he, rfl⟩
    exact ⟨he, h, Ch.refl _ _⟩
set_option maxRecDepth 100000 in
set_option maxHeartbeats 4000000 in
theorem rpages2_any (d : ByteArray) (w : World) (h1 : 1 ≤ d.size) (h2 : d.size ≤ 1000) :
    Calls Tryz.prog 14 #[.string d] w fun e w' => ∃ g cap, e = .returned (.slice (some ⟨g, 0, none⟩) (pgs d.size) cap) ∧ Rg w' g 9 (pgs d.size) (fun i => str ((pagesR d.data.toList).getD i [])) ∧ pgs d.size ≤ cap ∧ cap ≤ maxLen ∧ w.heap.size ≤ g ∧ Below w.heap.size w w' := by
  obtain ⟨iS, hiS, hxS0, hxS1, hxS2⟩ := info_parts Tryz.infoS
  obtain ⟨cap, w1, hcv, hba, hbel⟩ := conv_ba w d (by omega)
  obtain ⟨n, hn⟩ : ∃ n, d.size = n := ⟨_, rfl⟩
  obtain ⟨np, hnp⟩ : ∃ np, pgs n = np := ⟨_, rfl⟩
  have hpg : (n + 63) / 64 = np := by rw [← hnp]; rfl
  rw [hn] at hcv hba h1 h2 ⊢
  rw [hnp]
  have HN := Lib.hid hn
  have HNP := Lib.hid hnp
  obtain ⟨g0, hg0⟩ : ∃ g, w.heap.size = g := ⟨_, rfl⟩
  have HB : Hid (BA w1 g0 n cap (d.data.toList ++ List.replicate (n - n) 255) ∧ g0 ≤ g0 ∧ Below g0 w w1) := by rw [← hg0]; exact ⟨by simpa using hba, Nat.le_refl _, hbel⟩
  rw [hg0] at hcv ⊢
  have HG0 := Lib.hid hg0
  clear hba hbel hn hnp hg0
  go_enter Tryz.func14, Tryz.ntmps14
  go_wp2_with fail
  clear hcv
  go_loopw [3] (fun x wr => ∃ (L g cap : Nat), n ≤ L ∧ L ≤ np * 64 ∧ x = .slice (some ⟨g, 0, none⟩) L cap ∧ Hid (BA wr g L cap (d.data.toList ++ List.replicate (L - n) 255) ∧ g0 ≤ g ∧ Below g0 w wr)) (fun x _ => np * 64 - lenV x)
  case atStart => exact ⟨n, g0, cap, by omega, by omega, rfl, HB⟩
  case round =>
    clear HB
    obtain ⟨L, g, cap, hL1, hL2, rfl, HB⟩ := hrel
    have hle := HB.out.1.le
    by_cases hL : L % 64 = 0
    · have hm : (L : Int) % 64 = 0 := by omega
      have hLn : L = np * 64 := by omega
      subst hLn
      have HPD : Hid (d.data.toList ++ List.replicate (np * 64 - n) 255 = pad d.data.toList ∧ pagesR d.data.toList = chunks np (pad d.data.toList)) := by
        have hdl : d.data.toList.length = n := by rw [Array.length_toList]; exact HN.out
        refine ⟨?_, ?_⟩
        · unfold pad; rw [hdl, HNP.out]
        · unfold pagesR; rw [hdl, HNP.out]
      have hba := HB.out.1
      rw [HPD.out.1] at hba
      have HBA := Lib.hid hba
      have HB2 : Hid (g0 ≤ g ∧ Below g0 w wr) := HB.out.2
      have hgl := hba.bt.lt
      obtain ⟨wm, hwm⟩ : ∃ wm : World, wm = wr := ⟨_, rfl⟩
      subst hwm
      have HO : Hid (OB wm wm 9 1 (.slice none 0 0) 0 (((pagesR d.data.toList).take 0).map str)) := OB.nil (Below.refl _ _)
      have hnpl : np * 64 ≤ 1063 := by omega
      obtain ⟨N, hN⟩ : ∃ N, np * 64 = N := ⟨_, rfl⟩
      rw [hN] at HBA hle hnpl ⊢
      have hm2 : (N : Int) % 64 = 0 := by omega
      clear hba HB hm hL
      go_wp2_with fail
      clear hm2
      go_loopw [4, 5] (fun x z wr => ∃ (i a : Nat) (vl : Value), i ≤ np ∧ Hid (a = 64 * i) ∧ vl = x ∧ z = .int .i64 (a : Int) ∧ Hid (OB wm wr 9 1 vl i (((pagesR d.data.toList).take i).map str))) (fun _ z _ => N - (intOf z).toNat)
      case atStart => exact ⟨0, 0, _, by omega, rfl, rfl, rfl, HO⟩
      case round =>
        clear HO
        obtain ⟨i, a, vl, hi, HA, hvl, rfl, HO⟩ := hrel
        subst hvl
        have ha := HA.out
        by_cases hlt : i < np
        · have y0 : (a : Int) < N := by omega
          have hb2 : BA wr g N cap (pad d.data.toList) := HBA.out.ch (Ch.of_below HO.out.bel (fun _ => False)) id
          obtain ⟨ck, hck⟩ : ∃ ck : ByteArray, ck = ⟨(((pad d.data.toList).drop a).take 64).toArray⟩ := ⟨_, rfl⟩
          have hcv : ∀ c, (convert 40 9 (.slice (some ⟨g, a, none⟩) 64 c)).run Tryz.prog wr = .ok (.string ck) wr := fun c => by
            rw [hck]
            exact hb2.bt.strAt a 64 c (by omega)
          have HT : Hid (((pagesR d.data.toList).take (i + 1)).map str = ((pagesR d.data.toList).take i).map str ++ [.string ck]) := by
            show _ = _
            have hl : (pagesR d.data.toList).length = np := by rw [HPD.out.2]; simp [chunks]
            rw [take_next (by omega), List.map_append, hck, ha, ← chunks_get np _ hlt, ← HPD.out.2]
            rfl
          have HOW := Lib.hid (HO.out.below ((Below.refl _ wr).alloc (Nat.le_refl _) (.cells #[.string ck] 9)))
          have y1 : (a : Int) + 64 ≤ N := by omega
          have y2 : a + 64 ≤ N := by omega
          have y3 : a ≤ N := by omega
          have y4 : (a : Int) ≤ (a : Int) + 64 := by omega
          have y5 : (a : Int) + 64 ≤ cap := by omega
          clear hb2 hck ha
          go_wp2_with (at_builtin; refine wpList_append_lies _ rfl _ _ 25 rfl 0 9 iS _ 1 16 Tryz.underlying25 hiS hxS0 hxS1 hxS2 rfl (by omega) vl i (((pagesR d.data.toList).take i).map str) rfl (by exact HOW.out.row) ⟨wr.heap.size, 0, none⟩ 1 1 [.string ck] rfl rfl (by exact news_new wr 9 #[.string ck] _ rfl) (by intro u hu; rw [List.mem_singleton.1 hu]; rfl) (by omega) (by simp only [maxLen]; omega) (by omega) (Nat.zero_le _) (wr.heap.size + 1) (by simp) ?_)
          intro g1 cap1 w6 ho hg hat hbel
          have O2 := HO.out.take (m := 1) (news := [.string ck]) HOW.out.bel (by simpa using ho) hg (by
            rcases hat with h | h
            · exact .inl h
            · right; have := HO.out.bel.size; omega)
          rw [← HT.out] at O2
          have HO6 := Lib.hid O2
          clear ho hg hat hbel O2 HO HOW HT hcv
          go_wp2_with fail
          go_roundw
          case rel => exact ⟨i + 1, a + 64, _, by omega, (by show _ = _; rw [HA.out]; omega), rfl, by go_num, HO6⟩
          case measure => simp [intOf]; omega
        · have y0 : ¬ (a : Int) < N := by omega
          have hin : i = np := by omega
          subst hin
          have ho := HO.out
          rw [List.take_of_length_le (by rw [HPD.out.2]; simp [chunks])] at ho
          obtain ⟨g1, c1, rfl, hg1, hc1, hc2, hr⟩ := ho.ps (by omega)
          have HPS : Hid (Rg wr g1 9 i (fun j => str ((pagesR d.data.toList).getD j [])) ∧ i ≤ c1 ∧ c1 ≤ maxLen) := ⟨hr, hc1, hc2⟩
          have HBF : Hid (g0 ≤ g1 ∧ Below g0 w wr) := by
            have h0 := HB2.out.2.size
            rw [HG0.out] at h0
            exact ⟨by omega, HB2.out.2.trans (ho.bel.mono h0)⟩
          clear ho hr HO hg1 ha
          go_wp2_with fail
          go_ret
          exact ⟨_, _, rfl, HPS.out.1, HPS.out.2.1, HPS.out.2.2, HBF.out⟩
    · obtain ⟨m, hm0⟩ : ∃ m, L % 64 = m := ⟨_, rfl⟩
      have hm : (L : Int) % 64 = (m : Int) := by omega
      have bm : ((m : Int) == 0) = false := by rw [beq_eq_false_iff_ne]; omega
      have hm1 : ¬ (m : Int) = 0 := by omega
      have hLn : L < np * 64 := by omega
      obtain ⟨g2, c2, w2, hr, hba, hch, hg2⟩ := HB.out.1.push 255 (by omega) rfl
      have HB2 : Hid (BA w2 g2 (L + 1) c2 (d.data.toList ++ List.replicate (L + 1 - n) 255) ∧ g0 ≤ g2 ∧ Below g0 w w2) := by
        have h0 := HB.out.2.2.size
        rw [HG0.out] at h0
        refine ⟨?_, ?_, HB.out.2.2.trans (hch.below h0 (fun x hx => by rw [hx]; exact HB.out.2.1))⟩
        · rw [show L + 1 - n = (L - n) + 1 by omega, List.replicate_succ', ← List.append_assoc]; exact hba
        · have := HB.out.2.1
          rcases hg2 with h | h <;> omega
      have h255 : ((255 : UInt8).toNat : Int) = 255 := rfl
      rw [h255] at hr
      clear hba hch hg2 h255 hm0
      go_wp2_with (at_builtin; refine wpList_append_run rfl _ _ 40 rfl rfl _ _ _ _ rfl rfl (by exact hr) ?_)
      clear hr
      go_wp2_with fail
      go_roundw
      case rel => exact ⟨L + 1, g2, c2, by omega, by omega, rfl, HB2⟩
      case measure => simp [lenV]; omega
end Go.Proofs.YtfglopkglnpokaaGreat
namespace Go.Proofs.YtfglopkglnpokaaGreat
open Go.RowKit
/-- A row of pages that can be written. -/
def PG (w : World) (g n : Nat) : Prop := ∃ f : Nat → Str, Rg w g 9 n (fun i => str (f i)) ∧ ∀ i, i < n → (f i).length = 64
section
variable {w w' : World} {g n : Nat}
theorem PG.lt (h : PG w g n) : g < w.heap.size := by obtain ⟨f, h1, _⟩ := h; exact h1.lt
theorem PG.ch {C : Nat → Prop} (h : PG w g n) (c : Ch C w w') (hg : ¬ C g) : PG w' g n := by obtain ⟨f, h1, h2⟩ := h; exact ⟨f, h1.ch c hg, h2⟩
theorem PG.below (h : PG w g n) (b : Below w.heap.size w w') : PG w' g n := h.ch (Ch.of_below b (fun _ => False)) id
theorem PG.at (h : PG w g n) {j : Nat} (hj : j < n) : ∃ pe : ByteArray, pe.size = 64 ∧ w.cell? ⟨g, j, none⟩ = some (.string pe) := by
  obtain ⟨f, h1, h2⟩ := h
  exact ⟨⟨(f j).toArray⟩, by rw [bsz]; exact h2 j hj, h1.cell hj⟩
theorem PG.frozen (h : PG w g n) (j : Nat) : w.frozen? ⟨g, j, none⟩ = false := by obtain ⟨f, h1, _⟩ := h; exact h1.frozen j
theorem PG.set (h : PG w g n) {j : Nat} (hj : j < n) {d : ByteArray} (hd : d.size = 64) : PG (w.setCell ⟨g, j, none⟩ (.string d)) g n := by
  obtain ⟨f, h1, h2⟩ := h
  refine ⟨fun i => if i = j then d.data.toList else f i, (h1.set hj (.string d)).congr fun i hi => ?_, fun i hi => ?_⟩
  · by_cases e : i = j
    · simp [upd, e]
    · simp [upd, e]
  · by_cases e : i = j
    · simp only [e, if_true]; exact hd
    · simp only [e, if_false]; exact h2 i hi
theorem opnF_none {fl : FL} {c : Int} (h : opnF fl = (c, none)) : c = 1 ∨ c = 16 ∨ c = 6 := by
  unfold opnF at h
  split at h
  · injection h with h _; exact .inl h.symm
  · split at h
    · injection h with h _; exact .inr (.inl h.symm)
    · split at h
      · injection h with h _; exact .inr (.inr h.symm)
      · injection h with _ h; cases h
theorem PG.setc (h : PG w g n) {j : Nat} (hj : j < n) {d : ByteArray} (hd : d.size = 64) : PG (w.setCell ⟨g, j, none⟩ (.string d)) g n ∧ (w.setCell ⟨g, j, none⟩ (.string d)).cell? ⟨g, j, none⟩ = some (.string d) := by
  refine ⟨h.set hj hd, ?_⟩
  obtain ⟨f, h1, _⟩ := h
  have := (h1.set hj (.string d)).cell hj
  simpa [upd] using this
theorem AF.far {N X X' : Nat} {y : FLay} {y' : RLay} {D D' : Nat → Prop} {fl fl' : FL} (h : AF w N X y D fl X' y' D' fl') {C : Nat → Prop} (c : Ch C w w') (h1 : ∀ k, C k → ¬ D k) (h2 : ∀ k, C k → ¬ D' k) : AF w' N X y D fl X' y' D' fl' :=
  ⟨h.f.ch c (fun k hk e => h1 k e hk), h.f'.ch c (fun k hk e => h2 k e hk), h.dN, h.dN'⟩
theorem AF.drewA {N X X' : Nat} {y : FLay} {y' : RLay} {D D' : Nat → Prop} {fl fl' : FL} (h : AF w N X y D fl X' y' D' fl') : AF w.drew N X y D fl X' y' D' fl' := h.below ((Below.refl _ w).drew)
end
set_option maxRecDepth 100000 in
set_option maxHeartbeats 8000000 in
theorem opens_any (rB rP rE : Int) (a : Option Addr) (len cap : Nat) (l : List CV) (a2 : Option Addr) (len2 cap2 : Nat) (l2 : List ByteArray) (at' : Int) (w : World) (hl : CallS w a len cap l) (hl2 : StrS w a2 len2 cap2 l2) (_ : -9223372036854775808 ≤ at' ∧ at' ≤ 9223372036854775807) :
    Calls Tryz.prog 3 #[fsV rB rP rE, .slice a len cap, .slice a2 len2 cap2, .int .i64 at'] w fun e w' => e = .returned (.bool true) ∧ Below w.heap.size w w' := by
  have HL := Lib.hid hl
  have HL2 := Lib.hid hl2
  have hcap : len ≤ cap := hl.2.1
  have hcapM := hl.2.2.1
  have hcap2 : len2 ≤ cap2 := hl2.2.1
  have hcapM2 := hl2.2.2.1
  unfold maxLen at hcapM hcapM2
  clear hl hl2
  have HAW0 : Hid (Calls Tryz.prog 7 #[] (w.alloc (.cells #[.int .i64 rB, .int .i64 rP, .int .i64 rE] 23)) fun e w' => e = .returned (.bool true) ∧ Below (w.alloc (.cells #[.int .i64 rB, .int .i64 rP, .int .i64 rE] 23)).heap.size (w.alloc (.cells #[.int .i64 rB, .int .i64 rP, .int .i64 rE] 23)) w') := awake_any _
  have HB0 : Hid (Below w.heap.size w (w.alloc (.cells #[.int .i64 rB, .int .i64 rP, .int .i64 rE] 23))) := (Below.refl _ _).alloc (Nat.le_refl _) _
  by_cases hbig : 12 < len
  · have hbI : (len : Int) > 12 := by omega
    go_enter Tryz.func3, Tryz.ntmps3
    go_wp2_with fail
    refine HAW0.out.mono ?_
    rintro e w1 ⟨rfl, b1⟩
    have HB1 : Hid (Below w.heap.size w w1) := HB0.out.trans (b1.mono HB0.out.size)
    clear b1 HAW0 HB0
    go_wp2_with fail
    go_ret
    exact ⟨rfl, HB1.out⟩
  by_cases hbig2 : 8 < len2
  · have hbI : ¬ (len : Int) > 12 := by omega
    have hbI2 : (len2 : Int) > 8 := by omega
    go_enter Tryz.func3, Tryz.ntmps3
    go_wp2_with fail
    refine HAW0.out.mono ?_
    rintro e w1 ⟨rfl, b1⟩
    have HB1 : Hid (Below w.heap.size w w1) := HB0.out.trans (b1.mono HB0.out.size)
    clear b1 HAW0 HB0
    go_wp2_with fail
    go_ret
    exact ⟨rfl, HB1.out⟩
  · have hbI : ¬ (len : Int) > 12 := by omega
    have hbI2 : ¬ (len2 : Int) > 8 := by omega
    have r0 := Row.ofList w 23 #[.int .i64 rB, .int .i64 rP, .int .i64 rE] (fsc rB rP rE) 3 rfl
    have z0 : (w.alloc (.cells #[.int .i64 rB, .int .i64 rP, .int .i64 rE] 23)).cell? ⟨w.heap.size, 0, none⟩ = some (.int .i64 rB) := r0.cell (i := 0) (by omega)
    have z1 : (w.alloc (.cells #[.int .i64 rB, .int .i64 rP, .int .i64 rE] 23)).cell? ⟨w.heap.size, 1, none⟩ = some (.int .i64 rP) := r0.cell (i := 1) (by omega)
    have z2 : (w.alloc (.cells #[.int .i64 rB, .int .i64 rP, .int .i64 rE] 23)).cell? ⟨w.heap.size, 2, none⟩ = some (.int .i64 rE) := r0.cell (i := 2) (by omega)
    have HSH := Lib.hid (shape_law rB rP rE (w.alloc (.cells #[.int .i64 rB, .int .i64 rP, .int .i64 rE] 23)))
    have hB := shB_le rB
    have hP := shP_le rP
    have hE := shE_le rE
    generalize shB rB = B at *
    generalize shP rP = P at *
    generalize shE rE = E at *
    clear r0 HAW0
    go_enter Tryz.func3, Tryz.ntmps3
    go_wp2_with fail
    refine HSH.out.mono ?_
    rintro e w1 ⟨rfl, b1⟩
    have HB1 : Hid (Below w.heap.size w w1) := HB0.out.trans (b1.mono HB0.out.size)
    clear b1 HSH HB0 z0 z1 z2

    have hT0 : Row (w1.alloc (.cells #[.int .i64 0, .int .i64 0, .int .i64 0] 23)) w1.heap.size 23 3 (fsc 0 0 0) := Row.ofList w1 23 _ _ 3 rfl
    have b4 : Below w1.heap.size w1 (w1.alloc (.cells #[.int .i64 0, .int .i64 0, .int .i64 0] 23)) := (Below.refl _ _).alloc (Nat.le_refl _) _
    obtain ⟨T, hT⟩ : ∃ T, w1.heap.size = T := ⟨_, rfl⟩
    obtain ⟨V2, hV2⟩ : ∃ V2, w1.alloc (.cells #[.int .i64 0, .int .i64 0, .int .i64 0] 23) = V2 := ⟨_, rfl⟩
    have hTw : w.heap.size ≤ T := by rw [← hT]; exact HB1.out.size
    rw [hT, hV2] at hT0
    rw [hV2] at b4
    have hB2' := HB1.out.trans (b4.mono HB1.out.size)
    have r0 := hT0.cell (i := 0) (by omega)
    have r1 := hT0.cell (i := 1) (by omega)
    have r2 := hT0.cell (i := 2) (by omega)
    have f0 := hT0.frozen 0
    have f1' := hT0.frozen 1
    have f2' := hT0.frozen 2
    have hT6 := ((hT0.set (i := 0) (by omega) (.int .i64 (B : Int))).set (i := 1) (by omega) (.int .i64 (P : Int))).set (i := 2) (by omega) (.int .i64 (E : Int))
    have HTc : Hid ((((V2.setCell ⟨T, 0, none⟩ (.int .i64 (B : Int))).setCell ⟨T, 1, none⟩ (.int .i64 (P : Int))).setCell ⟨T, 2, none⟩ (.int .i64 (E : Int))).cell? ⟨T, 0, none⟩ = some (.int .i64 B) ∧ (((V2.setCell ⟨T, 0, none⟩ (.int .i64 (B : Int))).setCell ⟨T, 1, none⟩ (.int .i64 (P : Int))).setCell ⟨T, 2, none⟩ (.int .i64 (E : Int))).cell? ⟨T, 1, none⟩ = some (.int .i64 P) ∧ (((V2.setCell ⟨T, 0, none⟩ (.int .i64 (B : Int))).setCell ⟨T, 1, none⟩ (.int .i64 (P : Int))).setCell ⟨T, 2, none⟩ (.int .i64 (E : Int))).cell? ⟨T, 2, none⟩ = some (.int .i64 E)) := ⟨hT6.cell (i := 0) (by omega), hT6.cell (i := 1) (by omega), hT6.cell (i := 2) (by omega)⟩
    have HTl : Hid (T < (((V2.setCell ⟨T, 0, none⟩ (.int .i64 (B : Int))).setCell ⟨T, 1, none⟩ (.int .i64 (P : Int))).setCell ⟨T, 2, none⟩ (.int .i64 (E : Int))).heap.size) := hT6.lt
    have HB2 : Hid (Below w.heap.size w (((V2.setCell ⟨T, 0, none⟩ (.int .i64 (B : Int))).setCell ⟨T, 1, none⟩ (.int .i64 (P : Int))).setCell ⟨T, 2, none⟩ (.int .i64 (E : Int)))) := ((hB2'.setCell (p := ⟨T, 0, none⟩) hTw _).setCell (p := ⟨T, 1, none⟩) hTw _).setCell (p := ⟨T, 2, none⟩) hTw _
    clear hT0 b4 hB2' hT6 HB1
    go_wp2_with fail
    clear hT hV2 r0 r1 r2 f0 f1' f2'
    generalize ((V2.setCell ⟨T, 0, none⟩ (.int .i64 (B : Int))).setCell ⟨T, 1, none⟩ (.int .i64 (P : Int))).setCell ⟨T, 2, none⟩ (.int .i64 (E : Int)) = w2 at *
    have t0 := HTc.out.1
    have t1 := HTc.out.2.1
    have t2 := HTc.out.2.2
    have hNw0 : w.heap.size ≤ w2.heap.size := HB2.out.size
    have HNF := Lib.hid (new_any w2 B P E ⟨by omega, by omega⟩ ⟨by omega, by omega⟩ (by omega))
    obtain ⟨N, hN⟩ : ∃ N, w2.heap.size = N := ⟨_, rfl⟩
    have HTl2 : Hid (T < N) := by rw [← hN]; exact HTl.out
    have HN2 : Hid (N ≤ w2.heap.size) := by rw [← hN]; exact Nat.le_refl _
    have hNw : w.heap.size ≤ N := by rw [← hN]; exact hNw0
    refine HNF.out.mono ?_
    rintro e w3 ⟨X, y, rfl, hf, b3⟩
    have u0 := cell_later b3 HTc.out.1
    have u1 := cell_later b3 HTc.out.2.1
    have u2 := cell_later b3 HTc.out.2.2
    have HF3 := Lib.hid hf
    have HB23 : Hid (Below N w2 w3) := by rw [← hN]; exact b3
    have hN3 : N ≤ w3.heap.size := by rw [← hN]; exact b3.size
    obtain ⟨D, hD⟩ : ∃ D : Nat → Prop, (fun k => w2.heap.size ≤ k ∧ k < w3.heap.size) = D := ⟨_, rfl⟩
    clear hf b3 HNF t0 t1 t2 hNw0 HTl
    have HNR := Lib.hid (rnew_any w3 B P E ⟨by omega, by omega⟩ ⟨by omega, by omega⟩ (by omega))
    go_wp2_with fail
    refine HNR.out.mono ?_
    rintro e w4 ⟨X', y', rfl, hrw, b4⟩
    obtain ⟨D', hD'⟩ : ∃ D' : Nat → Prop, (fun k => w3.heap.size ≤ k ∧ k < w4.heap.size) = D' := ⟨_, rfl⟩
    have HA0 : Hid (AF w4 N X y D (newF B P E) X' y' D' (newF B P E)) := by
      have h3 := HF3.out
      rw [hD] at h3
      rw [hD'] at hrw
      exact AF.made h3 (fun k hk => by rw [← hD] at hk; rw [← hN]; exact hk.1) b4 hrw (fun k hk => by rw [← hD'] at hk; exact hk.1) hN3
    have HBN0 : Hid (Below N w2 w4) := HB23.out.trans (b4.mono hN3)
    have HP0 : Hid ((newF B P E).B = B ∧ (newF B P E).P = P ∧ (newF B P E).off = false ∧ (newF B P E).cut = false) := ⟨rfl, rfl, rfl, rfl⟩
    have u0 : w4.cell? ⟨T, 0, none⟩ = some (.int .i64 B) := (HBN0.out.cell (p := ⟨T, 0, none⟩) HTl2.out).trans HTc.out.1
    have u1 : w4.cell? ⟨T, 1, none⟩ = some (.int .i64 P) := (HBN0.out.cell (p := ⟨T, 1, none⟩) HTl2.out).trans HTc.out.2.1
    clear hrw b4 HNR HF3 HB23 hN3 hD hD' hN
    obtain ⟨BP, hBP⟩ : ∃ n, B * P = n := ⟨_, rfl⟩
    have hBPI : (B : Int) * (P : Int) = (BP : Int) := by rw [← hBP]; exact (Int.natCast_mul B P).symm
    have HBP := Lib.hid hBP
    have hBPb : 4 ≤ BP ∧ BP ≤ 36 := by
      have h1 : 2 * 2 ≤ B * P := Nat.mul_le_mul hB.1 hP.1
      have h2 : B * P ≤ 4 * 9 := Nat.mul_le_mul hB.2 hP.2
      omega
    have hBPw : IntKind.i64.wrap (BP : Int) = BP := IntWalk.i64_in _ ⟨by omega, by omega⟩
    have HMK : Hid (∀ w, Calls Tryz.prog 11 #[.int .i64 at', .int .i64 (BP : Int)] w fun e w' => e = .returned (.int .i64 ((mo at' BP : Nat) : Int)) ∧ w = w') := fun w => mod_any at' BP w (by omega) (by omega)
    have hk0 := mo_lt at' BP (by omega)
    generalize mo at' BP = k0 at *
    clear hBP
    go_wp2_with fail
    refine (HMK.out _).mono ?_
    rintro e w' ⟨rfl, rfl⟩
    clear HMK u0 u1
    go_wp2_with fail
    go_loopw [14, 15] (fun xk z wr => ∃ (i k : Nat) (fl : FL), i ≤ len ∧ k < BP ∧ xk = .int .i64 (k : Int) ∧ z = .int .i64 (i : Int) ∧ Hid (AF wr N X y D fl X' y' D' fl) ∧ Hid (fl.B = B ∧ fl.P = P ∧ fl.off = false ∧ fl.cut = false) ∧ Hid (Below N w2 wr)) (fun _ z _ => len - (intOf z).toNat)
    case atStart => exact ⟨0, k0, newF B P E, by omega, hk0, rfl, rfl, HA0, HP0, HBN0⟩
    case round =>
      clear HA0 HP0 HBN0 hk0
      obtain ⟨i, k, fl, hi, hk, rfl, rfl, HA, HF, HBN⟩ := hrel
      by_cases hlt : i < len
      · have y0 : (i : Int) < len := by omega
        obtain ⟨bb, o, c, rfl, hbw, _, p0, p1, p2, p3⟩ := HL.out.at hlt
        have HQ : Hid (w.cell? ⟨bb, o + i * 4, none⟩ = some (.int .i64 c.kd) ∧ w.cell? ⟨bb, o + i * 4 + 1, none⟩ = some (.int .i64 c.nm) ∧ w.cell? ⟨bb, o + i * 4 + 2, none⟩ = some (.int .i64 c.ln) ∧ w.cell? ⟨bb, o + i * 4 + 3, none⟩ = some (.int .u8 (c.fi.toNat : Int))) := ⟨p0, p1, p2, p3⟩
        clear p0 p1 p2 p3
        have HBx : Hid (Below w.heap.size w wr) := HB2.out.trans (HBN.out.mono hNw)
        have q0 : wr.cell? ⟨bb, o + i * 4, none⟩ = some (.int .i64 c.kd) := (HBx.out.cell (p := ⟨bb, o + i * 4, none⟩) hbw).trans HQ.out.1
        have q1 : wr.cell? ⟨bb, o + i * 4 + 1, none⟩ = some (.int .i64 c.nm) := (HBx.out.cell (p := ⟨bb, o + i * 4 + 1, none⟩) hbw).trans HQ.out.2.1
        have q2 : wr.cell? ⟨bb, o + i * 4 + 2, none⟩ = some (.int .i64 c.ln) := (HBx.out.cell (p := ⟨bb, o + i * 4 + 2, none⟩) hbw).trans HQ.out.2.2.1
        have q3 : wr.cell? ⟨bb, o + i * 4 + 3, none⟩ = some (.int .u8 (c.fi.toNat : Int)) := (HBx.out.cell (p := ⟨bb, o + i * 4 + 3, none⟩) hbw).trans HQ.out.2.2.2
        have HM4 : Hid (Calls Tryz.prog 11 #[.int .i64 c.kd, .int .i64 4] wr fun e w' => e = .returned (.int .i64 ((mo c.kd 4 : Nat) : Int)) ∧ wr = w') := mod_any c.kd 4 wr (by omega) (by omega)
        have hm4 := mo_lt c.kd 4 (by omega)
        obtain ⟨m4, hm4e⟩ : ∃ m, mo c.kd 4 = m := ⟨_, rfl⟩
        rw [hm4e] at HM4 hm4
        clear hm4e
        obtain ⟨ne, hne⟩ : ∃ s : ByteArray, s = ⟨(nameOf c.nm).toArray⟩ := ⟨_, rfl⟩
        have HNM : Hid (∀ w, Calls Tryz.prog 12 #[.int .i64 c.nm] w fun e w' => e = .returned (.string ne) ∧ w = w') := fun w => by rw [hne]; exact name_any c.nm w
        have hnz : ne.size ≤ 24 := by rw [bsz, hne]; exact (nameOf_len c.nm).2
        obtain ⟨ve, hve⟩ : ∃ s : ByteArray, s = ⟨(valOf c.ln c.fi).toArray⟩ := ⟨_, rfl⟩
        have hvz : ve.size ≤ 128 := by rw [bsz, hve]; show (valOf c.ln c.fi).length ≤ 128; rw [valOf_len]; exact valLen_le c.ln
        have HVA : Hid (∀ w, Calls Tryz.prog 13 #[.agg #[.int .i64 c.kd, .int .i64 c.nm, .int .i64 c.ln, .int .u8 (c.fi.toNat : Int)]] w fun e w' => e = .returned (.string ve) ∧ Below w.heap.size w w') := fun w => by rw [hve]; exact value_any c.kd c.nm c.ln c.fi w
        clear hne hve
        obtain ⟨kk, hkk⟩ : ∃ k, 1 + m4 = k := ⟨_, rfl⟩
        have hkkI : (1 : Int) + (m4 : Int) = (kk : Int) := by omega
        have hkb : 1 ≤ kk ∧ kk ≤ 4 := by omega
        have hk8w : IntKind.u8.wrap (kk : Int) = kk := by rw [IntKind.wrap_u8]; omega
        have hNs : N ≤ w2.heap.size := by have := HN2.out; omega
        go_wp2_with fail
        refine HM4.out.mono ?_
        rintro e w' ⟨rfl, rfl⟩
        clear HM4
        go_wp2_with fail
        clear hkkI hk8w hkk hm4
        have S1 : Hid (wr.drew.cell? ⟨bb, o + i * 4, none⟩ = some (.int .i64 c.kd) ∧ wr.drew.cell? ⟨bb, o + i * 4 + 1, none⟩ = some (.int .i64 c.nm) ∧ wr.drew.cell? ⟨bb, o + i * 4 + 2, none⟩ = some (.int .i64 c.ln) ∧ wr.drew.cell? ⟨bb, o + i * 4 + 3, none⟩ = some (.int .u8 (c.fi.toNat : Int))) := ⟨q0, q1, q2, q3⟩
        have HAd := Lib.hid (HA.out.below ((Below.refl _ wr).drew))
        have HBd : Hid (Below N w2 wr.drew) := HBN.out.drew
        clear q0 q1 q2 q3 HA HBN HBx
        refine wp_region_pt (fun Y => Y.cell? ⟨bb, o + i * 4, none⟩ = some (.int .i64 c.kd) ∧ Y.cell? ⟨bb, o + i * 4 + 1, none⟩ = some (.int .i64 c.nm) ∧ Y.cell? ⟨bb, o + i * 4 + 2, none⟩ = some (.int .i64 c.ln) ∧ Y.cell? ⟨bb, o + i * 4 + 3, none⟩ = some (.int .u8 (c.fi.toNat : Int))) ((0, 0) :: (1, 0) :: (2, 0) :: (3, 0) :: (4, 0) :: (5, 0) :: (6, 0) :: (7, 0) :: (8, 0) :: (9, 0) :: (10, 1) :: (11, 0) :: (12, 0) :: []) (by kernel_rfl) (by kernel_rfl) ?_
        iterate 5 (apply wpP_go; (focus rfl); (focus rfl); (focus exact S1.out); (focus (rintro Q ⟨s0, s1, s2, s3⟩; go_simp; exact rfl)); intro K hK; go_simp; refine hK _ ?_; clear hK K)
        apply wpP_call
        focus rfl
        focus rfl
        focus exact S1.out
        focus (rintro Q ⟨s0, s1, s2, s3⟩; go_simp; exact ⟨rfl, rfl⟩)
        focus (rintro Q _; exact HNM.out Q)
        intro K hK
        go_simp
        refine hK _ ?_
        clear hK K
        iterate 4 (apply wpP_go; (focus rfl); (focus rfl); (focus exact S1.out); (focus (rintro Q ⟨s0, s1, s2, s3⟩; go_simp; exact rfl)); intro K hK; go_simp; refine hK _ ?_; clear hK K)
        apply wpP_one
        focus rfl
        intro K hK
        go_simp
        refine (HVA.out _).mono ?_
        rintro e V1 ⟨rfl, b1⟩
        have S2 : Hid (V1.cell? ⟨bb, o + i * 4, none⟩ = some (.int .i64 c.kd) ∧ V1.cell? ⟨bb, o + i * 4 + 1, none⟩ = some (.int .i64 c.nm) ∧ V1.cell? ⟨bb, o + i * 4 + 2, none⟩ = some (.int .i64 c.ln) ∧ V1.cell? ⟨bb, o + i * 4 + 3, none⟩ = some (.int .u8 (c.fi.toNat : Int))) := ⟨cell_later b1 S1.out.1, cell_later b1 S1.out.2.1, cell_later b1 S1.out.2.2.1, cell_later b1 S1.out.2.2.2⟩
        have hszd := HBd.out.size
        have HA1 := Lib.hid (HAd.out.below b1)
        have HBN1 : Hid (Below N w2 V1) := HBd.out.trans (b1.mono (Nat.le_trans hNs hszd))
        refine hK _ _ S2.out ?_
        clear hK K b1 S1 HAd HBd hszd HVA HNM
        iterate 2 (apply wpP_go; (focus rfl); (focus rfl); (focus exact S2.out); (focus (rintro Q ⟨s0, s1, s2, s3⟩; go_simp; exact rfl)); intro K hK; go_simp; refine hK _ ?_; clear hK K)
        refine wpP_done ?_
        go_upto_block 2 with fail
        go_cut [14, 17, 18] (fun x14 x17 x18 wx => ∃ (k' : Nat) (nb vb : ByteArray), x14 = .int .i64 (k' : Int) ∧ x17 = .string nb ∧ x18 = .string vb ∧ k' < BP ∧ nb.size ≤ 24 ∧ vb.size ≤ 128 ∧ Hid (AF wx N X y D fl X' y' D' fl) ∧ Hid (Below N w2 wx))
        case first =>
          by_cases hk2 : kk = 2
          · subst hk2
            clear S2
            go_wp2_with fail
            go_meet
            exact ⟨k, ne, ⟨#[]⟩, rfl, rfl, rfl, hk, hnz, Nat.zero_le _, HA1, HBN1⟩
          by_cases hk3 : kk = 3
          · subst hk3
            have hez : (⟨#[]⟩ : ByteArray).size = 0 := rfl
            have hkB : k / P * P ≤ k := Nat.div_mul_le_self k P
            have hkqk : k / P ≤ k := Nat.div_le_self k P
            obtain ⟨kq, hkq⟩ : ∃ q, k / P = q := ⟨_, rfl⟩
            rw [hkq] at hkB hkqk
            have hkqI : (k : Int) / (P : Int) = (kq : Int) := by rw [← hkq]; exact (Int.natCast_ediv k P).symm
            have HKQ := Lib.hid hkqI
            obtain ⟨k2, hk2'⟩ : ∃ q, kq * P = q := ⟨_, rfl⟩
            rw [hk2'] at hkB
            have HK2 : Hid ((kq : Int) * (P : Int) = (k2 : Int)) := by show _ = _; rw [← hk2']; exact (Int.natCast_mul kq P).symm
            clear hkq hkqI hk2'
            obtain ⟨f4, hf4⟩ : ∃ x : UInt8, c.fi % 4 = x := ⟨_, rfl⟩
            have HF4 : Hid ((c.fi.toNat : Int).tmod 4 = (f4.toNat : Int)) := by show _ = _; rw [Int.tmod_eq_emod_of_nonneg (by omega), ← hf4]; rfl
            clear hf4
            have S3 : Hid (V1.drew.cell? ⟨bb, o + i * 4 + 3, none⟩ = some (.int .u8 (c.fi.toNat : Int))) := S2.out.2.2.2
            have HAd := Lib.hid HA1.out.drewA
            have HBd : Hid (Below N w2 V1.drew) := HBN1.out.drew
            clear S2 HA1 HBN1
            go_wp2_with fail
            have hf4I := HF4.out
            refine wp_region_pt (fun Y => Y.cell? ⟨bb, o + i * 4 + 3, none⟩ = some (.int .u8 (c.fi.toNat : Int))) ((0, 0) :: (1, 0) :: (2, 0) :: (3, 0) :: (4, 0) :: (5, 0) :: (8, 0) :: (6, 1) :: (7, 1) :: (9, 0) :: []) (by kernel_rfl) (by kernel_rfl) ?_
            generalize V1.drew = Vd at *
            iterate 7 (apply wpP_go; (focus rfl); (focus rfl); (focus exact S3.out); (focus (rintro Q s0; go_simp; exact rfl)); intro K hK; go_simp; refine hK _ ?_; clear hK K)
            have bts : Bt (Vd.alloc (.cells #[.int .u8 0, .int .u8 0, .int .u8 0, .int .u8 0, .int .u8 0, .int .u8 0, .int .u8 0, .int .u8 (f4.toNat : Int)] 5)) Vd.heap.size 8 [0, 0, 0, 0, 0, 0, 0, f4] := Rg.bt ⟨_, heap_alloc_new Vd _, fun q hq => by
              rcases (by omega : q = 0 ∨ q = 1 ∨ q = 2 ∨ q = 3 ∨ q = 4 ∨ q = 5 ∨ q = 6 ∨ q = 7) with e | e | e | e | e | e | e | e <;> subst e <;> rfl⟩ rfl
            have b5 : Below Vd.heap.size Vd (Vd.alloc (.cells #[.int .u8 0, .int .u8 0, .int .u8 0, .int .u8 0, .int .u8 0, .int .u8 0, .int .u8 0, .int .u8 (f4.toNat : Int)] 5)) := (Below.refl _ _).alloc (Nat.le_refl _) _
            apply wpP_one
            focus rfl
            intro K hK
            go_simp
            refine hK _ _ (cell_later b5 S3.out) ?_
            have S4 : Hid ((Vd.alloc (.cells #[.int .u8 0, .int .u8 0, .int .u8 0, .int .u8 0, .int .u8 0, .int .u8 0, .int .u8 0, .int .u8 (f4.toNat : Int)] 5)).cell? ⟨bb, o + i * 4 + 3, none⟩ = some (.int .u8 (c.fi.toNat : Int))) := cell_later b5 S3.out
            have hsd := HBd.out.size
            have HA3 := Lib.hid (HAd.out.below b5)
            have HBN3 : Hid (Below N w2 (Vd.alloc (.cells #[.int .u8 0, .int .u8 0, .int .u8 0, .int .u8 0, .int .u8 0, .int .u8 0, .int .u8 0, .int .u8 (f4.toNat : Int)] 5))) := HBd.out.trans (b5.mono (Nat.le_trans hNs hsd))
            clear hK K b5 S3 HAd HBd hsd hf4I
            have hcv := bts.strAt 0 8 8 (by omega)
            obtain ⟨vb, hvb⟩ : ∃ s : ByteArray, (⟨((List.drop 0 [0, 0, 0, 0, 0, 0, 0, f4]).take 8).toArray⟩ : ByteArray) = s := ⟨_, rfl⟩
            have hvbz : vb.size = 8 := by rw [← hvb]; rfl
            rw [hvb] at hcv
            clear hvb bts
            generalize hV3 : Vd.alloc (.cells #[.int .u8 0, .int .u8 0, .int .u8 0, .int .u8 0, .int .u8 0, .int .u8 0, .int .u8 0, .int .u8 (f4.toNat : Int)] 5) = V3 at *
            obtain ⟨G, hG⟩ : ∃ G, Vd.heap.size = G := ⟨_, rfl⟩
            simp only [hG]
            rw [hG] at hcv
            clear hV3 hG
            apply wpP_one
            focus rfl
            intro K hK
            go_simp
            refine hK _ _ S4.out ?_
            clear hK K hcv
            iterate 1 (apply wpP_go; (focus rfl); (focus rfl); (focus exact S4.out); (focus (rintro Q s0; go_simp; exact rfl)); intro K hK; go_simp; refine hK _ ?_; clear hK K)
            refine wpP_done ?_
            clear S4
            go_wp2_with fail
            have SK : Hid (V3.drew.cell? ⟨T, 1, none⟩ = some (.int .i64 P)) := (HBN3.out.cell (p := ⟨T, 1, none⟩) HTl2.out).trans HTc.out.2.1
            have HA4 := Lib.hid HA3.out.drewA
            have HBN4 : Hid (Below N w2 V3.drew) := HBN3.out.drew
            have hqd : (k : Int).tdiv (P : Int) = (kq : Int) := by rw [Int.tdiv_eq_ediv_of_nonneg (by omega)]; exact HKQ.out
            have hkqw : IntKind.i64.wrap (kq : Int) = kq := IntWalk.i64_in _ ⟨by omega, by omega⟩
            have hk2I := HK2.out
            have hk2w : IntKind.i64.wrap (k2 : Int) = k2 := IntWalk.i64_in _ ⟨by omega, by omega⟩
            have hP0 : ¬ P = 0 := by omega
            have hB0 : ¬ B = 0 := by omega
            refine wp_region_pt (fun Y => Y.cell? ⟨T, 1, none⟩ = some (.int .i64 P)) ((0, 0) :: (1, 0) :: (2, 0) :: (3, 0) :: (4, 0) :: (5, 0) :: (6, 0) :: (7, 0) :: []) (by kernel_rfl) (by kernel_rfl) ?_
            iterate 8 (apply wpP_go; (focus rfl); (focus rfl); (focus exact SK.out); (focus (rintro Q s0; go_simp; exact rfl)); intro K hK; go_simp; refine hK _ ?_; clear hK K)
            refine wpP_done ?_
            clear SK HA3 HBN3 hqd hkqw hk2I hk2w
            generalize V3.drew = V4 at *
            go_wp2_with fail
            go_meet
            exact ⟨k2, ⟨#[]⟩, vb, rfl, rfl, rfl, by omega, Nat.zero_le _, by omega, HA4, HBN4⟩
          · have h2b : ((kk : Int) == 2) = false := by rw [beq_eq_false_iff_ne]; omega
            have h3b : ((kk : Int) == 3) = false := by rw [beq_eq_false_iff_ne]; omega
            have h2I : ¬ (kk : Int) = 2 := by omega
            have h3I : ¬ (kk : Int) = 3 := by omega
            clear S2
            go_wp2_with fail
            go_meet
            exact ⟨k, ne, ve, rfl, rfl, rfl, hk, hnz, hvz, HA1, HBN1⟩
        case rest =>
          clear HA1 HBN1 S2 hk hnz hvz
          obtain ⟨k, nb, vb, rfl, rfl, rfl, hk, hnz, hvz, HAs, HBs⟩ := hcut
          obtain ⟨rb, hrb⟩ : ∃ s : ByteArray, s = ⟨(recd kk nb.data.toList vb.data.toList).toArray⟩ := ⟨_, rfl⟩
          have hrbz : rb.size = 5 + nb.size + vb.size := by rw [bsz, hrb]; exact recd_len _ _ _
          have HREC : Hid (∀ Z, Calls Tryz.prog 15 #[.int .u8 (kk : Int), .string nb, .string vb] Z fun e w' => e = .returned (.string rb) ∧ Below Z.heap.size Z w') := fun Z => by
            rw [hrb]
            exact rrecord_any kk nb vb Z (by omega) (by omega) (by omega)
          obtain ⟨np, hnp⟩ : ∃ n, pgs rb.size = n := ⟨_, rfl⟩
          have hnp3 : 1 ≤ np ∧ np ≤ 3 := by rw [← hnp, hrbz]; unfold pgs; omega
          have HPGS : Hid (∀ Z, Calls Tryz.prog 14 #[.string rb] Z fun e w' => ∃ g cap, e = .returned (.slice (some ⟨g, 0, none⟩) np cap) ∧ PG w' g np ∧ np ≤ cap ∧ cap ≤ maxLen ∧ Z.heap.size ≤ g ∧ Below Z.heap.size Z w') := fun Z => by
            refine (rpages2_any rb Z (by omega) (by omega)).mono ?_
            rintro e w' ⟨g, cap, h1, h2, h3, h4, h5, h6⟩
            rw [hnp] at h1 h2 h3
            exact ⟨g, cap, h1, ⟨_, h2, fun q hq => pagesR_64 _ _ (by
              rw [List.getD_eq_getElem?_getD, List.getElem?_eq_getElem (by rw [pagesR_len]; show q < pgs rb.size; rw [hnp]; exact hq)]
              exact List.getElem_mem _)⟩, h3, h4, h5, h6⟩
          clear hrb hrbz hnp
          go_wp2_with fail
          refine (HREC.out _).mono ?_
          rintro e W1 ⟨rfl, b1⟩
          have HA1r := Lib.hid (HAs.out.below b1)
          have hsz1 := HBs.out.size
          have HBNr : Hid (Below N w2 W1) := HBs.out.trans (b1.mono (Nat.le_trans hNs hsz1))
          clear b1 HREC HAs HBs
          go_wp2_with fail
          refine (HPGS.out _).mono ?_
          rintro e W2 ⟨gp, capp, rfl, hpg, hcp1, hcp2, hgp, b2⟩
          have HAP := Lib.hid (HA1r.out.below b2)
          have hsz2 := HBNr.out.size
          have HBP3 : Hid (Below N w2 W2) := HBNr.out.trans (b2.mono (Nat.le_trans hNs hsz2))
          have HPGP := Lib.hid hpg
          have HG : Hid (N ≤ gp ∧ ¬ D gp ∧ ¬ D' gp) := ⟨by omega, fun h => by have := HA1r.out.f.fin gp h; omega, fun h => by have := HA1r.out.f'.fin gp h; omega⟩
          have hcpp : np ≤ capp ∧ capp ≤ maxLen := ⟨hcp1, hcp2⟩
          clear b2 hpg hgp HPGS HA1r HBNr hcp1 hcp2 hsz1 hsz2
          go_wp2_with fail
          go_loopw [14, 20] (fun xk z wr => ∃ (j k : Nat) (fl : FL), j ≤ np ∧ k < BP ∧ xk = .int .i64 (k : Int) ∧ z = .int .i64 (j : Int) ∧ Hid (AF wr N X y D fl X' y' D' fl) ∧ Hid (fl.B = B ∧ fl.P = P ∧ fl.off = false ∧ fl.cut = false) ∧ Hid (PG wr gp np) ∧ Hid (Below N w2 wr)) (fun _ z _ => np - (intOf z).toNat)
          case atStart => exact ⟨0, k, fl, by omega, by omega, rfl, rfl, HAP, HF, HPGP, HBP3⟩
          case round =>
            clear HAP HF HPGP HBP3
            obtain ⟨j, k, fl, hj, hk, rfl, rfl, HA, HF, HPG, HBN⟩ := hrel
            by_cases hlj : j < np
            · have yj : (j : Int) < np := by omega
              have HBx : Hid (Below w.heap.size w wr) := HB2.out.trans (HBN.out.mono hNw)
              have q2 : wr.cell? ⟨bb, o + i * 4 + 2, none⟩ = some (.int .i64 c.ln) := (HBx.out.cell (p := ⟨bb, o + i * 4 + 2, none⟩) hbw).trans HQ.out.2.2.1
              have HM9 : Hid (Calls Tryz.prog 11 #[.int .i64 c.ln, .int .i64 9] wr fun e w' => e = .returned (.int .i64 ((mo c.ln 9 : Nat) : Int)) ∧ wr = w') := mod_any c.ln 9 wr (by omega) (by omega)
              obtain ⟨m9, hm9⟩ : ∃ m, mo c.ln 9 = m := ⟨_, rfl⟩
              rw [hm9] at HM9
              clear hm9
              go_wp2_with fail
              refine HM9.out.mono ?_
              rintro e w' ⟨rfl, rfl⟩
              clear HM9 q2
              go_upto_if 126 with fail
              go_cut [] (fun wx => Hid (AF wx N X y D fl X' y' D' fl) ∧ Hid (PG wx gp np) ∧ Hid (Below N w2 wx))
              case first =>
                obtain ⟨pe, hpe, kp⟩ := HPG.out.at hlj
                by_cases h8 : m9 = 8
                · subst h8
                  have q3 : wr.cell? ⟨bb, o + i * 4 + 3, none⟩ = some (.int .u8 (c.fi.toNat : Int)) := (HBx.out.cell (p := ⟨bb, o + i * 4 + 3, none⟩) hbw).trans HQ.out.2.2.2
                  have ST : Hid (wr.drew.cell? ⟨gp, j, none⟩ = some (.string pe) ∧ wr.drew.cell? ⟨bb, o + i * 4 + 3, none⟩ = some (.int .u8 (c.fi.toNat : Int))) := ⟨kp, q3⟩
                  have HAt := Lib.hid HA.out.drewA
                  have HBt : Hid (Below N w2 wr.drew) := HBN.out.drew
                  have HPGt := Lib.hid (HPG.out.below ((Below.refl _ wr).drew))
                  have HPZ := Lib.hid hpe
                  clear q3 kp HA HBN HPG
                  have h20 : 20 < pe.size := by omega
                  obtain ⟨b20, hb20⟩ : ∃ b : UInt8, pe[20] = b := ⟨_, rfl⟩
                  obtain ⟨xx, hxx⟩ : ∃ x, b20 &&& c.fi = x := ⟨_, rfl⟩
                  have HAND : Hid (bits .and .u8 (b20.toNat : Int) (c.fi.toNat : Int) = (xx.toNat : Int)) := by show _ = _; rw [b_and, hxx]
                  clear hxx
                  go_wp2_with fail
                  have hand := HAND.out
                  refine wp_region_pt (fun Y => Y.cell? ⟨gp, j, none⟩ = some (.string pe) ∧ Y.cell? ⟨bb, o + i * 4 + 3, none⟩ = some (.int .u8 (c.fi.toNat : Int))) ((0, 0) :: (1, 0) :: (2, 0) :: (3, 0) :: (4, 0) :: (5, 0) :: (6, 0) :: (7, 0) :: (8, 0) :: (9, 0) :: (10, 0) :: (11, 0) :: (12, 0) :: (13, 0) :: (14, 0) :: (15, 0) :: (16, 0) :: (17, 0) :: (21, 0) :: (22, 0) :: (23, 0) :: (24, 0) :: (25, 0) :: (18, 1) :: (19, 1) :: (20, 0) :: (26, 0) :: (27, 0) :: (28, 2) :: []) (by kernel_rfl) (by kernel_rfl) ?_
                  generalize wr.drew = Vd at *
                  iterate 23 (apply wpP_go; (focus rfl); (focus rfl); (focus exact ST.out); (focus (rintro Q ⟨s0, s1⟩; go_simp; exact rfl)); intro K hK; go_simp; refine hK _ ?_; clear hK K)
                  have bts : Bt (Vd.alloc (.cells #[.int .u8 (xx.toNat : Int)] 5)) Vd.heap.size 1 [xx] := Rg.bt ⟨_, heap_alloc_new Vd _, fun q hq => by
                    rcases (by omega : q = 0) with e; subst e; rfl⟩ rfl
                  have b5 : Below Vd.heap.size Vd (Vd.alloc (.cells #[.int .u8 (xx.toNat : Int)] 5)) := (Below.refl _ _).alloc (Nat.le_refl _) _
                  apply wpP_one
                  focus rfl
                  intro K hK
                  go_simp
                  refine hK _ _ ⟨cell_later b5 ST.out.1, cell_later b5 ST.out.2⟩ ?_
                  have S4 : Hid ((Vd.alloc (.cells #[.int .u8 (xx.toNat : Int)] 5)).cell? ⟨gp, j, none⟩ = some (.string pe) ∧ (Vd.alloc (.cells #[.int .u8 (xx.toNat : Int)] 5)).cell? ⟨bb, o + i * 4 + 3, none⟩ = some (.int .u8 (c.fi.toNat : Int))) := ⟨cell_later b5 ST.out.1, cell_later b5 ST.out.2⟩
                  have hsd := HBt.out.size
                  have HA5 := Lib.hid (HAt.out.below b5)
                  have HBN5 : Hid (Below N w2 (Vd.alloc (.cells #[.int .u8 (xx.toNat : Int)] 5))) := HBt.out.trans (b5.mono (Nat.le_trans hNs hsd))
                  have HPG5 := Lib.hid (HPGt.out.below b5)
                  clear hK K b5 ST HAt HBt HPGt hsd hand
                  have hcv := bts.strAt 0 1 1 (by omega)
                  obtain ⟨xs, hxs⟩ : ∃ s : ByteArray, (⟨((List.drop 0 [xx]).take 1).toArray⟩ : ByteArray) = s := ⟨_, rfl⟩
                  have hxsz : xs.size = 1 := by rw [← hxs]; rfl
                  rw [hxs] at hcv
                  clear hxs bts
                  generalize hV3 : Vd.alloc (.cells #[.int .u8 (xx.toNat : Int)] 5) = V5 at *
                  obtain ⟨G, hG⟩ : ∃ G, Vd.heap.size = G := ⟨_, rfl⟩
                  simp only [hG]
                  rw [hG] at hcv
                  clear hV3 hG
                  apply wpP_one
                  focus rfl
                  intro K hK
                  go_simp
                  refine hK _ _ S4.out ?_
                  clear hK K hcv
                  iterate 2 (apply wpP_go; (focus rfl); (focus rfl); (focus exact S4.out); (focus (rintro Q ⟨s0, s1⟩; go_simp; exact rfl)); intro K hK; go_simp; refine hK _ ?_; clear hK K)
                  have kp5 := S4.out.1
                  have fz := HPG5.out.frozen j
                  have hD0e : pe.size = 64 := HPZ.out
                  obtain ⟨D0, hD0⟩ : ∃ d : ByteArray, pe.extract 0 20 ++ xs ++ pe.extract 21 64 = d := ⟨_, rfl⟩
                  have HD64 : Hid (D0.size = 64) := by show _ = _; rw [← hD0, ByteArray.size_append, ByteArray.size_append, ext_size _ _ _ (by omega), ext_size _ _ _ (by omega), hxsz]
                  iterate 1 (apply wpP_go; (focus rfl); (focus rfl); (focus exact S4.out); (focus (rintro Q ⟨s0, s1⟩; go_simp; exact rfl)); intro K hK; go_simp; refine hK _ ?_; clear hK K)
                  apply wpP_two
                  focus rfl
                  intro K hK
                  go_simp
                  refine hK _ _ ?_
                  clear hK K kp5 fz hD0 S4
                  refine wpP_done ?_
                  have hpw := HPG5.out.setc hlj HD64.out
                  have HPGw := Lib.hid hpw.1
                  have kp := hpw.2
                  have HAw : Hid (AF (V5.setCell ⟨gp, j, none⟩ (.string D0)) N X y D fl X' y' D' fl) := HA5.out.far ((Ch.refl (fun x => x = gp) V5).setCell (p := ⟨gp, j, none⟩) (fun _ => rfl) _) (fun q e h => HG.out.2.1 (e ▸ h)) (fun q e h => HG.out.2.2 (e ▸ h))
                  have HBw : Hid (Below N w2 (V5.setCell ⟨gp, j, none⟩ (.string D0))) := HBN5.out.setCell (p := ⟨gp, j, none⟩) HG.out.1 _
                  clear hpw HPG5 HA5 HBN5 HAND hD0e
                  clear kp
                  generalize V5.setCell ⟨gp, j, none⟩ (.string D0) = Vw at *
                  go_wp2_with fail
                  go_meet
                  exact ⟨HAw, HPGw, HBw⟩
                · have h8b : ((m9 : Int) == 8) = false := by rw [beq_eq_false_iff_ne]; omega
                  have h8I : ¬ (m9 : Int) = 8 := by omega
                  clear kp
                  go_wp2_with fail
                  go_meet
                  exact ⟨HA, HPG, HBN⟩
              case rest =>
                obtain ⟨HAc, HPGc, HBc⟩ := hcut
                clear HA HPG HBN HBx
                obtain ⟨pe, hpe, kp⟩ := HPGc.out.at hlj
                have u0 : wc.cell? ⟨T, 0, none⟩ = some (.int .i64 B) := (HBc.out.cell (p := ⟨T, 0, none⟩) HTl2.out).trans HTc.out.1
                have u1 : wc.cell? ⟨T, 1, none⟩ = some (.int .i64 P) := (HBc.out.cell (p := ⟨T, 1, none⟩) HTl2.out).trans HTc.out.2.1
                have hkB : k / P < B := by rw [Nat.div_lt_iff_lt_mul (by omega)]; have := HBP.out; omega
                have hkP : k % P < P := Nat.mod_lt _ (by omega)
                obtain ⟨kq, hkq⟩ : ∃ q, k / P = q := ⟨_, rfl⟩
                obtain ⟨kr, hkr⟩ : ∃ q, k % P = q := ⟨_, rfl⟩
                have hkqI : (k : Int) / (P : Int) = (kq : Int) := by rw [← hkq]; exact (Int.natCast_ediv k P).symm
                have hkrI : (k : Int) % (P : Int) = (kr : Int) := by rw [← hkr]; exact (Int.natCast_emod k P).symm
                rw [hkq] at hkB
                rw [hkr] at hkP
                have HKQ := Lib.hid (And.intro hkqI hkrI)
                have SP : Hid (wc.drew.cell? ⟨T, 1, none⟩ = some (.int .i64 P) ∧ wc.drew.cell? ⟨gp, j, none⟩ = some (.string pe)) := ⟨u1, kp⟩
                have HP1 := Lib.hid (programA (HAc.out.drewA.f) (b := kq) (p := kr) (by rw [HF.out.1]; exact hkB) (by rw [HF.out.2.1]; exact hkP) pe)
                have HP2 := Lib.hid (fun (V : World) (hV : AF V N X y D (progA fl kq kr pe).2 X' y' D' fl) => rprogramA hV.f'.drew (b := kq) (p := kr) (by rw [HF.out.1]; exact hkB) (by rw [HF.out.2.1]; exact hkP) pe)
                have HSM := Lib.hid (And.intro (progA_same fl kq kr pe) (progA_calm HF.out.2.2.1 HF.out.2.2.2 kq kr pe))
                have HAd := Lib.hid HAc.out.drewA
                have HBd : Hid (Below N w2 wc.drew) := HBc.out.drew
                clear hkq hkr hkqI hkrI HAc u0 u1 kp
                obtain ⟨ep, fp, hpr⟩ : ∃ e f, progA fl kq kr pe = (e, f) := ⟨_, _, rfl⟩
                rw [hpr] at HP1 HSM
                simp only [hpr] at HP2
                clear hpr
                go_wp2_with fail
                have hqd : (k : Int).tdiv (P : Int) = (kq : Int) := by rw [Int.tdiv_eq_ediv_of_nonneg (by omega)]; exact HKQ.out.1
                have hqm : (k : Int).tmod (P : Int) = (kr : Int) := by rw [Int.tmod_eq_emod_of_nonneg (by omega)]; exact HKQ.out.2
                have hkqw : IntKind.i64.wrap (kq : Int) = kq := IntWalk.i64_in _ ⟨by omega, by omega⟩
                have hP0 : ¬ P = 0 := by omega
                have hB0 : ¬ B = 0 := by omega
                refine wp_region_pt (fun Y => Y.cell? ⟨T, 1, none⟩ = some (.int .i64 P) ∧ Y.cell? ⟨gp, j, none⟩ = some (.string pe)) ((0, 0) :: (1, 0) :: (2, 0) :: (3, 0) :: (4, 0) :: (5, 0) :: (6, 0) :: (7, 0) :: (8, 0) :: (9, 0) :: (10, 0) :: (11, 0) :: (12, 0) :: (13, 2) :: []) (by kernel_rfl) (by kernel_rfl) ?_
                iterate 13 (apply wpP_go; (focus rfl); (focus rfl); (focus exact SP.out); (focus (rintro Q ⟨s0, s1⟩; go_simp; exact rfl)); intro K hK; go_simp; refine hK _ ?_; clear hK K)
                apply wpP_two
                focus rfl
                intro K hK
                go_simp
                refine HP1.out.mono ?_
                rintro e V1 ⟨rfl, h1, c1⟩
                have hc1 := HAd.out.ch1 h1 c1
                have HA1 := Lib.hid hc1.1
                have HB1' : Hid (Below N w2 V1) := HBd.out.trans hc1.2
                have HPG1 : Hid (PG V1 gp np) := (HPGc.out.below ((Below.refl _ wc).drew)).ch c1 (fun h => HG.out.2.1 h)
                have k1' : V1.cell? ⟨gp, j, none⟩ = some (.string pe) := (c1.cell (p := ⟨gp, j, none⟩) (by show gp < wc.drew.heap.size; exact HPGc.out.lt) (fun h => HG.out.2.1 h)).trans SP.out.2
                refine hK _ _ ?_
                clear hK K h1 c1 hc1 HP1 HAd HBd SP HPGc
                refine wpP_done ?_
                go_wp2_with fail
                have SP : Hid (V1.drew.cell? ⟨T, 1, none⟩ = some (.int .i64 P) ∧ V1.drew.cell? ⟨gp, j, none⟩ = some (.string pe)) := ⟨(HB1'.out.cell (p := ⟨T, 1, none⟩) HTl2.out).trans HTc.out.2.1, k1'⟩
                have HP3 := Lib.hid (HP2.out V1 HA1.out)
                have HAd := Lib.hid HA1.out.drewA
                have HBd : Hid (Below N w2 V1.drew) := HB1'.out.drew
                have hqd : (k : Int).tdiv (P : Int) = (kq : Int) := by rw [Int.tdiv_eq_ediv_of_nonneg (by omega)]; exact HKQ.out.1
                have hqm : (k : Int).tmod (P : Int) = (kr : Int) := by rw [Int.tmod_eq_emod_of_nonneg (by omega)]; exact HKQ.out.2
                have hkqw : IntKind.i64.wrap (kq : Int) = kq := IntWalk.i64_in _ ⟨by omega, by omega⟩
                have hP0 : ¬ P = 0 := by omega
                have hB0 : ¬ B = 0 := by omega
                refine wp_region_pt (fun Y => Y.cell? ⟨T, 1, none⟩ = some (.int .i64 P) ∧ Y.cell? ⟨gp, j, none⟩ = some (.string pe)) ((0, 0) :: (1, 0) :: (2, 0) :: (3, 0) :: (4, 0) :: (5, 0) :: (6, 0) :: (7, 0) :: (8, 0) :: (9, 0) :: (10, 0) :: (11, 0) :: (12, 0) :: (13, 2) :: []) (by kernel_rfl) (by kernel_rfl) ?_
                iterate 13 (apply wpP_go; (focus rfl); (focus rfl); (focus exact SP.out); (focus (rintro Q ⟨s0, s1⟩; go_simp; exact rfl)); intro K hK; go_simp; refine hK _ ?_; clear hK K)
                apply wpP_two
                focus rfl
                intro K hK
                go_simp
                refine HP3.out.mono ?_
                rintro e V2 ⟨rfl, h2, c2⟩
                have hc2 := HAd.out.ch2 h2 c2
                have HA2 := Lib.hid hc2.1
                have HB2' : Hid (Below N w2 V2) := HBd.out.trans hc2.2
                have HPG2 : Hid (PG V2 gp np) := (HPG1.out.below ((Below.refl _ V1).drew)).ch c2 (fun h => HG.out.2.2 h)
                refine hK _ _ ?_
                clear hK K h2 c2 hc2 HP2 HP3 HAd HBd SP HPG1 HA1 HB1' k1'
                refine wpP_done ?_
                have u0 : V2.cell? ⟨T, 0, none⟩ = some (.int .i64 B) := (HB2'.out.cell (p := ⟨T, 0, none⟩) HTl2.out).trans HTc.out.1
                have u1 : V2.cell? ⟨T, 1, none⟩ = some (.int .i64 P) := (HB2'.out.cell (p := ⟨T, 1, none⟩) HTl2.out).trans HTc.out.2.1
                obtain ⟨kn, hkn⟩ : ∃ q, (k + 1) % BP = q := ⟨_, rfl⟩
                have hknl : kn < BP := by rw [← hkn]; exact Nat.mod_lt _ (by omega)
                have hknI : ((k : Int) + 1) % (BP : Int) = (kn : Int) := by rw [← hkn]; exact (Int.natCast_emod (k + 1) BP).symm
                clear hkn hqd hqm hkqw
                go_wp2_with fail
                skip
                go_roundw
                case rel => exact ⟨j + 1, kn, fp, by omega, hknl, by go_num, by go_num, HA2, ⟨HSM.out.1.1.trans HF.out.1, HSM.out.1.2.trans HF.out.2.1, HSM.out.2.1, HSM.out.2.2⟩, HPG2, HB2'⟩
                case measure => simp [intOf]; omega
            · have yj : ¬ (j : Int) < np := by omega
              go_wp2_with fail
              go_roundw
              case rel => exact ⟨i + 1, k, fl, by omega, hk, rfl, by go_num, HA, HF, HBN⟩
              case measure => simp [intOf]; omega
      · have y0 : ¬ (i : Int) < len := by omega
        have HA0 := HA
        have HF0 := HF
        have HBN0 := HBN
        clear HA HF HBN
        go_wp2_with fail
        go_loopw [21] (fun z wr => ∃ (i3 : Nat) (fl : FL), i3 ≤ len2 ∧ z = .int .i64 (i3 : Int) ∧ Hid (AF wr N X y D fl X' y' D' fl) ∧ Hid (fl.B = B ∧ fl.P = P ∧ fl.off = false ∧ fl.cut = false) ∧ Hid (Below N w2 wr)) (fun z _ => len2 - (intOf z).toNat)
        case atStart => exact ⟨0, fl, by omega, rfl, HA0, HF0, HBN0⟩
        case round =>
          clear HA0 HF0 HBN0 HL
          obtain ⟨i3, fl, hi3, rfl, HA, HF, HBN⟩ := hrel
          have HBx : Hid (Below w.heap.size w wr) := HB2.out.trans (HBN.out.mono hNw)
          by_cases hl3 : i3 < len2
          · have y3 : (i3 : Int) < len2 := by omega
            obtain ⟨bs, os, pe, rfl, hbs, _, _, p0⟩ := HL2.out.at hl3
            have kp : wr.cell? ⟨bs, os + i3, none⟩ = some (.string pe) := (HBx.out.cell (p := ⟨bs, os + i3, none⟩) hbs).trans p0
            clear p0
            have hkB : i3 % B < B := Nat.mod_lt _ (by omega)
            have hkP : i3 % P < P := Nat.mod_lt _ (by omega)
            obtain ⟨kq, hkq⟩ : ∃ q, i3 % B = q := ⟨_, rfl⟩
            obtain ⟨kr, hkr⟩ : ∃ q, i3 % P = q := ⟨_, rfl⟩
            have hkqI : (i3 : Int) % (B : Int) = (kq : Int) := by rw [← hkq]; exact (Int.natCast_emod i3 B).symm
            have hkrI : (i3 : Int) % (P : Int) = (kr : Int) := by rw [← hkr]; exact (Int.natCast_emod i3 P).symm
            rw [hkq] at hkB
            rw [hkr] at hkP
            have HKQ := Lib.hid (And.intro hkqI hkrI)
            have SP : Hid (wr.drew.cell? ⟨T, 0, none⟩ = some (.int .i64 B) ∧ wr.drew.cell? ⟨T, 1, none⟩ = some (.int .i64 P) ∧ wr.drew.cell? ⟨bs, os + i3, none⟩ = some (.string pe)) := ⟨(HBN.out.cell (p := ⟨T, 0, none⟩) HTl2.out).trans HTc.out.1, (HBN.out.cell (p := ⟨T, 1, none⟩) HTl2.out).trans HTc.out.2.1, kp⟩
            have HP1 := Lib.hid (programA (HA.out.drewA.f) (b := kq) (p := kr) (by rw [HF.out.1]; exact hkB) (by rw [HF.out.2.1]; exact hkP) pe)
            have HP2 := Lib.hid (fun (V : World) (hV : AF V N X y D (progA fl kq kr pe).2 X' y' D' fl) => rprogramA hV.f'.drew (b := kq) (p := kr) (by rw [HF.out.1]; exact hkB) (by rw [HF.out.2.1]; exact hkP) pe)
            have HSM := Lib.hid (And.intro (progA_same fl kq kr pe) (progA_calm HF.out.2.2.1 HF.out.2.2.2 kq kr pe))
            have HAd := Lib.hid HA.out.drewA
            have HBd : Hid (Below N w2 wr.drew) := HBN.out.drew
            clear hkq hkr hkqI hkrI HA kp HBx HBN
            obtain ⟨ep, fp, hpr⟩ : ∃ e f, progA fl kq kr pe = (e, f) := ⟨_, _, rfl⟩
            rw [hpr] at HP1 HSM
            simp only [hpr] at HP2
            clear hpr
            go_wp2_with fail
            have hqd : (i3 : Int).tmod (B : Int) = (kq : Int) := by rw [Int.tmod_eq_emod_of_nonneg (by omega)]; exact HKQ.out.1
            have hqm : (i3 : Int).tmod (P : Int) = (kr : Int) := by rw [Int.tmod_eq_emod_of_nonneg (by omega)]; exact HKQ.out.2
            have hkqw : IntKind.i64.wrap (kq : Int) = kq := IntWalk.i64_in _ ⟨by omega, by omega⟩
            have hP0 : ¬ P = 0 := by omega
            have hB0 : ¬ B = 0 := by omega
            refine wp_region_pt (fun Y => Y.cell? ⟨T, 0, none⟩ = some (.int .i64 B) ∧ Y.cell? ⟨T, 1, none⟩ = some (.int .i64 P) ∧ Y.cell? ⟨bs, os + i3, none⟩ = some (.string pe)) ((0, 0) :: (1, 0) :: (2, 0) :: (3, 0) :: (4, 0) :: (5, 0) :: (6, 0) :: (7, 0) :: (8, 0) :: (9, 0) :: (10, 0) :: (11, 0) :: (12, 0) :: (13, 2) :: []) (by kernel_rfl) (by kernel_rfl) ?_
            iterate 13 (apply wpP_go; (focus rfl); (focus rfl); (focus exact SP.out); (focus (rintro Q ⟨s0, s1, s2⟩; go_simp; exact rfl)); intro K hK; go_simp; refine hK _ ?_; clear hK K)
            apply wpP_two
            focus rfl
            intro K hK
            go_simp
            refine HP1.out.mono ?_
            rintro e V1 ⟨rfl, h1, c1⟩
            have hc1 := HAd.out.ch1 h1 c1
            have HA1 := Lib.hid hc1.1
            have HB1' : Hid (Below N w2 V1) := HBd.out.trans hc1.2
            have k1' : V1.cell? ⟨bs, os + i3, none⟩ = some (.string pe) := (hc1.2.cell (p := ⟨bs, os + i3, none⟩) (by show bs < N; omega)).trans SP.out.2.2
            refine hK _ _ ?_
            clear hK K h1 c1 hc1 HP1 HAd HBd SP
            refine wpP_done ?_
            go_wp2_with fail
            have SP : Hid (V1.drew.cell? ⟨T, 0, none⟩ = some (.int .i64 B) ∧ V1.drew.cell? ⟨T, 1, none⟩ = some (.int .i64 P) ∧ V1.drew.cell? ⟨bs, os + i3, none⟩ = some (.string pe)) := ⟨(HB1'.out.cell (p := ⟨T, 0, none⟩) HTl2.out).trans HTc.out.1, (HB1'.out.cell (p := ⟨T, 1, none⟩) HTl2.out).trans HTc.out.2.1, k1'⟩
            have HP3 := Lib.hid (HP2.out V1 HA1.out)
            have HAd := Lib.hid HA1.out.drewA
            have HBd : Hid (Below N w2 V1.drew) := HB1'.out.drew
            have hqd : (i3 : Int).tmod (B : Int) = (kq : Int) := by rw [Int.tmod_eq_emod_of_nonneg (by omega)]; exact HKQ.out.1
            have hqm : (i3 : Int).tmod (P : Int) = (kr : Int) := by rw [Int.tmod_eq_emod_of_nonneg (by omega)]; exact HKQ.out.2
            have hkqw : IntKind.i64.wrap (kq : Int) = kq := IntWalk.i64_in _ ⟨by omega, by omega⟩
            have hP0 : ¬ P = 0 := by omega
            have hB0 : ¬ B = 0 := by omega
            refine wp_region_pt (fun Y => Y.cell? ⟨T, 0, none⟩ = some (.int .i64 B) ∧ Y.cell? ⟨T, 1, none⟩ = some (.int .i64 P) ∧ Y.cell? ⟨bs, os + i3, none⟩ = some (.string pe)) ((0, 0) :: (1, 0) :: (2, 0) :: (3, 0) :: (4, 0) :: (5, 0) :: (6, 0) :: (7, 0) :: (8, 0) :: (9, 0) :: (10, 0) :: (11, 0) :: (12, 0) :: (13, 2) :: []) (by kernel_rfl) (by kernel_rfl) ?_
            iterate 13 (apply wpP_go; (focus rfl); (focus rfl); (focus exact SP.out); (focus (rintro Q ⟨s0, s1, s2⟩; go_simp; exact rfl)); intro K hK; go_simp; refine hK _ ?_; clear hK K)
            apply wpP_two
            focus rfl
            intro K hK
            go_simp
            refine HP3.out.mono ?_
            rintro e V2 ⟨rfl, h2, c2⟩
            have hc2 := HAd.out.ch2 h2 c2
            have HA2 := Lib.hid hc2.1
            have HB2' : Hid (Below N w2 V2) := HBd.out.trans hc2.2
            refine hK _ _ ?_
            clear hK K h2 c2 hc2 HP2 HP3 HAd HBd SP HA1 HB1' k1' hqd hqm
            refine wpP_done ?_
            go_wp2_with fail
            go_roundw
            case rel => exact ⟨i3 + 1, fp, by omega, by go_num, HA2, ⟨HSM.out.1.1.trans HF.out.1, HSM.out.1.2.trans HF.out.2.1, HSM.out.2.1, HSM.out.2.2⟩, HB2'⟩
            case measure => simp [intOf]; omega
          · have y3 : ¬ (i3 : Int) < len2 := by omega
            have HOP := Lib.hid (open_any HA.out.f)
            go_wp2_with fail
            refine HOP.out.mono ?_
            rintro e w4 ⟨b4, ⟨cc, h1, rfl⟩ | ⟨st, S, m, DS, h1, rfl, h3, h4, hblk⟩⟩
            · have HROP := Lib.hid (ropen_any (HA.out.f'.below b4))
              have hcc := opnF_none h1
              have HO1 := Lib.hid h1
              have HB4 : Hid (Below w.heap.size w w4) := HBx.out.trans (b4.mono HBx.out.size)
              clear b4 h1 HOP HA
              go_wp2_with fail
              refine HROP.out.mono ?_
              rintro e w5 ⟨b5, ⟨c', h1', rfl⟩ | ⟨st', S', DS', h1', _⟩⟩
              · rw [HO1.out] at h1'
                injection h1' with h1'
                subst h1'
                have HB5 : Hid (Below w.heap.size w w5) := HB4.out.trans (b5.mono HB4.out.size)
                have HAW := Lib.hid (awake_any w5)
                clear b5 HROP HB4 HO1
                rcases hcc with rfl | rfl | rfl
                all_goals
                  go_wp2_with fail
                  refine HAW.out.mono ?_
                  rintro e w9 ⟨rfl, b9⟩
                  have HB9 : Hid (Below w.heap.size w w9) := HB5.out.trans (b9.mono HB5.out.size)
                  clear b9 HAW
                  go_wp2_with fail
                  go_ret
                  exact ⟨rfl, HB9.out⟩
              · rw [HO1.out] at h1'; cases h1'
            · have HROP := Lib.hid (ropen_any (HA.out.f'.below b4))
              have HO1 := Lib.hid h1
              have HB4 := Lib.hid b4
              have HS4 := Lib.hid (And.intro h3 h4)
              clear b4 h1 HOP h3 h4 hblk
              go_wp2_with fail
              refine HROP.out.mono ?_
              rintro e w5 ⟨b5, ⟨c', h1', rfl⟩ | ⟨st', S', DS', h1', rfl, h3', h4', _⟩⟩
              · rw [HO1.out] at h1'; cases h1'
              · rw [HO1.out] at h1'
                injection h1' with _ h1'
                injection h1' with h1'
                subst h1'
                have HA5 : Hid (AG w5 N S X 32 y D fl st S' X' y' D' fl st) := AG.opened HA.out HB4.out HS4.out.2 HS4.out.1 b5 h4' h3'
                have HB5 : Hid (Below w.heap.size w w5) := (HBx.out.trans (HB4.out.mono HBx.out.size)).trans (b5.mono (HBx.out.trans (HB4.out.mono HBx.out.size)).size)
                have HG1 := Lib.hid HA5.out.gen
                have HG2 := Lib.hid HA5.out.rgen
                obtain ⟨gn, hgn⟩ : ∃ g, st.gen = g := ⟨_, rfl⟩
                rw [hgn] at HG1 HG2
                clear b5 h3' h4' HROP HB4 HS4 HO1 HA hgn HBx
                go_wp2_with fail
                refine HG1.out.mono ?_
                rintro e w' ⟨rfl, rfl⟩
                go_wp2_with fail
                refine HG2.out.mono ?_
                rintro e w' ⟨rfl, rfl⟩
                clear HG1 HG2
                obtain ⟨Lw, hLw⟩ : ∃ L, st.V.length = L := ⟨_, rfl⟩
                have HLW := Lib.hid hLw
                have HL1 := Lib.hid (HA5.out.list (by omega))
                rw [hLw] at HL1
                clear hLw
                go_wp2_with fail
                refine HL1.out.mono ?_
                rintro e wl6 ⟨g1, rfl, hg1, hv1, b6⟩
                have HV1 := Lib.hid hv1
                have HAl6 := Lib.hid (HA5.out.below b6)
                have HBl6 : Hid (Below w.heap.size w wl6) := HB5.out.trans (b6.mono HB5.out.size)
                have HL2' := Lib.hid HAl6.out.rlist
                rw [HLW.out] at HL2'
                clear hg1 hv1 b6 HL1 HA5 HB5
                go_wp2_with fail
                refine HL2'.out.mono ?_
                rintro e wl7 ⟨a2, cap2, rfl, hv2, b7⟩
                have HEQ := Lib.hid (equalV_any (HV1.out.below b7) hv2 HLW.out HLW.out)
                have HAl7 := Lib.hid (HAl6.out.below b7)
                have HBl7 : Hid (Below w.heap.size w wl7) := HBl6.out.trans (b7.mono HBl6.out.size)
                rw [show decide (st.V = st.V) = true by simp] at HEQ
                clear hv2 b7 HL2' HAl6 HBl6 HV1
                go_wp2_with fail
                refine HEQ.out.mono ?_
                rintro e wl8 ⟨rfl, c8⟩
                have HA8 := Lib.hid (HAl7.out.below (c8.below (Nat.le_refl _) (fun _ h => h.elim)))
                have HB8 : Hid (Below w.heap.size w wl8) := HBl7.out.trans ((c8.below (B := wl7.heap.size) (Nat.le_refl _) (fun _ h => h.elim)).mono HBl7.out.size)
                clear c8 HEQ HAl7 HBl7 HLW
                have HAL := Lib.hid (alike_any HA8.out.a.f HA8.out.a.f' HF.out.2.2.1)
                go_wp2_with fail
                refine HAL.out.mono ?_
                rintro e wC ⟨rfl, bC⟩
                have HBC : Hid (Below w.heap.size w wC) := HB8.out.trans (bC.mono HB8.out.size)
                have HAW := Lib.hid (awake_any wC)
                clear bC HAL HA8 HB8
                go_wp2_with fail
                refine HAW.out.mono ?_
                rintro e wD ⟨rfl, bD⟩
                have HBD : Hid (Below w.heap.size w wD) := HBC.out.trans (bD.mono HBC.out.size)
                clear bD HAW
                go_wp2_with fail
                go_ret
                exact ⟨rfl, HBD.out⟩
end Go.Proofs.YtfglopkglnpokaaGreat
