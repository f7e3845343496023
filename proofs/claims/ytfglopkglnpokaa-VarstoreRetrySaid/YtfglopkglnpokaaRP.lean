/- replay. Condition: sizes. -/
import Derived.Test.YtfglopkglnpokaaY
namespace Go.Proofs.Ytfglopkglnpokaa
open Go.RowKit
theorem len_take64 {ps : List Str} (hl : ∀ p ∈ ps, p.length = 64) (c : Nat) : (ps.take c).flatten.length = min c ps.length * 64 := by
  rw [flat_len _ (fun p hp => hl p (List.mem_of_mem_take hp)), List.length_take]
theorem dec_some {ps : List Str} {k : Nat} {n v : Str} {c : Nat} (hl : ∀ p ∈ ps, p.length = 64) (h : dec ps = some (k, n, v, c)) :
    okLens k n.length v.length = true ∧ c = pgs (5 + n.length + v.length) ∧ 1 ≤ c ∧ c ≤ ps.length := by
  unfold dec at h
  dsimp only at h
  split at h
  · cases h
  · rename_i h1
    split at h
    · cases h
    · rename_i h2
      split at h
      · simp only [Option.some.injEq, Prod.mk.injEq] at h
        obtain ⟨e1, e2, e3, e4⟩ := h
        have hal := len_take64 hl (pgs (5 + ((ps.getD 0 []).getD 1 0).toNat + ((ps.getD 0 []).getD 2 0).toNat))
        have hp : 5 + ((ps.getD 0 []).getD 1 0).toNat + ((ps.getD 0 []).getD 2 0).toNat ≤ pgs (5 + ((ps.getD 0 []).getD 1 0).toNat + ((ps.getD 0 []).getD 2 0).toNat) * 64 := pgs_le _
        rw [Nat.min_eq_left (by omega)] at hal
        have hn : n.length = ((ps.getD 0 []).getD 1 0).toNat := by
          rw [← e2, List.length_take, List.length_drop, hal]; omega
        have hv : v.length = ((ps.getD 0 []).getD 2 0).toNat := by
          rw [← e3, List.length_take, List.length_drop, hal]; omega
        rw [hn, hv, ← e1, ← e4]
        refine ⟨by simpa using h1, rfl, ?_, by omega⟩
        unfold pgs; omega
      · cases h
theorem okLens_k {k n v : Nat} (h : okLens k n v = true) : k = 1 ∨ k = 2 ∨ k = 3 := by
  unfold okLens at h
  simp only [Bool.or_eq_true, Bool.and_eq_true, beq_iff_eq, decide_eq_true_eq] at h
  rcases h with (h | h) | h
  · exact .inl h.1.1.1
  · exact .inr (.inl h.1.1.1)
  · exact .inr (.inr h.1.1)
def appV (V : Vars) (k : Nat) (n v : Str) : Vars := if k = 1 then setV V n v else if k = 2 then delV V n else V
/-- The records from page n on. -/
def rpl : Nat → List Str → Vars → Nat → Vars × Nat × Bool
  | 0, _, V, n => (V, n, false)
  | f + 1, ps, V, n => if n < ps.length ∧ zeros (ps.getD n []) ≠ 0 then (match dec (ps.drop n) with
    | none => (V, n, true)
    | some (k, nm, v, c) => rpl f ps (appV V k nm v) (n + c)) else (V, n, false)
theorem rpl_stop {f : Nat} {ps : List Str} {V : Vars} {n : Nat} (h : ¬ (n < ps.length ∧ zeros (ps.getD n []) ≠ 0)) : rpl f ps V n = (V, n, false) := by
  cases f with
  | zero => rfl
  | succ f => unfold rpl; rw [if_neg h]
theorem rpl_none {f : Nat} {ps : List Str} {V : Vars} {n : Nat} (h : n < ps.length ∧ zeros (ps.getD n []) ≠ 0) (hd : dec (ps.drop n) = none) : rpl (f + 1) ps V n = (V, n, true) := by
  unfold rpl; rw [if_pos h, hd]
theorem rpl_some {f : Nat} {ps : List Str} {V : Vars} {n k c : Nat} {nm v : Str} (h : n < ps.length ∧ zeros (ps.getD n []) ≠ 0) (hd : dec (ps.drop n) = some (k, nm, v, c)) : rpl (f + 1) ps V n = rpl f ps (appV V k nm v) (n + c) := by
  conv => lhs; unfold rpl
  rw [if_pos h, hd]
theorem mem_delV {V : Vars} {k : Str} {q : Str × Str} (h : q ∈ delV V k) : q ∈ V := (List.mem_filter.1 h).1
theorem appV_srt {V : Vars} (h : Srt V) (k : Nat) (n v : Str) : Srt (appV V k n v) := by
  unfold appV
  split
  · exact h.set n v
  · split
    · exact h.del n
    · exact h
theorem appV_hv {V : Vars} (h : ∀ p ∈ V, p.1.length ≤ 24 ∧ p.2.length ≤ 128) {k : Nat} {n v : Str} (hn : n.length ≤ 24) (hv : v.length ≤ 128) : ∀ p ∈ appV V k n v, p.1.length ≤ 24 ∧ p.2.length ≤ 128 := by
  unfold appV
  intro p hp
  split at hp
  · rcases mem_setV hp with e | e
    · rw [e]; exact ⟨hn, hv⟩
    · exact h p e
  · split at hp
    · exact h p (mem_delV hp)
    · exact h p hp
theorem SW.withNxt {w : World} {D : Nat → Prop} {S X m n nx : Nat} {st : ST} (h : SW w D S X m n st) (hx : nx ≤ 1000) : SW (w.setCell ⟨S, 4, none⟩ (.int .i64 (nx : Int))) D S X m n ⟨st.V, st.blk, st.gen, nx, st.clo⟩ :=
  { top := (h.top.set (i := 4) (by omega) (.int .i64 (nx : Int))).congr fun j hj => by
      rcases (by omega : j = 0 ∨ j = 1 ∨ j = 2 ∨ j = 3 ∨ j = 4 ∨ j = 5) with e | e | e | e | e | e <;> subst e <;> simp [upd, stc]
    map := h.map.ch ((Ch.refl (fun x => x = S) w).setCell (p := ⟨S, 4, none⟩) (fun _ => rfl) _) h.mS
    dS := h.dS, dm := h.dm, fin := fun k hk => by simpa [World.setCell] using h.fin k hk
    srt := h.srt, hv := h.hv, hg := h.hg, hn := hx, hb := h.hb }
theorem SW.withClo {w : World} {D : Nat → Prop} {S X m n : Nat} {st : ST} (h : SW w D S X m n st) (c : Bool) : SW (w.setCell ⟨S, 5, none⟩ (.bool c)) D S X m n ⟨st.V, st.blk, st.gen, st.nxt, c⟩ :=
  { top := (h.top.set (i := 5) (by omega) (.bool c)).congr fun j hj => by
      rcases (by omega : j = 0 ∨ j = 1 ∨ j = 2 ∨ j = 3 ∨ j = 4 ∨ j = 5) with e | e | e | e | e | e <;> subst e <;> simp [upd, stc]
    map := h.map.ch ((Ch.refl (fun x => x = S) w).setCell (p := ⟨S, 5, none⟩) (fun _ => rfl) _) h.mS
    dS := h.dS, dm := h.dm, fin := fun k hk => by simpa [World.setCell] using h.fin k hk
    srt := h.srt, hv := h.hv, hg := h.hg, hn := h.hn, hb := h.hb }
theorem SW.withMap {w w' : World} {D : Nat → Prop} {S X m n n' : Nat} {st : ST} {V : Vars} (h : SW w D S X m n st) (c : Ch (fun x => x = m) w w') (hm : SM w' m n' V) (hs : Srt V) (hv : ∀ p ∈ V, p.1.length ≤ 24 ∧ p.2.length ≤ 128) : SW w' D S X m n' ⟨V, st.blk, st.gen, st.nxt, st.clo⟩ :=
  { top := (h.top.ch c (fun e => h.mS e.symm)).congr fun j hj => by
      rcases (by omega : j = 0 ∨ j = 1 ∨ j = 2 ∨ j = 3 ∨ j = 4 ∨ j = 5) with e | e | e | e | e | e <;> subst e <;> rfl
    map := hm, dS := h.dS, dm := h.dm, fin := fun k hk => Nat.lt_of_lt_of_le (h.fin k hk) c.size
    srt := hs, hv := hv, hg := h.hg, hn := h.hn, hb := h.hb }

section
variable {w : World} {D : Nat → Prop} {S X m n g cap P : Nat} {st : ST} {ps : List Str}
set_option maxRecDepth 100000 in
set_option maxHeartbeats 1000000 in
theorem replay_any (hs : SW w D S X m n st) (h : PS w g 0 cap ps) (hP : ps.length = P) (hP2 : P ≤ 32) (hl : ∀ p ∈ ps, p.length = 64) (hg : ¬ D g) (hn : n ≤ 900) (hc : st.clo = false) (hx : st.nxt ≤ P) :
    Calls Try.prog 40 #[fptr S, .slice (some ⟨g, 0, none⟩) P cap] w fun e w' => e = .returned (.tuple #[]) ∧ SW w' D S X m (n + P) ⟨(rpl P ps st.V st.nxt).1, st.blk, st.gen, (rpl P ps st.V st.nxt).2.1, (rpl P ps st.V st.nxt).2.2⟩ ∧ Ch D w w' := by
  have hcap : P ≤ cap := by have := h.2.1; omega
  have hcapM := h.2.2.1
  have H := Lib.hid h
  have HP := Lib.hid hP
  have HL := Lib.hid hl
  have HG := Lib.hid hg
  have c40 := hs.c4
  have HS0 : Hid (SW w D S X m (n + 0) ⟨st.V, st.blk, st.gen, st.nxt, false⟩) := by rw [← hc]; exact hs
  have HE0 : Hid (rpl P ps st.V st.nxt = rpl (P - 0) ps st.V st.nxt) := rfl
  have HC0 : Hid (Ch D w w) := Ch.refl _ _
  have HCL := Lib.hid hc
  clear h hP hl hg hc hs
  go_enter Try.func40, Try.ntmps40
  go_wp2_with fail
  go_loopw [] (fun wr => ∃ (i nx : Nat) (V : Vars), i ≤ nx ∧ nx ≤ P ∧ wr.cell? ⟨S, 4, none⟩ = some (.int .i64 nx) ∧ Hid (rpl P ps st.V st.nxt = rpl (P - i) ps V nx) ∧ Hid (SW wr D S X m (n + i) ⟨V, st.blk, st.gen, nx, false⟩) ∧ Hid (Ch D w wr)) (fun wr => P - (intOf ((wr.cell? ⟨S, 4, none⟩).getD undef)).toNat)
  case atStart => exact ⟨0, st.nxt, st.V, by omega, hx, c40, HE0, HS0, HC0⟩
  case round =>
    clear c40 HS0 HE0 HC0
    obtain ⟨i, nx, V, hi, hnx, c4, HE, HS, HC⟩ := hrel
    by_cases hlt : nx < P
    · have y0 : (nx : Int) < P := by omega
      have HPr : Hid (PS wr g 0 cap ps) := H.out.ch HC.out HG.out
      obtain ⟨pg, hpg⟩ : ∃ s : ByteArray, s = ⟨(ps.getD nx []).toArray⟩ := ⟨_, rfl⟩
      have hpl : pg.data.toList = ps.getD nx [] := by rw [hpg]
      have hpz : pg.size = 64 := by
        have h0 : nx < ps.length := by rw [HP.out]; exact hlt
        have h1 : ps.getD nx [] = ps[nx] := by rw [List.getD_eq_getElem?_getD, List.getElem?_eq_getElem h0]; rfl
        rw [bsz, hpl, h1]
        exact HL.out _ (List.getElem_mem h0)
      have cp : wr.cell? ⟨g, nx, none⟩ = some (.string pg) := by
        have := HPr.out.2.2.2 nx (by rw [HP.out]; exact hlt)
        rw [Nat.zero_add] at this
        rw [this, hpg]
      have HZ := Lib.hid (zeroBits_any pg wr (by omega))
      rw [hpl] at HZ
      by_cases hz : zeros (ps.getD nx []) = 0
      · rw [hz] at HZ
        have HN : Hid (rpl P ps st.V st.nxt = (V, nx, false)) := by
          show _ = _
          rw [HE.out, rpl_stop (fun h => h.2 hz)]
        clear hpg hpl hz HE
        go_wp2_with fail
        refine HZ.out.mono ?_
        rintro e w' ⟨rfl, rfl⟩
        go_wp2_with fail
        go_end0
        rw [HN.out]
        exact ⟨rfl, HS.out.mono (by omega), HC.out⟩
      · have hzd : ((((zeros (ps.getD nx []) : Nat) : Int)) == 0) = false := by simpa using hz
        have HNZ : Hid (nx < ps.length ∧ zeros (ps.getD nx []) ≠ 0) := ⟨by rw [HP.out]; exact hlt, hz⟩
        obtain ⟨z, hzz⟩ : ∃ z, zeros (ps.getD nx []) = z := ⟨_, rfl⟩
        rw [hzz] at HZ hzd hz
        have hzI : ¬ (z : Int) = 0 := by omega
        have hdl : (ps.drop nx).length = P - nx := by rw [List.length_drop, HP.out]
        have HDC := Lib.hid (decode_any (HPr.out.drop (k := nx) (by rw [HP.out]; omega)) hdl (by omega) (by omega) (fun p hp => HL.out p (List.mem_of_mem_drop hp)))
        rw [Nat.zero_add] at HDC
        clear hpg hpl hzz hdl
        go_wp2_with fail
        refine HZ.out.mono ?_
        rintro e w' ⟨rfl, rfl⟩
        go_wp2_with fail
        refine HDC.out.mono ?_
        rintro e w3 ⟨rfl, b3⟩
        have HS3 := Lib.hid (HS.out.ch (Ch.of_below b3 (fun _ => False)) (fun _ _ h => h))
        have HC3 : Hid (Ch D w w3) := HC.out.trans (Ch.of_below b3 D)
        clear HS HC b3 HDC HPr
        rcases hdec : dec (ps.drop nx) with _ | ⟨k, nm, v, c⟩
        · have HN : Hid (rpl P ps st.V st.nxt = (V, nx, true)) := by
            show _ = _
            rw [HE.out, show P - i = (P - i - 1) + 1 by omega, rpl_none HNZ.out hdec]
          have hB4 : Below w3.heap.size w3 (w3.alloc (.cells #[.int .i64 0, .string ⟨#[]⟩, .string ⟨#[]⟩, .int .i64 0] 88)) := (Below.refl _ _).alloc (Nat.le_refl _) _
          have HS4 := Lib.hid (HS3.out.below hB4)
          have HC4 : Hid (Ch D w (w3.alloc (.cells #[.int .i64 0, .string ⟨#[]⟩, .string ⟨#[]⟩, .int .i64 0] 88))) := HC3.out.trans (Ch.of_below hB4 D)
          have c5 := HS4.out.c5
          have f5 := HS4.out.top.frozen 5
          have HS5 := Lib.hid (HS4.out.withClo true)
          have HC5 := Lib.hid (HC4.out.setCell (p := ⟨S, 5, none⟩) (fun _ => HS4.out.dS) (.bool true))
          clear hdec hB4 HS3 HC3
          simp only [decV]
          go_wp2_with fail
          refine bodyPost_ret (results_none rfl _ _ _) rfl ?_
          rw [HN.out]
          exact ⟨rfl, HS5.out.mono (by omega), HC5.out⟩
        · have hds := dec_some (fun p hp => HL.out p (List.mem_of_mem_drop hp)) hdec
          rw [List.length_drop, HP.out] at hds
          obtain ⟨hok, hc0, hc1, hc2⟩ := hds
          have hle := okLens_le hok
          have hk := okLens_k hok
          have HN : Hid (rpl P ps st.V st.nxt = rpl (P - (i + 1)) ps (appV V k nm v) (nx + c)) := by
            show _ = _
            rw [HE.out, show P - i = (P - (i + 1)) + 1 by omega, rpl_some HNZ.out hdec]
          obtain ⟨ne, hne⟩ : ∃ s : ByteArray, s = ⟨nm.toArray⟩ := ⟨_, rfl⟩
          obtain ⟨ve, hve⟩ : ∃ s : ByteArray, s = ⟨v.toArray⟩ := ⟨_, rfl⟩
          have hnl : ne.data.toList = nm := by rw [hne]
          have hvl : ve.data.toList = v := by rw [hve]
          have hns : ne.size ≤ 24 := by rw [bsz, hnl]; exact hle.1
          have e1 : str nm = .string ne := by rw [hne]
          have e2 : str v = .string ve := by rw [hve]
          have hB4 : Below w3.heap.size w3 (w3.alloc (.cells #[.int .i64 k, .string ne, .string ve, .int .i64 c] 88)) := (Below.refl _ _).alloc (Nat.le_refl _) _
          have HS4 := Lib.hid (HS3.out.below hB4)
          have HC4 : Hid (Ch D w (w3.alloc (.cells #[.int .i64 k, .string ne, .string ve, .int .i64 c] 88))) := HC3.out.trans (Ch.of_below hB4 D)
          have HR4 : Hid (Rg (w3.alloc (.cells #[.int .i64 k, .string ne, .string ve, .int .i64 c] 88)) w3.heap.size 88 4 (fun j => if j = 0 then .int .i64 k else if j = 1 then .string ne else if j = 2 then .string ve else .int .i64 c)) :=
            ⟨_, heap_alloc_new w3 _, fun j hj => by rcases (by omega : j = 0 ∨ j = 1 ∨ j = 2 ∨ j = 3) with e | e | e | e <;> subst e <;> rfl⟩
          have HNV : Hid (nm = ne.data.toList ∧ v = ve.data.toList) := ⟨hnl.symm, hvl.symm⟩
          have HLE := Lib.hid hle
          have hlt3 : ∀ k, D k → k < w3.heap.size := fun k hk => HS3.out.fin k hk
          have HDR : Hid (¬ D w3.heap.size) := fun h => Nat.lt_irrefl _ (hlt3 _ h)
          clear hdec hB4 HS3 HC3 hne hve hnl hvl hle hlt3 hok hc0
          simp only [decV]
          rw [e1, e2]
          clear e1 e2
          have q0 := HR4.out.cell (i := 0) (by omega)
          rw [if_pos rfl] at q0
          obtain ⟨R, hR⟩ : ∃ R, w3.heap.size = R := ⟨_, rfl⟩
          have hmd : SM (w3.alloc (.cells #[.int .i64 k, .string ne, .string ve, .int .i64 c] 88)).drew m (n + i) V := HS4.out.map.ch ((Ch.refl (fun _ => False) _).drew) id
          have S6 : Hid ((w3.alloc (.cells #[.int .i64 k, .string ne, .string ve, .int .i64 c] 88)).drew.cell? ⟨S, 1, none⟩ = some (.map (some m)) ∧ (w3.alloc (.cells #[.int .i64 k, .string ne, .string ve, .int .i64 c] 88)).drew.cell? ⟨w3.heap.size, 1, none⟩ = some (.string ne) ∧ (w3.alloc (.cells #[.int .i64 k, .string ne, .string ve, .int .i64 c] 88)).drew.cell? ⟨w3.heap.size, 2, none⟩ = some (.string ve)) := ⟨HS4.out.c1, HR4.out.cell (i := 1) (by omega), HR4.out.cell (i := 2) (by omega)⟩
          have hRm : w3.heap.size ≠ m := fun e => HDR.out (e ▸ HS4.out.dm)
          have hSd := HS4.out.ch ((Ch.refl (fun _ => False) _).drew) (fun _ _ h => h)
          rcases hk with hk1 | hk1 | hk1
          · have hd1 : ((k : Int) == 1) = true := by rw [hk1]; rfl
            have hd2 : ((k : Int) == 2) = false := by rw [hk1]; rfl
            obtain ⟨w5, hru, hm5, c5⟩ := hmd.store (by omega) (s := ne) (by unfold maxLen; omega) ve
            have HS5 : Hid (SW w5 D S X m (n + (i + 1)) ⟨appV V k nm v, st.blk, st.gen, nx, false⟩) := by
              have := hSd.withMap c5 (hm5.mono (n' := n + (i + 1)) (by omega)) (hSd.srt.set _ _) (appV_hv (k := 1) hSd.hv (n := ne.data.toList) (v := ve.data.toList) (by rw [← HNV.out.1]; exact HLE.out.1) (by rw [← HNV.out.2]; exact HLE.out.2))
              rw [hk1, HNV.out.1, HNV.out.2]
              exact this
            have HC5 : Hid (Ch D w w5) := (HC4.out.drew).andThen c5 (fun i e _ => by rw [e]; exact HS4.out.dm)
            have HR5 := Lib.hid ((HR4.out.ch ((Ch.refl (fun _ => False) _).drew) id).ch c5 hRm)
            clear hmd hm5 c5 hSd HS4 HC4 HR4 hk1
            go_wp2_with fail
            generalize w3.alloc (.cells #[.int .i64 k, .string ne, .string ve, .int .i64 c] 88) = w4 at *
            rw [hR] at HR5 S6
            refine wp_region_pl (fun Y => Y.cell? ⟨S, 1, none⟩ = some (.map (some m)) ∧ Y.cell? ⟨R, 1, none⟩ = some (.string ne) ∧ Y.cell? ⟨R, 2, none⟩ = some (.string ve)) ((0, 0) :: (1, 0) :: (2, 0) :: (3, 0) :: (4, 0) :: (5, 0) :: (6, 0) :: (7, 0) :: (8, 2) :: []) (by kernel_rfl) (by kernel_rfl) ?_
            iterate 8 (apply wpP_go; (focus rfl); (focus rfl); (focus exact S6.out); (focus (rintro Z ⟨s0, s1, s2⟩; go_simp; exact rfl)); intro K hK; go_simp; refine hK _ ?_; clear hK K)
            apply wpP_two
            focus rfl
            intro K hK
            go_simp
            refine hK _ _ ?_
            clear hK K hru
            refine wpP_done ?_
            clear S6
            have hwi : IntKind.i64.wrap ((nx : Int) + (c : Int)) = (nx : Int) + (c : Int) := IntWalk.i64_in _ ⟨by omega, by omega⟩
            have S9 : Hid (w5.drew.cell? ⟨S, 4, none⟩ = some (.int .i64 nx) ∧ w5.drew.cell? ⟨R, 3, none⟩ = some (.int .i64 c)) := ⟨HS5.out.c4, HR5.out.cell (i := 3) (by omega)⟩
            have f4 : w5.drew.frozen? ⟨S, 4, none⟩ = false := HS5.out.top.frozen 4
            have HS6 : Hid (SW (w5.drew.setCell ⟨S, 4, none⟩ (.int .i64 ((nx : Int) + (c : Int)))) D S X m (n + (i + 1)) ⟨appV V k nm v, st.blk, st.gen, nx + c, false⟩) := by
              have := (HS5.out.ch ((Ch.refl (fun _ => False) w5).drew) (fun _ _ h => h)).withNxt (nx := nx + c) (by omega)
              rw [show ((nx + c : Nat) : Int) = (nx : Int) + (c : Int) by omega] at this
              exact this
            have HC6 : Hid (Ch D w (w5.drew.setCell ⟨S, 4, none⟩ (.int .i64 ((nx : Int) + (c : Int))))) := (HC5.out.drew).setCell (p := ⟨S, 4, none⟩) (fun _ => HS5.out.dS) _
            have z4 : (w5.setCell ⟨S, 4, none⟩ (.int .i64 ((nx : Int) + (c : Int)))).drew.cell? ⟨S, 4, none⟩ = some (.int .i64 ((nx : Int) + (c : Int))) := by
              have := HS6.out.c4
              rw [show ((nx + c : Nat) : Int) = (nx : Int) + (c : Int) by omega] at this
              exact this
            clear HS5 HC5 HR5
            go_wp2_with fail
            refine wp_region_pl (fun Y => Y.cell? ⟨S, 4, none⟩ = some (.int .i64 nx) ∧ Y.cell? ⟨R, 3, none⟩ = some (.int .i64 c)) ((0, 0) :: (1, 0) :: (2, 0) :: (3, 0) :: (4, 0) :: (5, 0) :: (6, 0) :: (7, 1) :: (8, 1) :: (9, 2) :: []) (by kernel_rfl) (by kernel_rfl) ?_
            iterate 7 (apply wpP_go; (focus rfl); (focus rfl); (focus exact S9.out); (focus (rintro Z ⟨s0, s1⟩; go_simp; exact rfl)); intro K hK; go_simp; refine hK _ ?_; clear hK K)
            iterate 2 (apply wpP_one; (focus rfl); intro K hK; go_simp; refine hK _ _ S9.out ?_; clear hK K)
            have q4 := S9.out.1
            apply wpP_two
            focus rfl
            intro K hK
            go_simp
            refine hK _ _ ?_
            clear hK K q4
            refine wpP_done ?_
            clear S9
            go_wp2_with fail
            go_roundw
            case rel => exact ⟨i + 1, nx + c, appV V k nm v, by omega, by omega, by rw [z4]; simp, HN, HS6, HC6⟩
            case measure => rw [z4]; simp [intOf, c4]; omega
          · have hd1 : ((k : Int) == 1) = false := by rw [hk1]; rfl
            have hd2 : ((k : Int) == 2) = true := by rw [hk1]; rfl
            obtain ⟨w5, hru, hm5, c5⟩ := hmd.drop (s := ne) (by unfold maxLen; omega) 0
            have HS5 : Hid (SW w5 D S X m (n + (i + 1)) ⟨appV V k nm v, st.blk, st.gen, nx, false⟩) := by
              have := hSd.withMap c5 (hm5.mono (n' := n + (i + 1)) (by omega)) (hSd.srt.del _) (appV_hv (k := 2) hSd.hv (n := ne.data.toList) (v := ve.data.toList) (by rw [← HNV.out.1]; exact HLE.out.1) (by rw [← HNV.out.2]; exact HLE.out.2))
              rw [hk1, HNV.out.1]
              exact this
            have HC5 : Hid (Ch D w w5) := (HC4.out.drew).andThen c5 (fun i e _ => by rw [e]; exact HS4.out.dm)
            have HR5 := Lib.hid ((HR4.out.ch ((Ch.refl (fun _ => False) _).drew) id).ch c5 hRm)
            clear hmd hm5 c5 hSd HS4 HC4 HR4 hk1
            go_wp2_with fail
            generalize w3.alloc (.cells #[.int .i64 k, .string ne, .string ve, .int .i64 c] 88) = w4 at *
            rw [hR] at HR5 S6
            refine wp_region_pl (fun Y => Y.cell? ⟨S, 1, none⟩ = some (.map (some m)) ∧ Y.cell? ⟨R, 1, none⟩ = some (.string ne) ∧ Y.cell? ⟨R, 2, none⟩ = some (.string ve)) ((0, 0) :: (1, 0) :: (2, 0) :: (3, 0) :: (4, 0) :: (5, 0) :: (6, 1) :: []) (by kernel_rfl) (by kernel_rfl) ?_
            iterate 6 (apply wpP_go; (focus rfl); (focus rfl); (focus exact S6.out); (focus (rintro Z ⟨s0, s1, s2⟩; go_simp; exact rfl)); intro K hK; go_simp; refine hK _ ?_; clear hK K)
            apply wpP_one
            focus rfl
            intro K hK
            go_simp
            refine hK _ _ ⟨HS5.out.c1, HR5.out.cell (i := 1) (by omega), HR5.out.cell (i := 2) (by omega)⟩ ?_
            clear hK K hru
            refine wpP_done ?_
            clear S6
            have hwi : IntKind.i64.wrap ((nx : Int) + (c : Int)) = (nx : Int) + (c : Int) := IntWalk.i64_in _ ⟨by omega, by omega⟩
            have S9 : Hid (w5.drew.cell? ⟨S, 4, none⟩ = some (.int .i64 nx) ∧ w5.drew.cell? ⟨R, 3, none⟩ = some (.int .i64 c)) := ⟨HS5.out.c4, HR5.out.cell (i := 3) (by omega)⟩
            have f4 : w5.drew.frozen? ⟨S, 4, none⟩ = false := HS5.out.top.frozen 4
            have HS6 : Hid (SW (w5.drew.setCell ⟨S, 4, none⟩ (.int .i64 ((nx : Int) + (c : Int)))) D S X m (n + (i + 1)) ⟨appV V k nm v, st.blk, st.gen, nx + c, false⟩) := by
              have := (HS5.out.ch ((Ch.refl (fun _ => False) w5).drew) (fun _ _ h => h)).withNxt (nx := nx + c) (by omega)
              rw [show ((nx + c : Nat) : Int) = (nx : Int) + (c : Int) by omega] at this
              exact this
            have HC6 : Hid (Ch D w (w5.drew.setCell ⟨S, 4, none⟩ (.int .i64 ((nx : Int) + (c : Int))))) := (HC5.out.drew).setCell (p := ⟨S, 4, none⟩) (fun _ => HS5.out.dS) _
            have z4 : (w5.setCell ⟨S, 4, none⟩ (.int .i64 ((nx : Int) + (c : Int)))).drew.cell? ⟨S, 4, none⟩ = some (.int .i64 ((nx : Int) + (c : Int))) := by
              have := HS6.out.c4
              rw [show ((nx + c : Nat) : Int) = (nx : Int) + (c : Int) by omega] at this
              exact this
            clear HS5 HC5 HR5
            go_wp2_with fail
            refine wp_region_pl (fun Y => Y.cell? ⟨S, 4, none⟩ = some (.int .i64 nx) ∧ Y.cell? ⟨R, 3, none⟩ = some (.int .i64 c)) ((0, 0) :: (1, 0) :: (2, 0) :: (3, 0) :: (4, 0) :: (5, 0) :: (6, 0) :: (7, 1) :: (8, 1) :: (9, 2) :: []) (by kernel_rfl) (by kernel_rfl) ?_
            iterate 7 (apply wpP_go; (focus rfl); (focus rfl); (focus exact S9.out); (focus (rintro Z ⟨s0, s1⟩; go_simp; exact rfl)); intro K hK; go_simp; refine hK _ ?_; clear hK K)
            iterate 2 (apply wpP_one; (focus rfl); intro K hK; go_simp; refine hK _ _ S9.out ?_; clear hK K)
            have q4 := S9.out.1
            apply wpP_two
            focus rfl
            intro K hK
            go_simp
            refine hK _ _ ?_
            clear hK K q4
            refine wpP_done ?_
            clear S9
            go_wp2_with fail
            go_roundw
            case rel => exact ⟨i + 1, nx + c, appV V k nm v, by omega, by omega, by rw [z4]; simp, HN, HS6, HC6⟩
            case measure => rw [z4]; simp [intOf, c4]; omega
          · have hd1 : ((k : Int) == 1) = false := by rw [hk1]; rfl
            have hd2 : ((k : Int) == 2) = false := by rw [hk1]; rfl
            have HS5 : Hid (SW (w3.alloc (.cells #[.int .i64 k, .string ne, .string ve, .int .i64 c] 88)) D S X m (n + (i + 1)) ⟨appV V k nm v, st.blk, st.gen, nx, false⟩) := by rw [show appV V k nm v = V by rw [hk1]; rfl]; exact HS4.out.mono (by omega)
            have HC5 := HC4
            have HR5 := HR4
            clear hk1
            clear hmd hSd HS4 HC4 HR4 S6
            go_upto_region 9 with fail
            generalize w3.alloc (.cells #[.int .i64 k, .string ne, .string ve, .int .i64 c] 88) = w4 at *
            rw [hR] at HR5
            have hwi : IntKind.i64.wrap ((nx : Int) + (c : Int)) = (nx : Int) + (c : Int) := IntWalk.i64_in _ ⟨by omega, by omega⟩
            have S9 : Hid (w4.drew.cell? ⟨S, 4, none⟩ = some (.int .i64 nx) ∧ w4.drew.cell? ⟨R, 3, none⟩ = some (.int .i64 c)) := ⟨HS5.out.c4, HR5.out.cell (i := 3) (by omega)⟩
            have f4 : w4.drew.frozen? ⟨S, 4, none⟩ = false := HS5.out.top.frozen 4
            have HS6 : Hid (SW (w4.drew.setCell ⟨S, 4, none⟩ (.int .i64 ((nx : Int) + (c : Int)))) D S X m (n + (i + 1)) ⟨appV V k nm v, st.blk, st.gen, nx + c, false⟩) := by
              have := (HS5.out.ch ((Ch.refl (fun _ => False) w4).drew) (fun _ _ h => h)).withNxt (nx := nx + c) (by omega)
              rw [show ((nx + c : Nat) : Int) = (nx : Int) + (c : Int) by omega] at this
              exact this
            have HC6 : Hid (Ch D w (w4.drew.setCell ⟨S, 4, none⟩ (.int .i64 ((nx : Int) + (c : Int))))) := (HC5.out.drew).setCell (p := ⟨S, 4, none⟩) (fun _ => HS5.out.dS) _
            have z4 : (w4.setCell ⟨S, 4, none⟩ (.int .i64 ((nx : Int) + (c : Int)))).drew.cell? ⟨S, 4, none⟩ = some (.int .i64 ((nx : Int) + (c : Int))) := by
              have := HS6.out.c4
              rw [show ((nx + c : Nat) : Int) = (nx : Int) + (c : Int) by omega] at this
              exact this
            clear HS5 HC5 HR5
            go_wp2_with fail
            refine wp_region_pl (fun Y => Y.cell? ⟨S, 4, none⟩ = some (.int .i64 nx) ∧ Y.cell? ⟨R, 3, none⟩ = some (.int .i64 c)) ((0, 0) :: (1, 0) :: (2, 0) :: (3, 0) :: (4, 0) :: (5, 0) :: (6, 0) :: (7, 1) :: (8, 1) :: (9, 2) :: []) (by kernel_rfl) (by kernel_rfl) ?_
            iterate 7 (apply wpP_go; (focus rfl); (focus rfl); (focus exact S9.out); (focus (rintro Z ⟨s0, s1⟩; go_simp; exact rfl)); intro K hK; go_simp; refine hK _ ?_; clear hK K)
            iterate 2 (apply wpP_one; (focus rfl); intro K hK; go_simp; refine hK _ _ S9.out ?_; clear hK K)
            have q4 := S9.out.1
            apply wpP_two
            focus rfl
            intro K hK
            go_simp
            refine hK _ _ ?_
            clear hK K q4
            refine wpP_done ?_
            clear S9
            go_wp2_with fail
            go_roundw
            case rel => exact ⟨i + 1, nx + c, appV V k nm v, by omega, by omega, by rw [z4]; simp, HN, HS6, HC6⟩
            case measure => rw [z4]; simp [intOf, c4]; omega
    · have y0 : ¬ (nx : Int) < P := by omega
      have HN : Hid (rpl P ps st.V st.nxt = (V, nx, false)) := by
        show _ = _
        rw [HE.out, rpl_stop (fun h => by have := h.1; rw [HP.out] at this; omega)]
      go_wp2_with fail
      go_end0
      rw [HN.out]
      exact ⟨rfl, HS.out.mono (by omega), HC.out⟩
end
end Go.Proofs.Ytfglopkglnpokaa
