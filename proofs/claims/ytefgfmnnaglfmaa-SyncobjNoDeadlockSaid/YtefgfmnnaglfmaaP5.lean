/- NoDeadlock: the state of the locks is one without a cycle. No condition. -/
import Derived.Test.YtefgfmnnaglfmaaP4
namespace Go.Proofs.Ytefgfmnnaglfmaa
open Go.RowKit
def ob0 : Ob := ⟨true, 0, 0, 0, []⟩
def LK.X (s : LK) (id : Int) : Ob := (s.o id).getD ob0
def ND (s : LK) : Prop := NDf s.X (fun i => (stT s i).hd) (fun i => (stT s i).st = 2) ∧ ∀ id, rg id → (s.o id).isSome = true
theorem X_some {s : LK} {id : Int} {x : Ob} (h : s.o id = some x) : s.X id = x := by unfold LK.X; rw [h]; rfl
theorem X_set (s : LK) (id : Int) (x : Ob) (j : Int) : (s.setO id (some x)).X j = if j = id then x else s.X j := by
  unfold LK.X LK.setO
  by_cases e : j = id <;> simp [e]
theorem X_upT (s : LK) (i : Int) (f : Th → Th) (j : Int) : (s.upT i f).X j = s.X j := rfl
theorem X_stS (s : LK) (i : Int) (f : Option Th) (j : Int) : (s.setT i f).X j = s.X j := rfl
theorem some_set {s : LK} {id : Int} {x : Ob} (h : ∀ j, rg j → (s.o j).isSome = true) : ∀ j, rg j → ((s.setO id (some x)).o j).isSome = true := fun j hj => by
  unfold LK.setO
  by_cases e : j = id
  · simp [e]
  · simp [e]; exact h j hj
section
variable {s : LK} {i id : Int}
theorem ND.at (h : ND s) (hr : rg id) : s.o id = some (s.X id) := by
  obtain ⟨x, hx⟩ := Option.isSome_iff_exists.1 (h.2 id hr)
  rw [hx, X_some hx]
theorem hd_upT (s : LK) (i : Int) (f : Th → Th) (hf : ∀ t, (f t).hd = t.hd) (j : Int) : (stT (s.upT i f) j).hd = (stT s j).hd := by
  rw [stT_upT]
  by_cases e : j = i
  · subst e; simp only [if_true]; rw [hf]
  · rw [if_neg e]
theorem st_upT (s : LK) (i : Int) (f : Th → Th) (hf : ∀ t, (f t).st = 1) (hw : ¬ (stT s i).st = 2) (j : Int) : (stT (s.upT i f) j).st = 2 ↔ (stT s j).st = 2 := by
  rw [stT_upT]
  by_cases e : j = i
  · subst e; simp only [if_true]; rw [hf]; exact ⟨(fun e => by simp at e), fun e => absurd e hw⟩
  · rw [if_neg e]
theorem ND.lvOf (h : ND s) (hr : rg id) : Go.Proofs.Ytefgfmnnaglfmaa.lvOf s id = 2 * id + 1 := by
  unfold Go.Proofs.Ytefgfmnnaglfmaa.lvOf
  rw [h.at hr]
  exact (h.1.lvl id hr).2.1
theorem ND.own (h : ND s) (hr : rg id) (hi : 0 ≤ i ∧ i < 5) (hc : (s.X id).ct = 0) (hw : ¬ (stT s i).st = 2) : ND (ownS s i id) := by
  have ho := h.at hr
  have e0 : ownS s i id = (s.setO id (some { s.X id with ow := i, ct := 1 })).upT i fun t => { t with st := 1, hd := t.hd ++ [id] } := by
    unfold ownS LK.upO; rw [ho]; rfl
  rw [e0]
  refine ⟨NDf.own (id := id) (i := i) h.1 hr hi hc hw ?_ ?_ ?_ ?_ ?_, some_set h.2⟩
  · rw [X_upT, X_set, if_pos rfl]
  · intro j hj; rw [X_upT, X_set, if_neg hj]
  · show (stT (LK.upT _ i _) i).hd = _
    rw [stT_upT, if_pos rfl]; rfl
  · intro j hj
    show (stT (LK.upT _ i _) j).hd = _
    rw [stT_upT, if_neg hj]; rfl
  · exact fun j => st_upT (s.setO id _) i _ (fun _ => rfl) hw j
theorem ND.acq (h : ND s) (hr : rg id) (hi : 0 ≤ i ∧ i < 5) : ND (acqS s i id 0 65535).2.2 := by
  have ho := h.at hr
  have hl := h.1.lvl id hr
  unfold acqS
  rw [ho]
  show ND (if (s.X id).mx = false then ((0, 6, s) : Int × Int × LK) else _).2.2
  rw [if_neg (by rw [hl.1]; simp)]
  by_cases h1 : stat s i = 2
  · rw [if_pos h1]; exact h
  rw [if_neg h1]
  have hw : ¬ (stT s i).st = 2 := by rw [← stat_eq]; exact h1
  by_cases h2 : 0 < (s.X id).ct ∧ (s.X id).ow = i
  · rw [if_pos h2]
    by_cases h3 : 255 ≤ (s.X id).ct
    · rw [if_pos h3]; exact h
    · rw [if_neg h3]
      refine ⟨NDf.congr (NDf.cnt (id := id) (c := (s.X id).ct + 1) h.1 hr h2.1 (by omega) (by omega) ?_ ?_) ?_ ?_, some_set h.2⟩
      · show (LK.setO s id _).X id = _
        rw [X_set, if_pos rfl]
      · intro j hj
        show (LK.setO s id _).X j = _
        rw [X_set, if_neg hj]
      · exact fun j => hd_upT (s.setO id (some { s.X id with ct := (s.X id).ct + 1 })) i (fun t => { t with st := 1 }) (fun _ => rfl) j
      · exact fun j => st_upT (s.setO id (some { s.X id with ct := (s.X id).ct + 1 })) i (fun t => { t with st := 1 }) (fun _ => rfl) hw j
  rw [if_neg h2]
  by_cases h4 : above s i (s.X id).lv = true
  · rw [if_pos h4]; exact h
  rw [if_neg h4]
  by_cases h5 : (s.X id).ct = 0
  · rw [if_pos h5]; exact h.own hr hi h5 hw
  rw [if_neg h5]
  have hct : 0 < (s.X id).ct := by omega
  have e0 : (waitS s i id 0 65535).2 = (s.upT i fun t => { t with st := 2, ob := id, en := decide ((65535 : Int) ≤ 65535), dl := dlv 0 65535 }).setO id (some { s.X id with q := (s.X id).q ++ [i] }) := by
    unfold waitS
    rw [if_neg (by omega)]
    show LK.upO (s.upT i _) id _ = _
    unfold LK.upO
    show (s.upT i _).setO id (Option.map _ (s.o id)) = _
    rw [ho]; rfl
  show ND (waitS s i id 0 65535).2
  rw [e0]
  refine ⟨NDf.wait (id := id) (i := i) h.1 hr hi hct (fun e => h2 ⟨hct, e⟩) hw ?_ ?_ ?_ ?_ ?_, some_set h.2⟩
  · intro k hk
    have hkr := ((h.1.hd i k).1 hk).1
    apply Classical.byContradiction
    intro hgt
    refine h4 (List.any_eq_true.2 ⟨k, hk, ?_⟩)
    rw [h.lvOf hkr, hl.2.1]
    simp; omega
  · rw [X_set, if_pos rfl]
  · intro j hj; rw [X_set, if_neg hj]; rfl
  · exact fun j => hd_upT s i (fun t => { t with st := 2, ob := id, en := decide ((65535 : Int) ≤ 65535), dl := dlv 0 65535 }) (fun _ => rfl) j
  · intro j
    rw [stT_setO, stT_upT]
    by_cases e : j = i
    · subst e; simp
    · rw [if_neg e]; simp [e]
theorem ND.rel (h : ND s) (hr : rg id) : ND (relS s i id).2 := by
  have ho := h.at hr
  have hl := h.1.lvl id hr
  unfold relS
  rw [ho]
  show ND (if (s.X id).mx = false then ((6, s) : Int × LK) else _).2
  rw [if_neg (by rw [hl.1]; simp)]
  by_cases h1 : (s.X id).ct = 0 ∨ (s.X id).ow ≠ i ∨ above s i (s.X id).lv = true
  · rw [if_pos h1]; exact h
  rw [if_neg h1]
  have hc : (s.X id).ct ≠ 0 := fun e => h1 (.inl e)
  have hoi : (s.X id).ow = i := Classical.byContradiction fun e => h1 (.inr (.inl e))
  by_cases h2 : (s.X id).ct = 1
  · rw [if_pos h2]
    show ND (freeS (s.setO id (some { s.X id with ct := (s.X id).ct - 1 })) id)
    have e1 : freeS (s.setO id (some { s.X id with ct := (s.X id).ct - 1 })) id = giveS (takeS (s.setO id (some { s.X id with ct := (s.X id).ct - 1 })) id { s.X id with ct := (s.X id).ct - 1 }) id { s.X id with ow := 0, ct := 0 } := by
      unfold freeS; rw [LK.at_o]
    rw [e1]
    obtain ⟨sT, hsT⟩ : ∃ sT, takeS (s.setO id (some { s.X id with ct := (s.X id).ct - 1 })) id { s.X id with ct := (s.X id).ct - 1 } = sT := ⟨_, rfl⟩
    rw [hsT]
    have tX : ∀ j, sT.X j = if j = id then { s.X id with ow := 0, ct := 0 } else s.X j := fun j => by
      rw [← hsT]; unfold takeS
      rw [X_set, X_upT, X_set]
      by_cases e : j = id <;> simp [e]
    have tT : ∀ j, stT sT j = if j = i then { stT s i with hd := (stT s i).hd.erase id } else stT s j := fun j => by
      rw [← hsT]; unfold takeS
      rw [stT_setO, stT_upT]
      show (if j = (s.X id).ow then _ else _) = _
      rw [hoi]; rfl
    have tS : ∀ j, rg j → (sT.o j).isSome = true := by
      rw [← hsT]; unfold takeS
      exact some_set (some_set h.2)
    have tO : sT.o id = some { s.X id with ow := 0, ct := 0 } := by rw [← hsT]; exact LK.at_o _ _ _
    clear hsT e1
    rcases hq : (s.X id).q with _ | ⟨a, r⟩
    · have e2 : giveS sT id { s.X id with ow := 0, ct := 0 } = sT := by
        unfold giveS; show (match (s.X id).q with | [] => sT | a :: r => _) = sT; rw [hq]
      rw [e2]
      refine ⟨NDf.rel0 (id := id) (i := i) h.1 hr hoi hq ?_ ?_ ?_ ?_ ?_, tS⟩
      · rw [tX, if_pos rfl]
      · intro j hj; rw [tX, if_neg hj]
      · show (stT sT i).hd = _; rw [tT, if_pos rfl]
      · intro j hj; show (stT sT j).hd = _; rw [tT, if_neg hj]
      · intro j
        show (stT sT j).st = 2 ↔ _
        rw [tT]
        by_cases e : j = i
        · subst e; simp
        · rw [if_neg e]
    · have e2 : giveS sT id { s.X id with ow := 0, ct := 0 } = ownS (sT.setO id (some { s.X id with ow := 0, ct := 0, q := r })) a id := by
        unfold giveS; show (match (s.X id).q with | [] => sT | a :: r => _) = _; rw [hq]
      have e3 : ownS (sT.setO id (some { s.X id with ow := 0, ct := 0, q := r })) a id = (sT.setO id (some { s.X id with ow := a, ct := 1, q := r })).upT a fun t => { t with st := 1, hd := t.hd ++ [id] } := by
        unfold ownS LK.upO
        rw [LK.at_o, setO_setO]; rfl
      have hid : id ∈ (stT s i).hd := (h.1.hd i id).2 ⟨hr, by omega, hoi⟩
      have hai : a ≠ i := fun ea => by
        have := h.1.lv a id hr (by rw [hq]; simp) id (by rw [ea]; exact hid)
        omega
      rw [e2, e3]
      refine ⟨NDf.relp (id := id) (i := i) (a0 := a) (r := r) h.1 hr (by omega) hoi hq ?_ ?_ ?_ ?_ ?_ ?_, some_set tS⟩
      · rw [X_upT, X_set, if_pos rfl]
      · intro j hj; rw [X_upT, X_set, if_neg hj, tX, if_neg hj]
      · show (stT (LK.upT _ a _) i).hd = _
        rw [stT_upT, if_neg (Ne.symm hai), stT_setO, tT, if_pos rfl]
      · show (stT (LK.upT _ a _) a).hd = _
        rw [stT_upT, if_pos rfl, stT_setO, tT, if_neg hai]
      · intro j hj hja
        show (stT (LK.upT _ a _) j).hd = _
        rw [stT_upT, if_neg hja, stT_setO, tT, if_neg hj]
      · intro j
        show (stT (LK.upT _ a _) j).st = 2 ↔ _
        rw [stT_upT]
        by_cases e : j = a
        · subst e; simp
        · rw [if_neg e, stT_setO, tT]
          by_cases e' : j = i
          · subst e'; simp [e]
          · rw [if_neg e']; simp [e]
  · rw [if_neg h2]
    refine ⟨NDf.congr (NDf.cnt (id := id) (c := (s.X id).ct - 1) h.1 hr (by omega) (by omega) (by omega) ?_ ?_) (fun _ => rfl) (fun _ => Iff.rfl), some_set h.2⟩
    · show (LK.setO s id _).X id = _
      rw [X_set, if_pos rfl]
    · intro j hj
      show (LK.setO s id _).X j = _
      rw [X_set, if_neg hj]
end
/-- The first j mutexes are there. -/
def ini (j : Nat) (s : LK) : Prop := (∀ id, s.o id = if 0 ≤ id ∧ id < j then some ⟨true, 2 * id + 1, 0, 0, []⟩ else none) ∧ ∀ i, s.t i = none
theorem ini0 : ini 0 s0 := ⟨fun id => by rw [if_neg (by omega)]; rfl, fun _ => rfl⟩
theorem ini_succ {j : Nat} {s : LK} (h : ini j s) (hj : j < 6) : (addM s j (2 * j + 1)).1 = 0 ∧ ini (j + 1) (addM s j (2 * j + 1)).2 := by
  have hn : s.o j = none := by rw [h.1, if_neg (by omega)]
  have e : addM s j (2 * j + 1) = (0, s.setO j (some ⟨true, 2 * j + 1, 0, 0, []⟩)) := by
    unfold addM
    rw [if_neg (by omega), hn, if_neg (by simp)]
  rw [e]
  refine ⟨rfl, fun id => ?_, h.2⟩
  show (if id = (j : Int) then _ else s.o id) = _
  by_cases e : id = (j : Int)
  · subst e; rw [if_pos rfl, if_pos (by omega)]
  · rw [if_neg e, h.1]
    by_cases e2 : 0 ≤ id ∧ id < j
    · rw [if_pos e2, if_pos (by omega)]
    · rw [if_neg e2, if_neg (by omega)]
theorem ini_nd {s : LK} (h : ini 6 s) : ND s := by
  have hT : ∀ i, stT s i = th0 := fun i => by unfold stT; rw [h.2 i]; rfl
  have hX : ∀ id, rg id → s.X id = ⟨true, 2 * id + 1, 0, 0, []⟩ := fun id hr => by unfold LK.X; rw [h.1, if_pos (show 0 ≤ id ∧ id < ((6 : Nat) : Int) from hr)]; rfl
  refine ⟨⟨fun id hr => by rw [hX id hr]; exact ⟨rfl, rfl, by show (0 : Int) ≤ 0; omega, by show (0 : Int) ≤ 255; omega⟩, fun id hr _ => by rw [hX id hr], fun id hr => by rw [hX id hr]; exact ⟨List.nodup_nil, (fun a h => by cases h)⟩, fun id hr hc => by rw [hX id hr] at hc; exact absurd hc (by show ¬ (0 : Int) < 0; omega), fun i id => ?_, fun i => by show (stT s i).hd.Nodup; rw [hT]; exact List.nodup_nil, fun i => ?_, (fun i id id' hr _ hm => by rw [hX id hr] at hm; cases hm), (fun i id hr hm => by rw [hX id hr] at hm; cases hm)⟩, fun id hr => by rw [h.1, if_pos (show 0 ≤ id ∧ id < ((6 : Nat) : Int) from hr)]; rfl⟩
  · show id ∈ (stT s i).hd ↔ _
    rw [hT]
    refine ⟨(fun hm => by cases hm), ?_⟩
    rintro ⟨hr, hc, _⟩
    rw [hX id hr] at hc
    exact absurd hc (by show ¬ (0 : Int) < 0; omega)
  · show (stT s i).st = 2 ↔ _
    rw [hT]
    refine ⟨(fun hm => by cases hm), ?_⟩
    rintro ⟨id, hr, hm⟩
    rw [hX id hr] at hm; cases hm
end Go.Proofs.Ytefgfmnnaglfmaa
