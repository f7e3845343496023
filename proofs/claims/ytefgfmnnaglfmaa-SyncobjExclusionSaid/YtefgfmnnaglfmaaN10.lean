/- The program and the reference side by side: each call on both. Condition: threads 0 to 3, objects 0 to 5. -/
import Derived.Test.YtefgfmnnaglfmaaN9
namespace Go.Proofs.Ytefgfmnnaglfmaa
open Go.RowKit
/-- The program's locks at L in state s, the reference's at X in state r; the blocks Kp belong to neither. -/
def TW (w : World) (Kp : Nat → Prop) (L X n m : Nat) (s r : LK) : Prop := ∃ F D y, OK w F L n s y ∧ RK w D X m r ∧ (∀ k, D k → F k) ∧ ∀ k, Kp k → F k ∧ ¬ D k
abbrev CT (Kp : Nat → Prop) (w w' : World) : Prop := Ch (fun k => ¬ Kp k) w w'
section
variable {w w' : World} {Kp : Nat → Prop} {L X n m n' m' : Nat} {s r s' r' : LK}
theorem TW.mono (h : TW w Kp L X n m s r) (h1 : n ≤ n') (h2 : m ≤ m') : TW w Kp L X n' m' s r := by
  obtain ⟨F, D, y, a, b, c⟩ := h
  exact ⟨F, D, y, a.mono h1, b.mono h2, c⟩
theorem TW.kp (h : TW w Kp L X n m s r) {k : Nat} (hk : Kp k) : k < w.heap.size := by
  obtain ⟨F, D, y, a, _, _, d⟩ := h
  exact a.fin k (d k hk).1
theorem TW.real {v : Value} {f : Nat} {args : Array Value} (h : TW w Kp L X n m s r) (hc : ∀ F y, OK w F L n s y → Calls Try.prog f args w fun e w' => e = .returned v ∧ PO w F L n' s' w') :
    Calls Try.prog f args w fun e w' => e = .returned v ∧ TW w' Kp L X n' m s' r ∧ CT Kp w w' := by
  obtain ⟨F, D, y, a, b, c, d⟩ := h
  refine (hc F y a).mono ?_
  rintro e w' ⟨rfl, ⟨y', a'⟩, k⟩
  exact ⟨rfl, ⟨F, D, y', a', b.ch k (fun j hj hn => hn (c j hj)), c, d⟩, k.mono (fun j hj _ hk => hj (d j hk).1)⟩
theorem TW.after (h : TW w Kp L X n m s r) (hP : ∀ D, RK w D X m r → RP w D X m' r' w') : TW w' Kp L X n m' s r' ∧ CT Kp w w' := by
  obtain ⟨F, D, y, a, b, c, d⟩ := h
  obtain ⟨D', b', k, hd⟩ := hP D b
  have kF : Ch F w w' := k.mono (fun j hj _ => c j hj)
  obtain ⟨y', a'⟩ := a.adoptT kF (G := fun k => D' k ∧ w.heap.size ≤ k ∧ k < w'.heap.size) (fun k hk => hk.2)
  refine ⟨⟨_, D', y', a', b', fun j hj => ?_, fun j hj => ⟨.inl (d j hj).1, fun hD => ?_⟩⟩, k.mono (fun j hj _ hk => (d j hk).2 hj)⟩
  · rcases hd j hj with h9 | h9
    · exact .inl (c j h9)
    · exact .inr ⟨hj, h9⟩
  · rcases hd j hD with h9 | h9
    · exact (d j hj).2 h9
    · have := a.fin j (d j hj).1; omega
theorem TW.ref {v : Value} {f : Nat} {args : Array Value} (h : TW w Kp L X n m s r) (hc : ∀ D, RK w D X m r → Calls Try.prog f args w fun e w' => e = .returned v ∧ RP w D X m' r' w') :
    Calls Try.prog f args w fun e w' => e = .returned v ∧ TW w' Kp L X n m' s r' ∧ CT Kp w w' := by
  obtain ⟨F, D, y, a, b, c, d⟩ := h
  refine (hc D b).mono ?_
  rintro e w' ⟨rfl, D', b', k, hd⟩
  have kF : Ch F w w' := k.mono (fun j hj _ => c j hj)
  obtain ⟨y', a'⟩ := a.adoptT kF (G := fun k => D' k ∧ w.heap.size ≤ k ∧ k < w'.heap.size) (fun k hk => hk.2)
  refine ⟨rfl, ⟨_, D', y', a', b', fun j hj => ?_, fun j hj => ⟨.inl (d j hj).1, fun hD => ?_⟩⟩, k.mono (fun j hj _ hk => (d j hk).2 hj)⟩
  · rcases hd j hj with h9 | h9
    · exact .inl (c j h9)
    · exact .inr ⟨hj, h9⟩
  · rcases hd j hD with h9 | h9
    · exact (d j hj).2 h9
    · have := a.fin j (d j hj).1; omega
/-- Other blocks changed or made; what was made is kept from now on, if G says so. -/
theorem TW.adopt (h : TW w Kp L X n m s r) (b : Below w.heap.size w w') {G : Nat → Prop} (hG : ∀ k, G k → w.heap.size ≤ k ∧ k < w'.heap.size) : TW w' (fun k => Kp k ∨ G k) L X n m s r := by
  obtain ⟨F, D, y, a, ⟨vl, vw, M, W, hr⟩, c, d⟩ := h
  obtain ⟨y', a'⟩ := a.adoptT (Ch.of_below b _) hG
  refine ⟨_, D, y', a', RK.below ⟨vl, vw, M, W, hr⟩ b, fun j hj => .inl (c j hj), fun j hj => ?_⟩
  rcases hj with hj | hj
  · exact ⟨.inl (d j hj).1, (d j hj).2⟩
  · exact ⟨.inr hj, fun hD => by have := hr.1.fin j hD; have := (hG j hj).1; omega⟩
/-- A block that is kept is written. -/
theorem TW.own (h : TW w Kp L X n m s r) (c : Ch Kp w w') : TW w' Kp L X n m s r := by
  obtain ⟨F, D, y, a, b, e, d⟩ := h
  exact ⟨F, D, y, a.foreignT (c.mono (fun k hk _ => (d k hk).1)), b.ch c (fun k hk hK => (d k hK).2 hk), e, d⟩
theorem TW.below (h : TW w Kp L X n m s r) (b : Below w.heap.size w w') : TW w' Kp L X n m s r := by
  obtain ⟨F, D, y, a, r, c, d⟩ := h
  exact ⟨F, D, y, a.below b, r.below b, c, d⟩
theorem TW.less (h : TW w Kp L X n m s r) {K2 : Nat → Prop} (hk : ∀ k, K2 k → Kp k) : TW w K2 L X n m s r := by
  obtain ⟨F, D, y, a, r, c, d⟩ := h
  exact ⟨F, D, y, a, r, c, fun k h => d k (hk k h)⟩
theorem CT.less (h : CT Kp w w') {K2 : Nat → Prop} (hk : ∀ k, K2 k → Kp k) : CT K2 w w' := Ch.mono h (fun k hn _ h => hn (hk k h))
theorem CT.cell (h : CT Kp w w') (p : Addr) (hp : p.block < w.heap.size) (hk : Kp p.block) : w'.cell? p = w.cell? p := Ch.cell h p hp (fun hn => hn hk)
/-- What a call of both leaves. -/
def Both (f g : Nat) (args args' : Array Value) (v : Value) (Kp : Nat → Prop) (L X n : Nat) (s s' : LK) : Prop :=
  SI s' ∧ (∀ w, TW w Kp L X n n s s → Calls Try.prog f args w fun e w' => e = .returned v ∧ TW w' Kp L X (n + 8) n s' s ∧ CT Kp w w') ∧ ∀ w, TW w Kp L X (n + 8) n s' s → Calls Try.prog g args' w fun e w' => e = .returned v ∧ TW w' Kp L X (n + 8) (n + 8) s' s' ∧ CT Kp w w'
theorem both_mk {f g : Nat} {args args' : Array Value} {v : Value} (hI : SI s') (h1 : ∀ w F y, OK w F L n s y → ∃ n', n' ≤ n + 8 ∧ Calls Try.prog f args w fun e w' => e = .returned v ∧ PO w F L n' s' w') (h2 : ∀ w D, RK w D X n s → ∃ m', m' ≤ n + 8 ∧ Calls Try.prog g args' w fun e w' => e = .returned v ∧ RP w D X m' s' w') : Both f g args args' v Kp L X n s s' := by
  refine ⟨hI, fun w h => ?_, fun w h => ?_⟩
  · refine h.real (fun F y hok => ?_)
    obtain ⟨n', hn, hc⟩ := h1 w F y hok
    refine hc.mono ?_
    rintro e w' ⟨he, ⟨y', a⟩, k⟩
    exact ⟨he, ⟨y', a.mono hn⟩, k⟩
  · refine h.ref (fun D hrk => ?_)
    obtain ⟨m', hm, hc⟩ := h2 w D hrk
    refine hc.mono ?_
    rintro e w' ⟨he, D', a, k⟩
    exact ⟨he, D', a.mono hm, k⟩
def OR6 (i : Int) : Prop := 0 ≤ i ∧ i < 6
def OR4 (i : Int) : Prop := 0 ≤ i ∧ i < 4
theorem OR6.in {i : Int} (h : OR6 i) : InI i := ⟨by have := h.1; omega, by have := h.2; omega⟩
theorem OR4.in {i : Int} (h : OR4 i) : InI i := ⟨by have := h.1; omega, by have := h.2; omega⟩
theorem SI.hq (hI : SI s) {id : Int} : ∀ x, s.o id = some x → x.q.length ≤ 1000 ∧ 0 ≤ x.ct ∧ x.ct ≤ 255 ∧ ∀ a ∈ x.q, InI a ∧ (s.t a).isSome = true := fun x hx => by
  have := hI.ql hx
  have := hI.ct id x hx
  refine ⟨by omega, by omega, by omega, fun a ha => ?_⟩
  have h2 := (hI.qs id x hx a ha).1
  have := hI.it h2
  refine ⟨⟨by omega, by omega⟩, ?_⟩
  rcases e : s.t a with _ | z
  · unfold stT at h2; rw [e] at h2; cases h2
  · rfl
theorem SI.hh (hI : SI s) {i : Int} : ∀ k ∈ (stT s i).hd, InI k ∧ (s.o k).isSome = true := fun k hk => by
  obtain ⟨x, hx, _⟩ := (hI.hd i k).1 hk
  have := hI.io hx
  exact ⟨⟨by omega, by omega⟩, by rw [hx]; rfl⟩
theorem SI.cap (hI : SI s) : ∀ i t, s.t i = some t → t.hd.length ≤ 1000 := fun i t ht => by
  have := hI.hl i
  have e : stT s i = t := by unfold stT; rw [ht]; rfl
  rw [e] at this
  omega
theorem SI.hw (hI : SI s) {id : Int} : ∀ x, s.o id = some x → x.q.length ≤ 1000 := fun x hx => by have := hI.ql hx; omega
variable {id t lv now tm : Int}
theorem two_addM (hI : SI s) (hid : OR6 id) (hn : n ≤ 900) : Both 12 39 #[ptr L, .int .i64 id, .int .i64 lv] #[ptr X, .int .i64 id, .int .i64 lv] (.int .i64 (addM s id lv).1) Kp L X n s (addM s id lv).2 :=
  both_mk (hI.addM hid) (fun w F y h => ⟨n + 1, by omega, addMutex_any h hid.in (by omega)⟩) (fun w D h => ⟨n + 1, by omega, raddM_any h (by omega) id lv⟩)
theorem two_addE (hI : SI s) (hid : OR6 id) (hn : n ≤ 900) : Both 18 40 #[ptr L, .int .i64 id] #[ptr X, .int .i64 id] (.int .i64 (addE s id).1) Kp L X n s (addE s id).2 :=
  both_mk (hI.addE hid) (fun w F y h => ⟨n + 1, by omega, addEvent_any h hid.in (by omega)⟩) (fun w D h => ⟨n + 1, by omega, raddE_any h (by omega) id⟩)
theorem two_rm (hI : SI s) (hid : OR6 id) (hn : n ≤ 900) : Both 41 42 #[ptr L, .int .i64 id] #[ptr X, .int .i64 id] (.int .i64 (rmS s id).1) Kp L X n s (rmS s id).2 :=
  both_mk hI.rm (fun w F y h => ⟨n, by omega, remove_any h hid.in⟩) (fun w D h => ⟨n + 1, by omega, rremove_any h hI (by omega) id⟩)
theorem two_rel (hI : SI s) (hid : OR6 id) (ht : OR4 t) (hn : n ≤ 900) : Both 14 43 #[ptr L, .int .i64 t, .int .i64 id] #[ptr X, .int .i64 t, .int .i64 id] (.int .i64 (relS s t id).1) Kp L X n s (relS s t id).2 :=
  both_mk (hI.rel ht) (fun w F y h => ⟨n + 1, by omega, release_any h ht.in hid.in (by omega) (fun x hx => by obtain ⟨a, b, c, d⟩ := hI.hq x hx; exact ⟨a, b, c, fun z hz => (d z hz).1⟩) hI.hh hI.cap (fun x hx h1 h2 h3 => by
    have hm : id ∈ (stT s t).hd := (hI.hd t id).2 ⟨x, hx, h1, h2, h3⟩
    rcases e : s.t t with _ | z
    · unfold stT at hm; rw [e] at hm; cases hm
    · exact ⟨z, rfl, by unfold stT at hm; rw [e] at hm; exact hm⟩)⟩) (fun w D h => ⟨n + 1, by omega, rrelease_any h hI (by omega) t id⟩)
theorem two_wait (hI : SI s) (hid : OR6 id) (ht : OR4 t) (hn : n ≤ 900) (h1 : 0 ≤ now ∧ now ≤ 18446744073709551615) (h2 : 0 ≤ tm ∧ tm ≤ 18446744073709551615) : Both 21 45 #[ptr L, .int .i64 t, .int .i64 id, .int .u64 now, .int .u64 tm] #[ptr X, .int .i64 t, .int .i64 id, .int .u64 now, .int .u64 tm] (.tuple #[.int .i64 (wtS s t id now tm).1, .int .i64 (wtS s t id now tm).2.1]) Kp L X n s (wtS s t id now tm).2.2 :=
  both_mk (hI.wt ht) (fun w F y h => ⟨n + 1, by omega, waitE_any h ht.in hid.in (by omega) (fun x hx => by obtain ⟨a, b, c, d⟩ := hI.hq x hx; exact ⟨a, b, c⟩)⟩) (fun w D h => ⟨n + 2, by omega, rwait_any h hI (by omega) t id now tm h1 h2 hI.hw⟩)
theorem two_acq (hI : SI s) (hid : OR6 id) (ht : OR4 t) (hn : n ≤ 900) (h1 : 0 ≤ now ∧ now ≤ 18446744073709551615) (h2 : 0 ≤ tm ∧ tm ≤ 18446744073709551615) : Both 13 51 #[ptr L, .int .i64 t, .int .i64 id, .int .u64 now, .int .u64 tm] #[ptr X, .int .i64 t, .int .i64 id, .int .u64 now, .int .u64 tm] (.tuple #[.int .i64 (acqS s t id now tm).1, .int .i64 (acqS s t id now tm).2.1]) Kp L X n s (acqS s t id now tm).2.2 :=
  both_mk (hI.acq ht) (fun w F y h => ⟨n + 1, by omega, acquire_any h ht.in hid.in (by omega) (fun x hx => by obtain ⟨a, b, c, d⟩ := hI.hq x hx; exact ⟨a, b⟩) hI.hh (by have := hI.hl t; omega)⟩) (fun w D h => ⟨n + 2, by omega, racquire_any h hI (by omega) t id now tm h1 h2 hI.hw⟩)
theorem two_sig (hI : SI s) (hid : OR6 id) (hn : n ≤ 900) : Both 19 46 #[ptr L, .int .i64 id] #[ptr X, .int .i64 id] (.int .i64 (sigS s id).1) Kp L X n s (sigS s id).2 :=
  both_mk hI.sig (fun w F y h => ⟨n + 1, by omega, signal_any h hid.in hI.hq⟩) (fun w D h => ⟨n + 1, by omega, rsignal_any h hI (by omega) id⟩)
theorem two_rst (hI : SI s) (hid : OR6 id) (hn : n ≤ 900) : Both 20 47 #[ptr L, .int .i64 id] #[ptr X, .int .i64 id] (.int .i64 (rstS s id).1) Kp L X n s (rstS s id).2 :=
  both_mk hI.rst (fun w F y h => ⟨n + 1, by omega, reset_any h hid.in⟩) (fun w D h => ⟨n, by omega, rreset_any h (by omega) id⟩)
/-- Abort on the program. -/
theorem two_abort1 (h : TW w Kp L X n n s s) (hI : SI s) (ht : OR4 t) (hn : n ≤ 900) : Calls Try.prog 49 #[ptr L, .int .i64 t] w fun e w' => e = .returned (.tuple #[]) ∧ ∃ l, l.Pairwise (gtO s) ∧ (∀ a, a ∈ l ↔ a ∈ (stT s t).hd) ∧ TW w' Kp L X (n + 8) n (abR s t l) s ∧ CT Kp w w' := by
  obtain ⟨F, D, y, a, b, c, d⟩ := h
  refine (abort_any a hI ht (by omega)).mono ?_
  rintro e w' ⟨rfl, l, h1, h2, ⟨y', a'⟩, k⟩
  exact ⟨rfl, l, h1, h2, ⟨F, D, y', a'.mono (by omega), b.ch k (fun j hj hn => hn (c j hj)), c, d⟩, k.mono (fun j hj _ hk => hj (d j hk).1)⟩
theorem two_abort2 {l : List Int} (h : TW w Kp L X (n + 8) n (abR s t l) s) (hI : SI s) (ht : OR4 t) (hn : n ≤ 900) (hp : l.Pairwise (gtO s)) (hm : ∀ a, a ∈ l ↔ a ∈ (stT s t).hd) : Calls Try.prog 50 #[ptr X, .int .i64 t] w fun e w' => e = .returned (.tuple #[]) ∧ TW w' Kp L X (n + 8) (n + 8) (abR s t l) (abR s t l) ∧ CT Kp w w' :=
  h.ref fun D hrk => by
    refine (rabort_any hrk hI (by omega) t ht).mono ?_
    rintro e w' ⟨he, l', h1, h2, h3⟩
    have el : l' = l := gtO.uniq h1 hp (fun a => by rw [h2, hm])
    subst el
    obtain ⟨_, r2, r3⟩ := ab_rel hI ht hp hm
    exact ⟨he, h3.congr r2 r3⟩
/-- Beside both: ints in a row that the reference does not own. -/
def TV (w : World) (Kp : Nat → Prop) (L X n m : Nat) (s r : LK) (v : Value) (E : List Int) : Prop := ∃ F D y, OK w F L n s y ∧ RK w D X m r ∧ (∀ k, D k → F k) ∧ (∀ k, Kp k → F k ∧ ¬ D k) ∧ OI w v E ∧ ∀ g, v.ownBlock = some g → ¬ D g
/-- Expire on the program. -/
theorem two_exp1 (h : TW w Kp L X n n s s) (hI : SI s) (hn : n ≤ 900) : Calls Try.prog 22 #[ptr L, .int .u64 now] w fun e w' => ∃ v E, e = .returned v ∧ E.Pairwise (· < ·) ∧ (∀ i, i ∈ E ↔ exB s now i = true) ∧ TV w' Kp L X (n + 8) n (expS s E) s v E ∧ CT Kp w w' := by
  obtain ⟨F, D, y, a, b, c, d⟩ := h
  refine (expire_any (now := now) a (by omega) (fun i t hs h2 => ?_) (fun i t hs => ?_)).mono ?_
  · have hT : stT s i = t := by unfold stT; rw [hs]; rfl
    obtain ⟨x, hx, _⟩ := hI.sq i (by rw [hT]; exact h2)
    rw [hT] at hx
    have := hI.io hx
    exact ⟨⟨by omega, by omega⟩, x, hx, by have := hI.ql hx; omega⟩
  · have := hI.ti i (by rw [hs]; rfl)
    exact ⟨by omega, by omega⟩
  · rintro e w' ⟨v, E, rfl, h1, h2, h3, h4, h5, ⟨y', a'⟩, k⟩
    have hs : E.Pairwise (· < ·) := by
      rw [List.pairwise_iff_getElem] at h1 ⊢
      intro i j hi hj hij
      have h9 := h1 i j hi hj hij
      have hne : E[i] ≠ E[j] := fun e => by have := (List.getElem_inj h2).1 e; omega
      omega
    exact ⟨v, E, rfl, hs, h3, ⟨F, D, y', a'.mono (by omega), b.ch k (fun j hj hn => hn (c j hj)), c, d, h4.1, fun g hg hD => by have := h5 g hg; have := a.fin g (c g hD); omega⟩, k.mono (fun j hj _ hk => hj (d j hk).1)⟩
theorem lt_uniq : ∀ {l l' : List Int}, l.Pairwise (· < ·) → l'.Pairwise (· < ·) → (∀ a, a ∈ l ↔ a ∈ l') → l = l'
  | [], [], _, _, _ => rfl
  | [], b :: r, _, _, h => by have := (h b).2 (List.mem_cons_self); cases this
  | a :: r, [], _, _, h => by have := (h a).1 (List.mem_cons_self); cases this
  | a :: r, b :: r', h1, h2, h => by
    have p1 := List.pairwise_cons.1 h1
    have p2 := List.pairwise_cons.1 h2
    have e : a = b := by
      rcases List.mem_cons.1 ((h a).1 (List.mem_cons_self)) with e | e
      · exact e
      · rcases List.mem_cons.1 ((h b).2 (List.mem_cons_self)) with e2 | e2
        · exact e2.symm
        · have := p1.1 b e2; have := p2.1 a e; omega
    subst e
    rw [lt_uniq p1.2 p2.2 fun c => by
      have := h c
      rw [List.mem_cons, List.mem_cons] at this
      constructor
      · intro hc
        rcases this.1 (.inr hc) with e | e
        · have := p1.1 c hc; omega
        · exact e
      · intro hc
        rcases this.2 (.inr hc) with e | e
        · have := p2.1 c hc; omega
        · exact e]
/-- Expire on the reference. -/
theorem two_exp2 {v : Value} {E : List Int} (h : TV w Kp L X (n + 8) n (expS s E) s v E) (hI : SI s) (hn : n ≤ 900) (hp : E.Pairwise (· < ·)) (hm : ∀ i, i ∈ E ↔ exB s now i = true) :
    Calls Try.prog 48 #[ptr X, .int .u64 now] w fun e w' => ∃ v', e = .returned v' ∧ OI w' v E ∧ OI w' v' E ∧ TW w' Kp L X (n + 8) (n + 8) (expS s E) (expS s E) ∧ CT Kp w w' := by
  obtain ⟨F, D, y, a, b, c, d, ho, hob⟩ := h
  refine (rexpire_any b hI (by omega) now).mono ?_
  rintro e w' ⟨v', rfl, E', h1, h2, h3, D', b', k, hd⟩
  have eE : E' = E := lt_uniq h1 hp (fun i => by rw [h2, hm])
  subst eE
  have htw : TW w Kp L X (n + 8) n (expS s E') s := ⟨F, D, y, a, b, c, d⟩
  have kF : Ch F w w' := k.mono (fun j hj _ => c j hj)
  obtain ⟨y', a'⟩ := a.adoptT kF (G := fun k => D' k ∧ w.heap.size ≤ k ∧ k < w'.heap.size) (fun k hk => hk.2)
  refine ⟨v', rfl, ho.ch k hob, h3, ⟨_, D', y', a', b'.mono (by omega), fun j hj => ?_, fun j hj => ⟨.inl (d j hj).1, fun hD => ?_⟩⟩, k.mono (fun j hj _ hk => (d j hk).2 hj)⟩
  · rcases hd j hj with h9 | h9
    · exact .inl (c j h9)
    · exact .inr ⟨hj, h9⟩
  · rcases hd j hD with h9 | h9
    · exact (d j hj).2 h9
    · have := a.fin j (d j hj).1; omega
theorem exp_SI (hI : SI s) {E : List Int} (hp : E.Pairwise (· < ·)) (hm : ∀ i, i ∈ E ↔ exB s now i = true) : SI (expS s E) :=
  (exp_si E s hI (hp.imp (fun h e => by omega)) (fun e he => by
    have := (hm e).1 he
    rw [exB_T, Bool.and_eq_true] at this
    exact of_decide_eq_true this.1)).1
end
end Go.Proofs.Ytefgfmnnaglfmaa
