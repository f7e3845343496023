/- The walk of MeasureReplayAgrees. Condition: the round constants lie in block 0. -/
import Derived.Test.YtndbbbkdpjkljaaDoorX
import Derived.Test.YtndbbbkdpjkljaaDoorL10
import Derived.Test.YtndbbbkdpjkljaaDoorR3
namespace Go.Proofs.YtndbbbkdpjkljaaDoor
open Go.RowKit
attribute [local go_sem ↓] alloc26 load26n store26n alloc45 load45n store45n
attribute [local go_sem] stN_uc stN_b8 set_new fold_drew ldN_drew ldN_drewN stN_drew stN_drewN stN_ev set_ev stN_b8c set_newc

def rcode (es : List Ev) : Int := if es.all okE = true then 0 else 1
def rres (es : List Ev) : List (Nat → Int) := if es.all okE = true then rgl (regs es) else []
theorem rres_len (es : List Ev) : (rres es).length ≤ 8 := by unfold rres; split <;> simp [rgl]
theorem rres_byt (es : List Ev) : ∀ D ∈ rres es, Byt D := by
  unfold rres
  split
  · intro D hD
    obtain ⟨i, _, rfl⟩ := List.mem_map.1 hD
    exact regs_byt _ _
  · intro D hD; cases hD
theorem RepAny.form {w w' : World} {es : List Ev} {e : Ending} (h : RepAny w es e w') : ∃ v, e = .returned (.tuple #[v, .int .i64 (rcode es)]) ∧ RdD w' v (rres es) ∧ Below w.heap.size w w' := by
  unfold rcode rres
  rcases h with ⟨hok, g, rfl, _, hG, hb⟩ | ⟨hok, rfl, hb⟩
  · rw [if_pos hok, if_pos hok]
    exact ⟨_, rfl, hG.rd, hb⟩
  · rw [if_neg (by rw [hok]; simp), if_neg (by rw [hok]; simp)]
    exact ⟨_, rfl, nil_rd _, hb⟩
/-- One event's register turned. -/
def setR (es : List Ev) (i : Nat) (r : Int) : List Ev := es.modify i fun e => { e with r := r }
theorem setR_len (es : List Ev) (i : Nat) (r : Int) : (setR es i r).length = es.length := by simp [setR]
theorem setR_byt {es : List Ev} (i : Nat) (r : Int) (h : ∀ e ∈ es, Byt e.d) : ∀ e ∈ setR es i r, Byt e.d := by
  intro e he
  obtain ⟨j, hj⟩ := List.getElem?_of_mem he
  unfold setR at hj
  rw [List.getElem?_modify] at hj
  rcases hx : es[j]? with _ | x
  · rw [hx] at hj; simp at hj
  · rw [hx] at hj
    have hm := h x (List.mem_of_getElem? hx)
    by_cases hij : i = j
    · simp [hij] at hj; subst hj; exact hm
    · simp [hij] at hj; subst hj; exact hm
theorem OE.set {w : World} {base g c : Nat} {es : List Ev} (h : OE w base (.slice (some ⟨g, 0, none⟩) es.length c) es) (i : Nat) (hi : i < es.length) (r : Int) : RdE (w.setCell ⟨g, i * 34, none⟩ (.int .i64 r)) (.slice (some ⟨g, 0, none⟩) es.length c) (setR es i r) := by
  have hrd := h.rd
  have hgl : g < w.heap.size := (h.lt g rfl).2
  obtain ⟨a', c', e1, hr⟩ := hrd
  injection e1 with e1 _ e3
  subst e1 e3
  refine ⟨_, _, by rw [setR_len], fun _ => ⟨g, 0, rfl, by simpa [World.setCell] using hgl, fun j e he k u hu => ?_⟩⟩
  obtain ⟨b, o, e2, _, hrg⟩ := hr (by intro h; subst h; simp at hi)
  injection e2 with e2
  have hb : g = b := congrArg Addr.block e2
  have ho : 0 = o := congrArg Addr.off e2
  subst hb ho
  unfold setR at he
  rw [List.getElem?_modify] at he
  rcases hx : es[j]? with _ | x
  · rw [hx] at he; simp at he
  rw [hx] at he
  have hk : k < 34 := by have := (List.getElem?_eq_some_iff.1 hu).1; rw [evc_len] at this; exact this
  have hold := hrg j x hx
  by_cases hij : i = j
  · subst hij
    simp at he
    subst he
    by_cases hk0 : k = 0
    · subst hk0
      have : u = .int .i64 r := by simpa [evc] using hu.symm
      subst this
      have hc := hold 0 _ rfl
      rw [show 0 + i * 34 + 0 = i * 34 by omega] at hc ⊢
      exact World.cell?_setCell_same _ _ _ hc
    · have hu2 : (evc x)[k]? = some u := by
        rw [← hu]
        unfold evc
        obtain ⟨k', rfl⟩ : ∃ k', k = k' + 1 := ⟨k - 1, by omega⟩
        rfl
      rw [World.cell?_setCell_other _ _ _ _ (by intro h; have := congrArg Addr.off h; simp at this; omega)]
      exact hold k u hu2
  · simp [hij] at he
    subst he
    rw [World.cell?_setCell_other _ _ _ _ (by intro h; have := congrArg Addr.off h; simp at this; omega)]
    exact hold k u hu
end Go.Proofs.YtndbbbkdpjkljaaDoor
