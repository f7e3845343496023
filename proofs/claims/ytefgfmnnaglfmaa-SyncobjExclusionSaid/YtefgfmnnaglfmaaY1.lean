/- Remove. Condition: numbers fit. -/
import Derived.Test.YtefgfmnnaglfmaaX4
namespace Go.Proofs.Ytefgfmnnaglfmaa
open Go.RowKit
def rmS (s : LK) (id : Int) : Int × LK := match s.o id with
  | none => (6, s)
  | some x => if (x.mx = true ∧ 0 < x.ct) ∨ x.q ≠ [] then (17, s) else (0, s.setO id none)
section
variable {w : World} {F : Nat → Prop} {L n : Nat} {s : LK} {y : Lay}
set_option maxRecDepth 100000 in
set_option maxHeartbeats 1000000 in
theorem remove_any {id : Int} (h : OK w F L n s y) (hid : InI id) :
    Calls Try.prog 41 #[ptr L, .int .i64 id] w fun e w' => e = .returned (.int .i64 (rmS s id).1) ∧ PO w F L n (rmS s id).2 w' := by
  have P0 := Lib.hid (PO.same h (Nat.le_refl n))
  have c0 := h.c0
  have hlo := h.lookO hid
  unfold rmS
  rcases hs : s.o id with _ | x
  · rw [fo_none hs] at hlo
    clear h
    go_enter Try.func41, Try.ntmps41
    go_wp2_with fail
    go_ret
    exact ⟨rfl, P0.out⟩
  · rw [fo_some hs] at hlo
    obtain ⟨lO, rO, qO, _⟩ := h.obj _ _ hs
    have HDel : Hid (∃ w', (Builtin.delete_ #[53, 3] 0 #[.map (some y.mo), .int .i64 id]).run Try.prog w = .ok (.tuple #[]) w' ∧ PO w F L n (s.setO id none) w') := by
      obtain ⟨w', hr, hm, hc⟩ := h.mo.drop Try.underlying3 Try.underlying53 hid 0
      exact ⟨w', hr, ⟨y, h.delObj hc hm⟩, h.bel hc (fun k hk => .inr (by rw [hk]; exact h.lo))⟩
    show Calls Try.prog 41 _ w fun e w' => e = .returned (.int .i64 (if (x.mx = true ∧ 0 < x.ct) ∨ x.q ≠ [] then ((17 : Int), s) else (0, s.setO id none)).1) ∧ PO w F L n (if (x.mx = true ∧ 0 < x.ct) ∨ x.q ≠ [] then ((17 : Int), s) else (0, s.setO id none)).2 w'
    obtain ⟨mx, lv, ow, ct, q⟩ := x
    have o0 : w.cell? ⟨y.ob id, 0, none⟩ = some (.bool mx) := Row.cell rO (i := 0) (by omega)
    have o3 : w.cell? ⟨y.ob id, 3, none⟩ = some (.int .i64 ct) := Row.cell rO (i := 3) (by omega)
    have o4 : w.cell? ⟨y.ob id, 4, none⟩ = some (y.qv id) := Row.cell rO (i := 4) (by omega)
    have hqv : ∃ a len cap, y.qv id = .slice a len cap ∧ len = q.length := by
      rcases QR.cases qO with ⟨e, e2⟩ | ⟨g, cap, e⟩
      · exact ⟨_, _, _, e, by rw [show q = [] from e2]; rfl⟩
      · exact ⟨_, _, _, e, rfl⟩
    obtain ⟨a, len, cap, e, hlen⟩ := hqv
    rw [e] at o4
    have hne : q ≠ [] ↔ 0 < len := by rw [hlen]; exact List.length_pos_iff.symm
    clear h rO qO lO hlen e hs
    by_cases hb : mx = true ∧ 0 < ct
    · obtain ⟨rfl, hct⟩ := hb
      have d3 : (decide (ct > 0)) = true := by simpa using hct
      rw [if_pos (.inl ⟨rfl, hct⟩)]
      go_enter Try.func41, Try.ntmps41
      go_wp2_with fail
      go_ret
      exact ⟨rfl, P0.out⟩
    · by_cases hq : 0 < len
      · rw [if_pos (.inr (hne.2 hq))]
        have d4 : (decide ((len : Int) > 0)) = true := by simpa using hq
        cases mx
        · go_enter Try.func41, Try.ntmps41
          go_wp2_with fail
          go_ret
          exact ⟨rfl, P0.out⟩
        · have hct : ¬ 0 < ct := fun h => hb ⟨rfl, h⟩
          have d3 : (decide (ct > 0)) = false := by simpa using hct
          go_enter Try.func41, Try.ntmps41
          go_wp2_with fail
          go_ret
          exact ⟨rfl, P0.out⟩
      · rw [if_neg (by rintro (h | h); exact hb h; exact hq (hne.1 h))]
        obtain rfl : len = 0 := by omega
        obtain ⟨w', hrun, hP⟩ := HDel.out
        have HP := Lib.hid hP
        clear hP hne hq HDel
        cases mx
        · go_enter Try.func41, Try.ntmps41
          go_wp2_with fail
          go_ret
          exact ⟨rfl, HP.out⟩
        · have hct : ¬ 0 < ct := fun h => hb ⟨rfl, h⟩
          have d3 : (decide (ct > 0)) = false := by simpa using hct
          go_enter Try.func41, Try.ntmps41
          go_wp2_with fail
          go_ret
          exact ⟨rfl, HP.out⟩
end
end Go.Proofs.Ytefgfmnnaglfmaa
