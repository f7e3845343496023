/- Visit: program and reference. No condition but that the topology lies in memory. -/
import Derived.Test.YtedihfcbpgogoaaT
namespace Go.Proofs.Ytedihfcbpgogoaa
open Go.RowKit
def VisitP (T : List Fn) (w : World) (e : Ending) (w' : World) : Prop := ∃ v E, e = .returned v ∧ OW w w' v E ∧ (Vld T → E = toI (vis T (T.length + 1) (-1))) ∧ (¬ Vld T → E = [])
theorem VisitP.no {T : List Fn} {w w' : World} (h : ¬ Vld T) (b : Below w.heap.size w w') : VisitP T w (.returned (.slice none 0 0)) w' := ⟨_, [], rfl, ⟨IR.nil _, (fun g hg => by cases hg), b⟩, (fun q => absurd q h), fun _ => rfl⟩
theorem VisitP.yes {T : List Fn} {w w' : World} {v : Value} (h : Vld T) (b : OW w w' v (toI (vis T (T.length + 1) (-1)))) : VisitP T w (.returned v) w' := ⟨_, _, rfl, b, (fun _ => rfl), (fun q => absurd h q)⟩
theorem Visit_any {w : World} {a : Option Addr} {len cap : Nat} {T : List Fn} (h : FnS w a len cap T) :
    Calls Try.prog 24 #[.slice a len cap] w (VisitP T w) := by
  have H := Lib.hid h
  have HL := Lib.hid h.len
  have HV := Lib.hid (valid_any h)
  clear h
  go_enter Try.func24, Try.ntmps24
  go_wp2_with fail
  refine HV.out.mono ?_
  rintro e w1 ⟨b, rfl, hb, b1⟩
  have B1 := Lib.hid b1
  clear b1
  cases b
  · have hv : Hid (¬ Vld T) := Lib.hid (by simpa using hb)
    clear hb
    go_wp2_with fail
    go_ret
    exact VisitP.no hv.out B1.out
  · have hv : Hid (Vld T) := Lib.hid (by simpa using hb)
    clear hb
    have hn : (-1 : Int) = -1 := rfl
    have HC := Lib.hid (visit_any hv.out.vt H.out (by have := hv.out.len; have := HL.out; omega) (T.length + 1) (-1) [] (.slice none 0 0) w1 (by omega) (by omega) ⟨IR.nil _, (fun g hg => by cases hg), B1.out⟩ (by have := vis_len hv.out.vt (T.length + 1) (-1); have := hv.out.len; simp; omega))
    go_wp2_with fail
    refine HC.out.mono ?_
    rintro e w2 ⟨v, rfl, o2, _, _⟩
    have O2 := Lib.hid o2
    clear o2
    go_wp2_with fail
    go_ret
    exact VisitP.yes hv.out (by have := O2.out; simpa using this)
theorem rVisit_any {w : World} {a : Option Addr} {len cap : Nat} {T : List Fn} (h : FnS w a len cap T) :
    Calls Try.prog 26 #[.slice a len cap] w (VisitP T w) := by
  have H := Lib.hid h
  have HL := Lib.hid h.len
  have HV := Lib.hid (rvalid_any h)
  clear h
  go_enter Try.func26, Try.ntmps26
  go_wp2_with fail
  refine HV.out.mono ?_
  rintro e w1 ⟨b, rfl, hb, b1⟩
  have B1 := Lib.hid b1
  clear b1
  cases b
  · have hv : Hid (¬ Vld T) := Lib.hid (by simpa using hb)
    clear hb
    go_wp2_with fail
    go_ret
    exact VisitP.no hv.out B1.out
  · have hv : Hid (Vld T) := Lib.hid (by simpa using hb)
    clear hb
    have HC := Lib.hid (rvisit_any hv.out.vt H.out (by have := hv.out.len; have := HL.out; omega) (T.length + 1) (-1) w1 (by omega) (by omega) B1.out)
    go_wp2_with fail
    refine HC.out.mono ?_
    rintro e w2 ⟨v, rfl, o2⟩
    have O2 := Lib.hid o2
    clear o2
    go_wp2_with fail
    go_ret
    exact VisitP.yes hv.out ⟨O2.out.row, (fun g hg => by have := O2.out.new g hg; have := B1.out.size; omega), bthen B1.out O2.out.bel⟩
end Go.Proofs.Ytedihfcbpgogoaa
