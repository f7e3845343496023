/- How the arguments and the listed table are read. No condition. -/
import Derived.ProofKit
import Derived.OpenShut
import Derived.ShutString
import Derived.ChangeOld
import Derived.ChangeMaps5
import Derived.Below
import Derived.Deep.Slices
import Derived.Deep.Fields
import Derived.Deep.DeepHandedRow
import Derived.Lib.LaidTab
import Derived.Test.YtdinbpdpalgohaaGreatDoorY8
import Derived.Test.YtdinbpdpalgohaaGreatDoorCards
import Derived.Test.YtdinbpdpalgohaaGreatDoorTie
namespace Go.Proofs.YtdinbpdpalgohaaGreatDoor
open Go.ChangeShapes Go.WideShapes Go.ChangeAt Go.RowKit Go.Deep

theorem own : ownKnob Tryz.prog.godebug = none := by kernel_rfl
theorem laidOut : laidOutB Tryz.prog = true := by kernel_rfl
theorem gTab : Tryz.prog.globalNamed "platformfw/measure.rounds" = some 0 := by kernel_rfl
theorem gTabType : (Tryz.prog.globals[0]?).map (·.type) = some 184 := by kernel_rfl
theorem cellsTab : Tryz.prog.cellsOf 184 = 64 := by kernel_rfl
theorem cellsU32 : Tryz.prog.cellsOf 110 = 1 := by kernel_rfl
theorem rnd_of {W : World} (h : laidMetH Tryz.prog [("platformfw/measure.rounds", Rows.laid_platformfw_measure_rounds)] W) : Ms.Rnd W := by
  have ht : Lib.TabIs Tryz.prog W "platformfw/measure.rounds" .u32 Ms.rcs := Lib.tabIs_of_head (rest := []) gTab gTabType Tryz.underlying184 Tryz.underlying110 cellsU32 cellsTab h
  intro i hi
  exact ht.cell gTab i (by simpa [Ms.rcs] using hi)
theorem rnd_pos {W : World} (h : Ms.Rnd W) : 0 < W.heap.size := World.block_lt_of_cell? W ⟨0, 0, none⟩ (h 0 (by omega))
/-- A world for the witness: the settled one, the table holding what its initialiser lays. -/
noncomputable def laidWorld (os : Os) : World :=
  { World.holding Tryz.prog os ⟨#[], #[], []⟩ with heap := (World.holding Tryz.prog os ⟨#[], #[], []⟩).heap.modify 0 fun
      | .cells _ t frozen => .cells (Ms.rcs.map fun n => Value.int .u32 n).toArray t frozen
      | o => o }
end Go.Proofs.YtdinbpdpalgohaaGreatDoor
