/- How the arguments and the listed table are read. No condition. -/
import Derived.Test.YtndbbbkdpjkljaaDoorE
import Derived.Test.YtndbbbkdpjkljaaDoorCards
import Derived.Test.YtndbbbkdpjkljaaDoorTie
import Derived.ProofKit
import Derived.OpenShut
import Derived.ShutString
import Derived.ChangeOld
import Derived.ChangeMaps5
import Derived.Below
import Derived.Deep.Slices
import Derived.Deep.Fields
import Derived.Deep.DeepHandedRow
import Derived.Lib.LaidTab
namespace Go.Proofs.YtndbbbkdpjkljaaDoor
open Go.ChangeShapes Go.WideShapes Go.ChangeAt Go.RowKit Go.Deep

theorem own : ownKnob Tryd.prog.godebug = none := by kernel_rfl
theorem laidOut : laidOutB Tryd.prog = true := by kernel_rfl
theorem gTab : Tryd.prog.globalNamed "platformfw/measure.rounds" = some 0 := by kernel_rfl
theorem gTabType : (Tryd.prog.globals[0]?).map (·.type) = some 77 := by kernel_rfl
theorem cells77 : Tryd.prog.cellsOf 77 = 64 := by kernel_rfl
theorem cells62 : Tryd.prog.cellsOf 62 = 1 := by kernel_rfl
theorem rnd_of {W : World} (h : laidMetH Tryd.prog [("platformfw/measure.rounds", Rows.laid_platformfw_measure_rounds)] W) : Rnd W := by
  have ht : Lib.TabIs Tryd.prog W "platformfw/measure.rounds" .u32 rcs := Lib.tabIs_of_head (rest := []) gTab gTabType Tryd.underlying77 Tryd.underlying62 cells62 cells77 h
  intro i hi
  exact ht.cell gTab i (by simpa [rcs] using hi)
theorem rnd_pos {W : World} (h : Rnd W) : 0 < W.heap.size := World.block_lt_of_cell? W ⟨0, 0, none⟩ (h 0 (by omega))
/-- A world for the witness: the settled one, the table holding what its initialiser lays. -/
noncomputable def laidWorld (os : Os) : World :=
  { World.holding Tryd.prog os ⟨#[], #[], []⟩ with heap := (World.holding Tryd.prog os ⟨#[], #[], []⟩).heap.modify 0 fun
      | .cells _ t frozen => .cells (rcs.map fun n => Value.int .u32 n).toArray t frozen
      | o => o }
end Go.Proofs.YtndbbbkdpjkljaaDoor
