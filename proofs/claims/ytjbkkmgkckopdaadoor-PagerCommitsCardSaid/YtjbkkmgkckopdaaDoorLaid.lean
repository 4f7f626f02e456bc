/- The table that the row lists lies where the walks read it; the program's own start lays it so. -/
import Derived.Test.YtjbkkmgkckopdaaDoorRows
import Derived.Test.YtjbkkmgkckopdaaDoorCrc
import Derived.ProofKit
import Derived.LaidMore
import Derived.Lib.LaidTab
namespace Go.Proofs.YtjbkkmgkckopdaaDoor.Pg
open Go.ChangeShapes Go.WideShapes Go.ChangeAt Go.RowKit
theorem own : ownKnob Tryd.prog.godebug = none := by kernel_rfl
theorem gRow : Tryd.prog.globalNamed "rollbook/crc.row" = some 0 := by kernel_rfl
theorem tRow : (Tryd.prog.globals[0]?).map (·.type) = some 120 := by kernel_rfl
abbrev laidRow : List (String × DataW Unit) := [("rollbook/crc.row", Rows.laid_rollbook_crc_row)]
theorem row_of_laid {W : World} (h : laidMetH Tryd.prog laidRow W) : RowAt W := by
  rw [MakeChecks.laidMetH_plain _ _ _ (by kernel_rfl)] at h
  have hT : Lib.TabIs Tryd.prog W "rollbook/crc.row" .u32 crcRow := Lib.tabIs_of_head gRow tRow Tryd.underlying120 Tryd.underlying97 (by kernel_rfl) (by kernel_rfl) h
  exact fun i hi => hT.cell gRow i hi
theorem door_met (os : Os) (args : Array Value) : laidMetH Tryd.prog laidRow ((World.doorLaid Tryd.prog 14 os).forCall (fun _ _ => 0) ⟨#[], args, []⟩).memory :=
  laidMetH_of_parts3 (fuel := 8) (laidMet_of_run' 8 (by kernel_rfl) (by kernel_rfl)) (by kernel_rfl) (by kernel_rfl)
end Go.Proofs.YtjbkkmgkckopdaaDoor.Pg
