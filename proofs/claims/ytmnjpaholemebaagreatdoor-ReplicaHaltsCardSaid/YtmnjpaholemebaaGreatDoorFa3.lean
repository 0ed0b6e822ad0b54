/-
  A closed fact of the row: the cell recurses.
-/
import Derived.Test.YtmnjpaholemebaaGreatDoorRows
namespace Go.Proofs.YtmnjpaholemebaaGreatDoor
theorem fact3 : (Rows.replicaHaltsRow.recurses == Tryz.prog.recurses 7) = true := by kernel_rfl
end Go.Proofs.YtmnjpaholemebaaGreatDoor
