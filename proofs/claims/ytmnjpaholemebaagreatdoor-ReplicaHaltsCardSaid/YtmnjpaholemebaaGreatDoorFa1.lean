/-
  A closed fact of the row: the cell inPlace.
-/
import Derived.Test.YtmnjpaholemebaaGreatDoorRows
namespace Go.Proofs.YtmnjpaholemebaaGreatDoor
theorem fact1 : (Rows.replicaHaltsRow.inPlace == Tryz.prog.inPlace 7) = true := by kernel_rfl
end Go.Proofs.YtmnjpaholemebaaGreatDoor
