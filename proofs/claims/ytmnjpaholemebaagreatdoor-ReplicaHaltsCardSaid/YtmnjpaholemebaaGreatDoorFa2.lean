/-
  A closed fact of the row: the cell unfollowed.
-/
import Derived.Test.YtmnjpaholemebaaGreatDoorRows
namespace Go.Proofs.YtmnjpaholemebaaGreatDoor
theorem fact2 : (Rows.replicaHaltsRow.unfollowed == Tryz.prog.unfollowed 7) = true := by kernel_rfl
end Go.Proofs.YtmnjpaholemebaaGreatDoor
