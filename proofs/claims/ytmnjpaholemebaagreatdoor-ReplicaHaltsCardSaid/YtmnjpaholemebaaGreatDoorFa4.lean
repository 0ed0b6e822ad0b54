/-
  A closed fact of the row: the cell named.
-/
import Derived.Test.YtmnjpaholemebaaGreatDoorRows
namespace Go.Proofs.YtmnjpaholemebaaGreatDoor
theorem fact4 : (Rows.replicaHaltsRow.named == Tryz.prog.varsNamed 7) = true := by kernel_rfl
end Go.Proofs.YtmnjpaholemebaaGreatDoor
