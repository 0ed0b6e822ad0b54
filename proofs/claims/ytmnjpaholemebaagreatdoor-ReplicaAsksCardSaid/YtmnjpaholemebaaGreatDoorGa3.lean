/-
  ReplicaAsks: a closed fact of the row: the cell recurses
-/
import Derived.Test.YtmnjpaholemebaaGreatDoorRows
namespace Go.Proofs.YtmnjpaholemebaaGreatDoor
theorem replicaAsksFact3 : (Rows.replicaAsksRow.recurses == Tryz.prog.recurses 5) = true := by kernel_rfl
end Go.Proofs.YtmnjpaholemebaaGreatDoor
