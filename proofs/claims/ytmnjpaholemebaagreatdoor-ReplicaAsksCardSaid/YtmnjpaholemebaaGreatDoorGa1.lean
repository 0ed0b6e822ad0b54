/-
  ReplicaAsks: a closed fact of the row: the cell inPlace
-/
import Derived.Test.YtmnjpaholemebaaGreatDoorRows
namespace Go.Proofs.YtmnjpaholemebaaGreatDoor
theorem replicaAsksFact1 : (Rows.replicaAsksRow.inPlace == Tryz.prog.inPlace 5) = true := by kernel_rfl
end Go.Proofs.YtmnjpaholemebaaGreatDoor
