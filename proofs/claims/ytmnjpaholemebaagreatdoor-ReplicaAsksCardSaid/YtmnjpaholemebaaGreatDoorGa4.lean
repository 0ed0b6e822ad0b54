/-
  ReplicaAsks: a closed fact of the row: the cell named
-/
import Derived.Test.YtmnjpaholemebaaGreatDoorRows
namespace Go.Proofs.YtmnjpaholemebaaGreatDoor
theorem replicaAsksFact4 : (Rows.replicaAsksRow.named == Tryz.prog.varsNamed 5) = true := by kernel_rfl
end Go.Proofs.YtmnjpaholemebaaGreatDoor
