/-
  ReplicaAsks: a closed fact of the row: the cell unfollowed
-/
import Derived.Test.YtmnjpaholemebaaGreatDoorRows
namespace Go.Proofs.YtmnjpaholemebaaGreatDoor
theorem replicaAsksFact2 : (Rows.replicaAsksRow.unfollowed == Tryz.prog.unfollowed 5) = true := by kernel_rfl
end Go.Proofs.YtmnjpaholemebaaGreatDoor
