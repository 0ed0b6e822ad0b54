/-
  ReplicaAsks: a closed fact of the card: the cell goes
-/
import Derived.Test.YtmnjpaholemebaaGreatDoorRows
import Derived.SevenTiedAt
namespace Go.Proofs.YtmnjpaholemebaaGreatDoor
theorem replicaAsksFact6 : false = Rows.replicaAsksRow.goesBy Tryz.pinned.checked.prog := by kernel_rfl
end Go.Proofs.YtmnjpaholemebaaGreatDoor
