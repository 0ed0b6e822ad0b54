/-
  ReplicaAsks: all closed facts of the row together
-/
import Derived.Test.YtmnjpaholemebaaGreatDoorRows
import Derived.JoinedOf
import Derived.Test.YtmnjpaholemebaaGreatDoorGa1
import Derived.Test.YtmnjpaholemebaaGreatDoorGa2
import Derived.Test.YtmnjpaholemebaaGreatDoorGa3
import Derived.Test.YtmnjpaholemebaaGreatDoorGa4
namespace Go.Proofs.YtmnjpaholemebaaGreatDoor
theorem replicaAsksFacts : joinedFacts Tryz.prog 5 Tryz.f5 Rows.replicaAsksSpec Rows.replicaAsksRow = true := by
  unfold joinedFacts
  rw [replicaAsksFact1, replicaAsksFact2, replicaAsksFact3, replicaAsksFact4]
  simp only [Bool.and_true]
  kernel_rfl
end Go.Proofs.YtmnjpaholemebaaGreatDoor
