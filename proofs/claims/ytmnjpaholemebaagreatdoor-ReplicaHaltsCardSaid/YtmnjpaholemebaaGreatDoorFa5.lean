/-
  All closed facts of the row together.
-/
import Derived.Test.YtmnjpaholemebaaGreatDoorRows
import Derived.JoinedOf
import Derived.Test.YtmnjpaholemebaaGreatDoorFa1
import Derived.Test.YtmnjpaholemebaaGreatDoorFa2
import Derived.Test.YtmnjpaholemebaaGreatDoorFa3
import Derived.Test.YtmnjpaholemebaaGreatDoorFa4
namespace Go.Proofs.YtmnjpaholemebaaGreatDoor
theorem facts : joinedFacts Tryz.prog 7 Tryz.f7 Rows.replicaHaltsSpec Rows.replicaHaltsRow = true := by
  unfold joinedFacts
  rw [fact1, fact2, fact3, fact4]
  simp only [Bool.and_true]
  kernel_rfl
end Go.Proofs.YtmnjpaholemebaaGreatDoor
