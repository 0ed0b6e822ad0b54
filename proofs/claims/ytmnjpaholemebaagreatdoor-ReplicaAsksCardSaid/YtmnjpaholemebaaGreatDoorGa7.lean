/-
  ReplicaAsks: closed facts of the card: the harness, the looks, the form
-/
import Derived.Test.YtmnjpaholemebaaGreatDoorCards
import Derived.SevenTiedAt
namespace Go.Proofs.YtmnjpaholemebaaGreatDoor
theorem replicaAsksFact7 : Tryz.pinned.checked.prog.mainIs = some (Rows.replicaAsksCard.stood.harness.1, Rows.replicaAsksCard.stood.harness.2.toList) := by kernel_rfl
theorem replicaAsksFact8 : false = Tryz.pinned.checked.prog.looks [] := by kernel_rfl
theorem replicaAsksFact9 : Rows.replicaAsksRow.wfByText (OpenSpec.ofChange Rows.replicaAsksSpec) = true := by kernel_rfl
end Go.Proofs.YtmnjpaholemebaaGreatDoor
