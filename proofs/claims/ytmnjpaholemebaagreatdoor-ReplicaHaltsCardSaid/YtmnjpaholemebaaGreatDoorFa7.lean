/-
  Closed facts of the card: the harness, the looks, the form.
-/
import Derived.Test.YtmnjpaholemebaaGreatDoorCards
import Derived.SevenTiedAt
namespace Go.Proofs.YtmnjpaholemebaaGreatDoor
theorem fact7 : Tryz.pinned.checked.prog.mainIs = some (Rows.replicaHaltsCard.stood.harness.1, Rows.replicaHaltsCard.stood.harness.2.toList) := by kernel_rfl
theorem fact8 : false = Tryz.pinned.checked.prog.looks [] := by kernel_rfl
theorem fact9 : Rows.replicaHaltsRow.wfByText (OpenSpec.ofChange Rows.replicaHaltsSpec) = true := by kernel_rfl
end Go.Proofs.YtmnjpaholemebaaGreatDoor
