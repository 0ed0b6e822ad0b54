/-
  A closed fact of the card: the cell goes.
-/
import Derived.Test.YtmnjpaholemebaaGreatDoorRows
import Derived.SevenTiedAt
namespace Go.Proofs.YtmnjpaholemebaaGreatDoor
theorem fact6 : false = Rows.replicaHaltsRow.goesBy Tryz.pinned.checked.prog := by kernel_rfl
end Go.Proofs.YtmnjpaholemebaaGreatDoor
