/-
  The row of ReplicaAsks holds.
-/
import Derived.Test.YtmnjpaholemebaaGreatDoorRa1
import Derived.Test.YtmnjpaholemebaaGreatDoorGa5
namespace Go.Proofs.YtmnjpaholemebaaGreatDoor
theorem replicaAsksHolds : Rows.ReplicaAsksSaid :=
  OpenClaim.holds_of_wide 5 Tryz.f5 rfl rfl rfl rfl rfl rfl rfl ⟨rfl, rfl, rfl, rfl, rfl⟩ rfl rfl rfl rfl rfl (by kernel_rfl) Tryz.func5 replicaAsksFacts
    (of_decide_eq_true (by kernel_rfl)) (by unfold Func.isWrapper; first | (rw [if_pos (by decide +kernel)]; kernel_rfl) | (rw [if_neg (by decide +kernel)]; exact ⟨rfl, rfl⟩))
    (fun os started H enc _ => replicaAsksLifted os started H enc)
end Go.Proofs.YtmnjpaholemebaaGreatDoor
