/-
  The row of ReplicaHalts holds.
-/
import Derived.Test.YtmnjpaholemebaaGreatDoorR1
import Derived.Test.YtmnjpaholemebaaGreatDoorFa5
namespace Go.Proofs.YtmnjpaholemebaaGreatDoor
theorem halts_holds : Rows.ReplicaHaltsSaid :=
  OpenClaim.holds_of_wide 7 Tryz.f7 rfl rfl rfl rfl rfl rfl rfl ⟨rfl, rfl, rfl, rfl, rfl⟩ rfl rfl rfl rfl rfl (by kernel_rfl) Tryz.func7 facts
    (of_decide_eq_true (by kernel_rfl)) (by unfold Func.isWrapper; first | (rw [if_pos (by decide +kernel)]; kernel_rfl) | (rw [if_neg (by decide +kernel)]; exact ⟨rfl, rfl⟩))
    (fun os started H enc _ => lifted os started H enc)
end Go.Proofs.YtmnjpaholemebaaGreatDoor
