/-
  The tied card of ReplicaHalts holds: whatever n and m, the law returns true. Conditions: none but those of the given row.
-/
import Derived.Test.YtmnjpaholemebaaGreatDoorR2
import Derived.Test.YtmnjpaholemebaaGreatDoorFa6
import Derived.Test.YtmnjpaholemebaaGreatDoorFa7
import Derived.Test.YtmnjpaholemebaaGreatDoorTie
import Derived.Test.YtmnjpaholemebaaGreatDoorCards
namespace Go.Proofs.YtmnjpaholemebaaGreatDoor
theorem halts_card_holds : Rows.ReplicaHaltsCardSaid :=
  Claim7.holds_tied_plain_at .later [] [.data, .data, .data] true Rows.replicaHaltsCard.stood.harness false
    halts_holds (fun _ h => by cases h) fact9 (fun _ h => by cases h) replicaHalts_row_tie rfl ⟨rfl, rfl⟩ fact7 rfl
    (fun f fn hf hfn => by
      obtain rfl : f = 7 := Option.some.inj ((show Tryz.prog.funcNamed "palisade/palisadelaw20.ReplicaHalts" = some 7 by kernel_rfl).symm.trans hf) |>.symm
      obtain rfl : fn = Tryz.f7 := (Option.some.inj (Tryz.func7.symm.trans hfn)).symm
      exact ⟨fact8, fun j t ht => by
        rw [Tryz.params7] at ht
        have hm : t ∈ [5, 45] := by simpa using Array.mem_of_getElem? ht
        have hall : ([5, 45].all fun u => !Tryz.prog.wantsStandIn u) = true := by kernel_rfl
        exact (show Tryz.prog.wantsStandIn t = false by simpa using List.all_eq_true.1 hall t hm)⟩)
    fact6
#print axioms halts_card_holds
end Go.Proofs.YtmnjpaholemebaaGreatDoor
