/-
  The tied card of ReplicaAsks holds: whatever who, seqs and old, the law returns true. Conditions: none but those of the given row.
-/
import Derived.Test.YtmnjpaholemebaaGreatDoorRa2
import Derived.Test.YtmnjpaholemebaaGreatDoorGa6
import Derived.Test.YtmnjpaholemebaaGreatDoorGa7
import Derived.Test.YtmnjpaholemebaaGreatDoorTie
import Derived.Test.YtmnjpaholemebaaGreatDoorCards
namespace Go.Proofs.YtmnjpaholemebaaGreatDoor
theorem asks_card_holds : Rows.ReplicaAsksCardSaid :=
  Claim7.holds_tied_plain_at .later [] [.data, .data, .data] true Rows.replicaAsksCard.stood.harness false
    replicaAsksHolds (fun _ h => by cases h) replicaAsksFact9 (fun _ h => by cases h) replicaAsks_row_tie rfl ⟨rfl, rfl⟩ replicaAsksFact7 rfl
    (fun f fn hf hfn => by
      obtain rfl : f = 5 := Option.some.inj ((show Tryz.prog.funcNamed "palisade/palisadelaw20.ReplicaAsks" = some 5 by kernel_rfl).symm.trans hf) |>.symm
      obtain rfl : fn = Tryz.f5 := (Option.some.inj (Tryz.func5.symm.trans hfn)).symm
      exact ⟨replicaAsksFact8, fun j t ht => by
        rw [Tryz.params5] at ht
        have hm : t ∈ [72, 72, 5] := by simpa using Array.mem_of_getElem? ht
        have hall : ([72, 72, 5].all fun u => !Tryz.prog.wantsStandIn u) = true := by kernel_rfl
        exact (show Tryz.prog.wantsStandIn t = false by simpa using List.all_eq_true.1 hall t hm)⟩)
    replicaAsksFact6
#print axioms asks_card_holds
end Go.Proofs.YtmnjpaholemebaaGreatDoor
