/-
  DERIVED. GIVEN WITH THE SEED: THE CARDS: each row of YtmnjpaholemebaaGreatDoorRows.lean that lists a variable, with what it lists TIED to the program's text (the seventh form; the later family's looks); each row that meets fmt, with fmt's text TOLD by the authors' own Lean function (tested against real Go, not proved from fmt's source: count such statements apart). THE CARD IS WHAT COUNTS. Prove the row's statement (the work); the ties are given (YtmnjpaholemebaaGreatDoorTie.lean); close each card by the builder's one call (the guide's Derived/Test/ToyasCard.lean, 'card_holds'). Laid BY PROGRAM, IN A SANDBOX (cutbox-door.mjs). By AI agents, Wed Nov 11 2026. No macro, syntax, notation, axiom, sorry.
-/
import Derived.Test.YtmnjpaholemebaaGreatDoorRows
import GoSem.ClaimSeven
namespace Go.Proofs.YtmnjpaholemebaaGreatDoor
namespace Rows

/-- THE TIED CARD OF 'palisadelaw20.ReplicaStranger'. -/
def replicaStrangerCard : Claim7 := { stood := { row := replicaStrangerRow, standIns := [], harness := (true, "9423c89f3caed49a557d5ab116b2a0cb898eae2acc5df3f11e40d6a8b6bf03dc"), looks := false }, kinds := [], alts := [], laidByText := true, laidKinds := [.data, .data, .data], laidTests := true, laidLooks := .later }
def ReplicaStrangerCardSaid : Prop := Claim7.holds Tryz.pinned (.plain (OpenSpec.ofChange replicaStrangerSpec)) replicaStrangerCard

/-- THE TIED CARD OF 'palisadelaw20.ReplicaRecovers'. -/
def replicaRecoversCard : Claim7 := { stood := { row := replicaRecoversRow, standIns := [], harness := (true, "9423c89f3caed49a557d5ab116b2a0cb898eae2acc5df3f11e40d6a8b6bf03dc"), looks := false }, kinds := [], alts := [], laidByText := true, laidKinds := [.data, .data, .data], laidTests := true, laidLooks := .later }
def ReplicaRecoversCardSaid : Prop := Claim7.holds Tryz.pinned (.plain (OpenSpec.ofChange replicaRecoversSpec)) replicaRecoversCard

/-- THE TIED CARD OF 'palisadelaw20.ReplicaAsks'. -/
def replicaAsksCard : Claim7 := { stood := { row := replicaAsksRow, standIns := [], harness := (true, "9423c89f3caed49a557d5ab116b2a0cb898eae2acc5df3f11e40d6a8b6bf03dc"), looks := false }, kinds := [], alts := [], laidByText := true, laidKinds := [.data, .data, .data], laidTests := true, laidLooks := .later }
def ReplicaAsksCardSaid : Prop := Claim7.holds Tryz.pinned (.plain (OpenSpec.ofChange replicaAsksSpec)) replicaAsksCard

/-- THE TIED CARD OF 'palisadelaw20.ReplicaVotes'. -/
def replicaVotesCard : Claim7 := { stood := { row := replicaVotesRow, standIns := [], harness := (true, "9423c89f3caed49a557d5ab116b2a0cb898eae2acc5df3f11e40d6a8b6bf03dc"), looks := false }, kinds := [], alts := [], laidByText := true, laidKinds := [.data, .data, .data], laidTests := true, laidLooks := .later }
def ReplicaVotesCardSaid : Prop := Claim7.holds Tryz.pinned (.plain (OpenSpec.ofChange replicaVotesSpec)) replicaVotesCard

/-- THE TIED CARD OF 'palisadelaw20.ReplicaHalts'. -/
def replicaHaltsCard : Claim7 := { stood := { row := replicaHaltsRow, standIns := [], harness := (true, "9423c89f3caed49a557d5ab116b2a0cb898eae2acc5df3f11e40d6a8b6bf03dc"), looks := false }, kinds := [], alts := [], laidByText := true, laidKinds := [.data, .data, .data], laidTests := true, laidLooks := .later }
def ReplicaHaltsCardSaid : Prop := Claim7.holds Tryz.pinned (.plain (OpenSpec.ofChange replicaHaltsSpec)) replicaHaltsCard

/-- THE SECOND FORM's CARD OF 'palisadelaw20.ReplicaStranger'. -/
def replicaStrangerUptoCard : Claim7 := { stood := { row := replicaStrangerUptoRow, standIns := [], harness := (true, "9423c89f3caed49a557d5ab116b2a0cb898eae2acc5df3f11e40d6a8b6bf03dc"), looks := false }, kinds := [], alts := [], laidByText := true, laidKinds := [.data, .data, .data], laidTests := true, laidLooks := .later }
def ReplicaStrangerUptoCardSaid : Prop := Claim7.holds Tryz.pinned (.plain (OpenSpec.upto replicaStrangerSpec)) replicaStrangerUptoCard

/-- THE SECOND FORM's CARD OF 'palisadelaw20.ReplicaRecovers'. -/
def replicaRecoversUptoCard : Claim7 := { stood := { row := replicaRecoversUptoRow, standIns := [], harness := (true, "9423c89f3caed49a557d5ab116b2a0cb898eae2acc5df3f11e40d6a8b6bf03dc"), looks := false }, kinds := [], alts := [], laidByText := true, laidKinds := [.data, .data, .data], laidTests := true, laidLooks := .later }
def ReplicaRecoversUptoCardSaid : Prop := Claim7.holds Tryz.pinned (.plain (OpenSpec.upto replicaRecoversSpec)) replicaRecoversUptoCard

/-- THE SECOND FORM's CARD OF 'palisadelaw20.ReplicaAsks'. -/
def replicaAsksUptoCard : Claim7 := { stood := { row := replicaAsksUptoRow, standIns := [], harness := (true, "9423c89f3caed49a557d5ab116b2a0cb898eae2acc5df3f11e40d6a8b6bf03dc"), looks := false }, kinds := [], alts := [], laidByText := true, laidKinds := [.data, .data, .data], laidTests := true, laidLooks := .later }
def ReplicaAsksUptoCardSaid : Prop := Claim7.holds Tryz.pinned (.plain (OpenSpec.upto replicaAsksSpec)) replicaAsksUptoCard

/-- THE SECOND FORM's CARD OF 'palisadelaw20.ReplicaVotes'. -/
def replicaVotesUptoCard : Claim7 := { stood := { row := replicaVotesUptoRow, standIns := [], harness := (true, "9423c89f3caed49a557d5ab116b2a0cb898eae2acc5df3f11e40d6a8b6bf03dc"), looks := false }, kinds := [], alts := [], laidByText := true, laidKinds := [.data, .data, .data], laidTests := true, laidLooks := .later }
def ReplicaVotesUptoCardSaid : Prop := Claim7.holds Tryz.pinned (.plain (OpenSpec.upto replicaVotesSpec)) replicaVotesUptoCard

/-- THE SECOND FORM's CARD OF 'palisadelaw20.ReplicaHalts'. -/
def replicaHaltsUptoCard : Claim7 := { stood := { row := replicaHaltsUptoRow, standIns := [], harness := (true, "9423c89f3caed49a557d5ab116b2a0cb898eae2acc5df3f11e40d6a8b6bf03dc"), looks := false }, kinds := [], alts := [], laidByText := true, laidKinds := [.data, .data, .data], laidTests := true, laidLooks := .later }
def ReplicaHaltsUptoCardSaid : Prop := Claim7.holds Tryz.pinned (.plain (OpenSpec.upto replicaHaltsSpec)) replicaHaltsUptoCard
end Rows
end Go.Proofs.YtmnjpaholemebaaGreatDoor
