/-
  ReplicaAsks: round 3.
-/
import Derived.Test.YtmnjpaholemebaaGreatDoorAs
namespace Go.PE.As
open Go Go.Proofs
theorem qf3 : lall chk (few 3) = true := by decide +kernel
theorem qo3 : lall chk (ones 3) = true := by decide +kernel
theorem qt3 : lall chk (twos 3) = true := by decide +kernel
theorem qa3 : lall chk (alls 3) = true := by decide +kernel
end Go.PE.As
