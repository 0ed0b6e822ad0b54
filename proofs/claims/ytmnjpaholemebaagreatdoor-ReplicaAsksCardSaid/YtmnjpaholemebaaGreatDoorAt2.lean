/-
  ReplicaAsks: round 2.
-/
import Derived.Test.YtmnjpaholemebaaGreatDoorAs
namespace Go.PE.As
open Go Go.Proofs
theorem qf2 : lall chk (few 2) = true := by decide +kernel
theorem qo2 : lall chk (ones 2) = true := by decide +kernel
theorem qt2 : lall chk (twos 2) = true := by decide +kernel
end Go.PE.As
