/-
  ReplicaAsks: round 1.
-/
import Derived.Test.YtmnjpaholemebaaGreatDoorAs
namespace Go.PE.As
open Go Go.Proofs
theorem qf1 : lall chk (few 1) = true := by decide +kernel
theorem qo1 : lall chk (ones 1) = true := by decide +kernel
end Go.PE.As
