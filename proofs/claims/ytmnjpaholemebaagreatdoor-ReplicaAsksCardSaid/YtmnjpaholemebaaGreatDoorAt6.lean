/-
  ReplicaAsks: round 6.
-/
import Derived.Test.YtmnjpaholemebaaGreatDoorAs
namespace Go.PE.As
open Go Go.Proofs
theorem qf6 : lall chk (few 6) = true := by decide +kernel
theorem qo6 : lall chk (ones 6) = true := by decide +kernel
theorem qt6 : lall chk (twos 6) = true := by decide +kernel
theorem qa6 : lall chk (alls 6) = true := by decide +kernel
end Go.PE.As
