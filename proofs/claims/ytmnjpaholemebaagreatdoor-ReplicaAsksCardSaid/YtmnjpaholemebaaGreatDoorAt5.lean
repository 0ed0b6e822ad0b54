/-
  ReplicaAsks: round 5.
-/
import Derived.Test.YtmnjpaholemebaaGreatDoorAs
namespace Go.PE.As
open Go Go.Proofs
theorem qf5 : lall chk (few 5) = true := by decide +kernel
theorem qo5 : lall chk (ones 5) = true := by decide +kernel
theorem qt5 : lall chk (twos 5) = true := by decide +kernel
theorem qa5 : lall chk (alls 5) = true := by decide +kernel
end Go.PE.As
