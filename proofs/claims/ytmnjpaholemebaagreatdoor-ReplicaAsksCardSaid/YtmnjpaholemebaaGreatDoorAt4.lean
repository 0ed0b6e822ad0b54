/-
  ReplicaAsks: round 4.
-/
import Derived.Test.YtmnjpaholemebaaGreatDoorAs
namespace Go.PE.As
open Go Go.Proofs
theorem qf4 : lall chk (few 4) = true := by decide +kernel
theorem qo4 : lall chk (ones 4) = true := by decide +kernel
theorem qt4 : lall chk (twos 4) = true := by decide +kernel
theorem qa4 : lall chk (alls 4) = true := by decide +kernel
end Go.PE.As
