/-
  ReplicaAsks: a round.
-/
import Derived.Test.YtmnjpaholemebaaGreatDoorAs
namespace Go.PE.As
open Go Go.Proofs
theorem run_true : topE Tryz.prog hk 1000000 tab Tryz.f5 body5 args H0 (fun v _ => isTrueA v) = true := by decide +kernel
theorem c0 : lall chk (few 0) = true := by decide +kernel
end Go.PE.As
