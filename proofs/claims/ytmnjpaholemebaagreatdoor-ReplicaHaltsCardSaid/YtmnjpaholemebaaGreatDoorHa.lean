/-
  ReplicaHalts is run by the kernel, for every number of reboots and every message: it answers true, as long as known() does and palisadehelp.Msg answers something.
-/
import Derived.Test.YtmnjpaholemebaaGreatDoorE24
import Derived.Test.YtmnjpaholemebaaGreatDoorProg
namespace Go.PE.Ha
open Go Go.Proofs
noncomputable def FT : T Func := T.build Tryz.prog.funcs.toList
noncomputable def sm0 : CF := fun _ _ _ _ => false
noncomputable def ms : List AV := lmap AV.symv [0,1,2,3,4,5,6,7,8,9,10,11,12,13,14,15,16,17,18,19,20,21,22,23,24]
noncomputable def hasH (f : Nat) : Bool := cond (Nat.beq f 8) true (Nat.beq f 12)
noncomputable def smH : CF := fun f args A k => cond (Nat.beq f 8) (match args with | [] => k (.bool true) A | _ => false) (cond (Nat.beq f 12) (match args with | [a] => cond (eqV 3 a (.agg ms)) (cond (k (.bool true) A) (k (.bool false) A) false) false | _ => false) false)
noncomputable def hk : HK := hkF Tryz.prog FT hasH smH 1000000 1000
noncomputable def args : List AV := [.symi .u8 ⟨0, 0, 255, 0, 0, 0⟩, .agg ms]
noncomputable def one (c : List AV) : AObj := .cells (llen c) 1 (mkT [(0, c)])
noncomputable def rep (n : Nat) (v : AV) : List AV := Nat.rec (motive := fun _ => List AV) [] (fun _ ih => v :: ih) n
noncomputable def vote0 : List AV := [.int .u8 0, .int .u8 0, .int .u32 0, .int .u32 0, .nilslice, .nilslice, .nilslice]
/-- The state behind so many reboots: the epoch, the mode, whether the coprocessor has halted. -/
noncomputable def st (ep : AV) (mode : Int) (snaps : AV) (more : List (Nat × AObj)) (halted : Bool) (i : AV) : St := {
  fr := [(0, .symi .u8 ⟨0, 0, 255, 0, 0, 0⟩), (3, .ptr 0 0), (4, .bool false), (5, .ptr 1 0), (6, i)]
  ob := lapp [(0, one ms),
    (1, one [.ptr 2 0, .int .i64 mode, .int .u32 0, .int .u32 0, .int .u32 0, .ptr 3 0, .ptr 4 0, .ptr 6 0, .ptr 9 0, .ptr 11 0, .ptr 12 0, .int .u32 0, .int .i64 0, snaps, .nilslice, .ptr 14 0, .int .u32 0, .nilptr, .int .i64 0, .bool false, .nilptr, .nilslice, .nilslice]),
    (2, one [.int .u8 2, ep, .int .u32 0, .int .u8 1, .int .u8 1, .int .u8 1, .int .u8 1, .bool halted]),
    (3, one (lapp (rep 64 (.int .u16 0)) (rep 10 (.int .u32 0)))),
    (4, one [.int .u32 0, .map 5]), (5, .map [] 0),
    (6, one [.map 7, .map 8]), (7, .map [] 0), (8, .map [] 0),
    (9, one [.map 10]), (10, .map [] 0),
    (11, one (lapp vote0 (lapp vote0 (lapp vote0 vote0)))),
    (12, one [.map 13, .int .u64 0]), (13, .map [] 0),
    (14, one [.int .u8 2, ep, .bool false, .int .u32 0, .bool false, .int .u32 0, .bool false, .int .u32 0, .bool false, .int .u32 0])] more }
noncomputable def page : AObj := one (lapp (rep 64 (.int .u16 0)) (rep 10 (.int .u32 0)))
noncomputable def li : LI := { σ := 1, ti := 6, top := 256, next := 17, alts := [
  ⟨0, 0, [(0, 0)], fun lo hi => st (.symi .u8 ⟨1, lo, hi, 0, 0, 1⟩) 1 (.slice 15 0 1 (.exact 1)) [(15, one [.int .u32 0, .int .u64 17234743169826160566, .ptr 16 0]), (16, page)] false (.symi .i64 ⟨1, lo, hi, 0, 0, 0⟩)⟩,
  ⟨1, 199, [(1, 198), (199, 199)], fun lo hi => st (.symi .u8 ⟨1, lo, hi, 0, 0, 1⟩) 3 .nilslice [] false (.symi .i64 ⟨1, lo, hi, 0, 0, 0⟩)⟩,
  ⟨200, 256, [(200, 254), (255, 256)], fun lo hi => st (.int .u8 200) 6 .nilslice [] true (.symi .i64 ⟨1, lo, hi, 0, 0, 0⟩)⟩] }
noncomputable def fn7 : Option Func := FT.get 7
noncomputable def runH : Bool := match FT.get 7 with
  | some fn => (match fn.body with
    | some c => topF Tryz.prog hk 1000000 [(7, li)] fn c args H0 (fun v _ => isTrueA v)
    | none => false)
  | none => false
theorem runH_true : runH = true := by decide +kernel
end Go.PE.Ha
