/-
  ReplicaAsks is run by the kernel: what holds at each round's head; the rounds, one by one.
-/
import Derived.Test.YtmnjpaholemebaaGreatDoorE25
import Derived.Test.YtmnjpaholemebaaGreatDoorProg
namespace Go.PE.As
open Go Go.Proofs
noncomputable def FT : T Func := T.build Tryz.prog.funcs.toList
noncomputable def hasK (f : Nat) : Bool := Nat.beq f 8
noncomputable def smK : CF := fun f args A k => cond (Nat.beq f 8) (match args with | [] => k (.bool true) A | _ => false) false
noncomputable def hk : HK := hkF Tryz.prog FT hasK smK 1000000 1000
noncomputable def u8s (n : Nat) : AV := .symi .u8 (Sy.plain n 0 255 0)
noncomputable def who : List AV := lmap u8s [0, 1, 2, 3, 4, 5]
noncomputable def seqs : List AV := lmap u8s [6, 7, 8, 9, 10, 11]
noncomputable def args : List AV := [.agg who, .agg seqs, u8s 12]
noncomputable def one (c : List AV) : AObj := .cells (llen c) 1 (mkT [(0, c)])
noncomputable def rep (n : Nat) (v : AV) : List AV := Nat.rec (motive := fun _ => List AV) [] (fun _ ih => v :: ih) n
noncomputable def vote0 : List AV := [.int .u8 0, .int .u8 0, .int .u32 0, .int .u32 0, .nilslice, .nilslice, .nilslice]
noncomputable def seqOf (b : Bool) (f : Nat) : AV := cond b (.symi .u32 ⟨Nat.add 1000 f, 0, 28, 0, 0, 0, 1, 1, 0⟩) (.int .u32 0)
noncomputable def band (a b : Bool) : Bool := cond a b false
/-- The state ahead of round i: who has told something. -/
noncomputable def st (i : Nat) (t0 t2 t3 : Bool) (n : Nat) : St := {
  fr := [(2, u8s 12), (3, .ptr 0 0), (4, .ptr 15 0), (6, .bool false), (7, .ptr 1 0), (8, .ptr 16 0), (9, .int .i64 (.ofNat n)), (10, .int .i64 (.ofNat i))]
  ob := [(0, one who), (15, one seqs), (16, one [.bool t0, .bool false, .bool t2, .bool t3]),
    (1, one [.ptr 2 0, .int .i64 (cond (band t0 (band t2 t3)) 4 3), .int .u32 0, .int .u32 0, .int .u32 0, .ptr 3 0, .ptr 4 0, .ptr 6 0, .ptr 9 0, .ptr 11 0, .ptr 12 0, .int .u32 0, .int .i64 0, .nilslice, .nilslice, .ptr 14 0,
      cond (band t0 (band t2 t3)) (.symi .u32 ⟨1009, 8, 36, 0, 0, 0, 1, 1, 0⟩) (.int .u32 0), .nilptr, .int .i64 0, .bool false, .nilptr, .nilslice, .nilslice]),
    (2, one [.int .u8 1, .int .u8 2, .int .u32 0, .int .u8 1, .int .u8 1, .int .u8 1, .int .u8 1, .bool false]),
    (3, one (lapp (rep 64 (.int .u16 0)) (rep 10 (.int .u32 0)))),
    (4, one [.int .u32 0, .map 5]), (5, .map [] 0),
    (6, one [.map 7, .map 8]), (7, .map [] 0), (8, .map [] 0),
    (9, one [.map 10]), (10, .map [] 0),
    (11, one (lapp vote0 (lapp vote0 (lapp vote0 vote0)))),
    (12, one [.map 13, .int .u64 0]), (13, .map [] 0),
    (14, one [.int .u8 1, .int .u8 2, .bool t0, seqOf t0 0, .bool false, .int .u32 0, .bool t2, seqOf t2 2, .bool t3, seqOf t3 3])] }
noncomputable def al (i : Nat) (t0 t2 t3 : Bool) (n : Nat) : Alt := ⟨i, i, [(i, i)], fun _ _ => st i t0 t2 t3 n⟩
noncomputable def few (i : Nat) : List Alt := [al i false false false 0]
noncomputable def ones (i : Nat) : List Alt := [al i true false false 1, al i false true false 1, al i false false true 1]
noncomputable def twos (i : Nat) : List Alt := [al i true true false 2, al i true false true 2, al i false true true 2]
noncomputable def alls (i : Nat) : List Alt := [al i true true true 3]
noncomputable def upTo (i : Nat) : List Alt := lapp (few i) (lapp (ones i) (lapp (twos i) (alls i)))
noncomputable def li : LI := { σ := 900, ti := 10, top := 7, next := 17, alts := lapp (few 0) (lapp (lapp (few 1) (ones 1)) (lapp (lapp (few 2) (lapp (ones 2) (twos 2))) (lapp (upTo 3) (lapp (upTo 4) (lapp (upTo 5) (upTo 6)))))) }
noncomputable def body5 : Code := match Tryz.f5.body with | some c => c | none => .skip
noncomputable def tab : List (Nat × LI) := [(8, li)]
noncomputable def loops5 : List (Code × KX × KN) := topLoops Tryz.prog hk 1000000 tab Tryz.f5 body5 (fun v _ => isTrueA v)
noncomputable def t5 : Code × KX × KN := match loops5 with | t :: _ => t | [] => (.skip, fun _ _ _ => false, fun _ _ => false)
noncomputable def chk (al : Alt) : Bool := lall (bodyChk Tryz.prog hk Tryz.f5.ntmps rfNo (loopK Tryz.prog hk Tryz.f5.ntmps rfNo 1000000) li t5.1 t5.2.1 t5.2.2 al) al.splits
theorem lall_lapp {α : Type} {p : α → Bool} {a b : List α} (ha : lall p a = true) (hb : lall p b = true) : lall p (lapp a b) = true := by
  induction a with
  | nil => exact hb
  | cons x a ih =>
    have h : cond (p x) (lall p a) false = true := ha
    obtain ⟨h1, h2⟩ := cs' h
    show cond (p x) (lall p (lapp a b)) false = true
    rw [h1, ih h2]; rfl
end Go.PE.As
