/-
  palisadelaw20.known answers true in every world; what was there is as it was.
-/
import Derived.Test.YtmnjpaholemebaaGreatDoorE25
import Derived.Test.YtmnjpaholemebaaGreatDoorProg
namespace Go.PE.Kn
open Go Go.Proofs Go.RowKit
noncomputable def FT : T Func := T.build Tryz.prog.funcs.toList
noncomputable def sm0 : CF := fun _ _ _ _ => false
theorem wf : PWF Tryz.prog := ⟨by kernel_rfl, by
  intro f fn h
  have hall : Tryz.prog.funcs.toList.all (fun fn => !(fn.name == "runtime.NumGoroutine")) = true := by kernel_rfl
  have := List.all_eq_true.1 hall fn (by rw [← Array.getElem?_toList] at h; exact List.mem_of_getElem? h)
  simpa using this⟩
theorem ft : ∀ f fn, FT.get f = some fn → Tryz.prog.funcs[f]? = some fn := build_funcs Tryz.prog
theorem sm0_ok (am : Unit → Amb) : @CallOk (am ()) Tryz.prog sm0 := fun _ _ _ _ h => by cases h
noncomputable def cfK : CF := callF Tryz.prog FT (fun _ => false) sm0 1000000 1000
theorem known_run : cfK 8 [] H0 (fun v _ => eqV 1 v (.bool true)) = true := by decide +kernel
theorem known_any (W : World) : (∃ fn : Func, Tryz.prog.funcs[8]? = some fn ∧ fn.body.isNone = false) ∧ Calls Tryz.prog 8 #[] W fun e W' => e = .returned (.bool true) ∧ Below W.heap.size W W' :=
  frame_call (fun am => letI := am (); callF_sound wf ft (sm0_ok am)) known_run W
end Go.PE.Kn
