/-
  THE ENGINE, 24: contracts that leave what was there as it was.
-/
import Derived.Test.YtmnjpaholemebaaGreatDoorE23
namespace Go.PE
open Go Go.RowKit
section
variable {P : Program} {E : Env} {A : AH} {W W' : World} {k : AV → AH → Bool}

theorem Rel.below [Amb] (hr : Rel E A W) (hb : Below W.heap.size W W') : Rel E A W' where
  obj := fun i o x hi hx => by
    obtain ⟨b, h1, h2⟩ := hr.obj i o x hi hx
    exact ⟨b, by rw [hb.block _ (hr.bound i x hx)]; exact h1, h2⟩
  inj := hr.inj
  fresh := hr.fresh
  dead := hr.dead
  bound := fun i x hx => Nat.lt_of_lt_of_le (hr.bound i x hx) hb.size
  amb := ⟨Nat.le_trans hr.amb.1 hb.size, fun k hk => by rw [hb.block k (Nat.lt_of_lt_of_le hk hr.amb.1)]; exact hr.amb.2.1 k hk, hr.amb.2.2⟩
  names := hr.names
theorem Step.below [Amb] (hr : Rel E A W) (hb : Below W.heap.size W W') : Step E A W E A W' where
  le := .refl E
  os := hb.os
  tape := hb.tape
  output := hb.output
  size := hb.size
  frame := fun k hk _ => hb.block k hk
  img := fun i x hx _ => ⟨i, x, hx, rfl⟩
  next := Nat.le_refl _
  ghost := fun _ _ h => ⟨h, rfl⟩

theorem Post.below [Amb] (hr : Rel E A W) (hb : Below W.heap.size W W') {av : AV} {v : Value} (hk : k av A = true) (hv : conc E av = some v) : Post E A W k v W' :=
  ⟨av, A, E, hk, hv, hr.below hb, Step.below hr hb⟩
end

/-- A call that was run once, out of nothing, answers so out of any world. -/
theorem frame_call {P : Program} {cf : CF} (hcf : ∀ am : Unit → Amb, @CallOk (am ()) P cf) {f : FuncId} {b : Bool} (h : cf f [] H0 (fun v _ => eqV 1 v (.bool b)) = true) (W : World) :
    (∃ fn : Func, P.funcs[f]? = some fn ∧ fn.body.isNone = false) ∧ Calls P f #[] W fun e W' => e = .returned (.bool b) ∧ Below W.heap.size W W' := by
  let am := amOf W (fun _ => 0) (fun _ => undef)
  obtain ⟨h1, h2⟩ := hcf am f [] H0 _ h (E0 (fun _ => 0) (fun _ => undef)) W [] (rel0 W _ _) rfl
  refine ⟨h1, h2.mono fun e W' ⟨v, he, av, A', E', k1, k2, k3, k4⟩ => ?_⟩
  letI := am ()
  have := eqV_eq _ _ _ k1
  subst this
  simp only [conc, Option.some.injEq] at k2
  subst k2
  refine ⟨he, k4.os, k4.tape, k4.output, k4.size, fun k hk => ?_⟩
  exact k4.frame k hk (fun i x hx => by cases hx)
end Go.PE
