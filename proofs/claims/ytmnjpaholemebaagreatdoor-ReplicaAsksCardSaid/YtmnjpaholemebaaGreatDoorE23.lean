/-
  THE ENGINE, 23: a call of a function at the top, out of any world: it answers true, and what was there is as it was.
-/
import Derived.Test.YtmnjpaholemebaaGreatDoorE22
namespace Go.PE
open Go

noncomputable def regId (c : Code) : Nat := Code.rec (motive := fun _ => Nat) 0 (fun id _ _ => id) (fun _ _ a _ => a) (fun _ _ _ a _ => a) (fun _ _ a => a) (fun _ a => a) (fun _ _ _ _ a _ => a) (fun _ => 0) (fun _ a => a) (fun _ => 0) (fun _ => 0) 0 (fun _ => 0) c
noncomputable def lpTab (P : Program) (cf : HK) (n : Nat) (rf : RF) (lp : LP) (tab : List (Nat × LI)) : LP := List.rec (motive := fun _ => LP) lp
  (fun p _ ih c F A kn kx kr => cond (Nat.beq (regId c) p.1) (lpInv P cf n rf lp p.2 c F A kn kx kr) (ih c F A kn kx kr)) tab

section
variable {P : Program} {cf : HK} {n : Nat} {rf : RF} {N : Nat} {M : Nat → Option Obj} {V : Nat → Value} {G : (Nat → Int) → Prop} {W0 : World}

theorem lpTab_sound (hw : PWF P) (hcf : CfT N M V P cf) (hrf : RfT N M V P n rf) {lp : LP} (hlp : ∀ G, LpT N M V G W0 P n lp) (hGu : ∀ σ (s s' : Nat → Int), (∀ nm, nm < 1000 → nm ≠ σ → s' nm = s nm) → G s → G s') : ∀ tab, LpT N M V G W0 P n (lpTab P cf n rf lp tab) := by
  intro tab
  induction tab with
  | nil => exact hlp G
  | cons p tab ih =>
    intro c am E A W F a kn kx kr hs hg hG hr hf h
    have h' : cond (Nat.beq (regId c) p.1) (lpInv P cf n rf lp p.2 c F A kn kx kr) (lpTab P cf n rf lp tab c F A kn kx kr) = true := h
    cases hb : Nat.beq (regId c) p.1 with
    | true => rw [hb, cond_true] at h'; exact lpInv_sound hw hcf hrf hlp p.2 (hGu _) c am E A W F a kn kx kr hs hg hG hr hf h'
    | false => rw [hb, cond_false] at h'; exact ih c am E A W F a kn kx kr hs hg hG hr hf h'

noncomputable def isTrueA (v : AV) : Bool := match v with
  | .bool b => b
  | _ => false
noncomputable def topF (P : Program) (cf : HK) (lf : Nat) (tab : List (Nat × LI)) (fn : Func) (c : Code) (args : List AV) (A : AH) (k : AV → AH → Bool) : Bool :=
  cond (Nat.ble (llen args) fn.ntmps) (codeK P cf fn.ntmps rfNo (lpTab P cf fn.ntmps rfNo (loopK P cf fn.ntmps rfNo lf) tab) c ⟨argF args 0 .e, []⟩ A (retK P fn.results.toList k) (fun _ _ _ => false) (retK P fn.results.toList k)) false

theorem topF_sound (hw : PWF P) {W : World} (hcf : CfT N M V P cf) {lf : Nat} {tab : List (Nat × LI)} {f : FuncId} {fn : Func} {c : Code} (hfn : P.funcs[f]? = some fn) (hb : fn.body = some c)
    {am : Unit → Amb} (hs : Same N M V (am ())) {E : Env} {A : AH} (hr : @Rel (am ()) E A W) {args : List AV} {args' : List Value} (hargs : concs E args = some args') {k : AV → AH → Bool} (h : topF P cf lf tab fn c args A k = true) :
    Calls P f args'.toArray W fun e W' => ∃ v, e = .returned v ∧ ∃ (am : Unit → Amb) (av : AV) (A' : AH) (E' : Env), k av A' = true ∧ conc E' av = some v ∧ @Rel (am ()) E' A' W' ∧ Same N M V (am ()) ∧ Good W W' := by
  unfold topF at h
  obtain ⟨h1, h2⟩ := cs' h
  refine callsIn_wide.1 (callsIn_of_wp_marks (n := 0) hfn hb trivial ?_)
  have hrf : RfT N M V P fn.ntmps rfNo := fun am hs => letI := am (); rfNo_sound
  have hlen : args'.length = args.length := concs_length hargs
  have hle : args.length ≤ fn.ntmps := by rw [llen_eq] at h1; exact Nat.le_of_ble_eq_true h1
  have hf : FRel E fn.ntmps ⟨argF args 0 .e, []⟩ { tmps := args'.toArray ++ Array.replicate (fn.ntmps - args'.toArray.size) undef, defers := [] } := by
    letI := am ()
    refine ⟨by simp; omega, .nil, fun t v hv => ?_⟩
    rcases argF_get _ _ _ _ _ hv with ⟨m, g1, g2⟩ | g1
    · rw [Nat.zero_add] at g2; subst g2
      obtain ⟨x, k1, k2⟩ := concs_get hargs g1
      rw [k1]
      have hm : t < args'.length := (List.getElem?_eq_some_iff.1 k2).1
      rw [Array.getD_eq_getD_getElem?, Array.getElem?_append_left (by simpa using hm)]
      simp [k2]
    · rw [T.get_e] at g1; cases g1
  have hlp : ∀ G, LpT N M V G W P fn.ntmps (loopK P cf fn.ntmps rfNo lf) := fun G => loopT_sound hw hcf hrf lf
  refine wpIn_mono (codeT_sound (G := fun _ => True) (W0 := W) hw hcf hrf (lpTab_sound hw hcf hrf hlp (fun _ _ _ _ _ => trivial) tab) c am E A W _ _ _ _ _ hs ⟨rfl, rfl, rfl⟩ trivial hr hf h2) fun e a' w' hp => ?_
  have done : PostT N M V (fun _ => True) W fn.ntmps (retK P fn.results.toList k) a' w' → LeavesInM Fence.wide 0 P fn a'.tmps (fun e W' => ∃ v, e = .returned v ∧ ∃ (am : Unit → Amb) (av : AV) (A' : AH) (E' : Env), k av A' = true ∧ conc E' av = some v ∧ @Rel (am ()) E' A' W' ∧ Same N M V (am ()) ∧ Good W W') a'.defers .returning w' := by
    rintro ⟨am1, F1, A1, E1, k1, k2, k3, k4, k5, _⟩
    letI := am1 ()
    refine unmark_leaves k2.defers k3 k1 fun A' W' q1 q2 q3 => ?_
    obtain ⟨av, v, m1, m2, m3⟩ := retV_run q2 k2.get q1
    exact ⟨v, m3, v, rfl, am1, av, A', E1, m1, m2, q2, k4, k5.step q3⟩
  cases e with
  | normal => exact done hp
  | ret => exact done hp
  | exit id => obtain ⟨_, F1, A1, E1, k1, _⟩ := hp; cases k1
  | goto l => exact hp.elim
  | panic c => exact hp.elim
  | outgrown => exact hp.elim

/-- The names of what comes in. -/
abbrev amOf (W : World) (sy : Nat → Int) (sv : Nat → Value) : Unit → Amb := fun _ => { n0 := W.heap.size, mem := fun k => W.heap[k]?, sy := sy, sv := sv }
def E0 (sy : Nat → Int) (sv : Nat → Value) : Env := { blk := fun _ => none, sy := sy, sv := sv }
noncomputable def H0 : AH := ⟨.e, 0⟩
theorem rel0 (W : World) (sy : Nat → Int) (sv : Nat → Value) : @Rel (amOf W sy sv ()) (E0 sy sv) H0 W :=
  @Rel.mk (amOf W sy sv ()) _ _ _ (fun i o x h _ => by have h : (T.e : T AObj).get i = some o := h; rw [T.get_e] at h; cases h) (fun i j oi oj x y h _ _ _ _ => by have h : (T.e : T AObj).get i = some oi := h; rw [T.get_e] at h; cases h)
    (fun _ _ => rfl) (fun i _ => T.get_e i) (fun i x h => by cases h) ⟨Nat.le_refl _, fun _ _ => rfl, fun i x h => by cases h⟩ ⟨rfl, rfl⟩

theorem top_true (hw : PWF P) {W : World} {sy : Nat → Int} (hcf : CfT W.heap.size (fun k => W.heap[k]?) V P cf) {lf : Nat} {tab : List (Nat × LI)} {f : FuncId} {fn : Func} {c : Code} (hfn : P.funcs[f]? = some fn) (hb : fn.body = some c)
    {args : List AV} {args' : List Value} (hargs : concs (E0 sy V) args = some args') (h : topF P cf lf tab fn c args H0 (fun v _ => isTrueA v) = true) :
    Calls P f args'.toArray W fun e W' => e = .returned (.bool true) ∧ RowKit.Below W.heap.size W W' := by
  refine (topF_sound hw (V := V) hcf hfn hb (am := amOf W sy V) ⟨rfl, rfl, rfl⟩ (rel0 W sy V) hargs h).mono fun e W' hp => ?_
  obtain ⟨v, rfl, am, av, A', E', k1, k2, k3, k4, k5⟩ := hp
  unfold isTrueA at k1
  split at k1
  case h_2 => cases k1
  rename_i b
  subst k1
  simp only [conc, Option.some.injEq] at k2
  subst k2
  refine ⟨rfl, k5.os, k5.tape, k5.output, ?_, fun k hk => ?_⟩
  · letI := am (); have := k3.amb.1; rw [k4.n0] at this; exact this
  · letI := am ()
    have := k3.amb.2.1 k (by rw [k4.n0]; exact hk)
    rw [this, k4.mem]
end
end Go.PE
