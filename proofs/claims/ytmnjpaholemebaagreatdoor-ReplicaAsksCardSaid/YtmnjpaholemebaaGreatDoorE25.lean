/-
  THE ENGINE, 25: a function's loops one by one: what each round comes to is told by theorems of their own.
-/
import Derived.Test.YtmnjpaholemebaaGreatDoorE24
namespace Go.PE
open Go

/-- A code's loops, each with what goes on behind its exits. -/
noncomputable def loopsOf (P : Program) (cf : HK) (n : Nat) (rf : RF) (lp : LP) (c : Code) : KN → KX → KN → List (Code × KX × KN) :=
  Code.rec (motive := fun _ => KN → KX → KN → List (Code × KX × KN))
    (fun _ _ _ => [])
    (fun _ _ _ _ _ _ => [])
    (fun _ y iha ihb kn kx kr => lapp (iha (fun F A => codeK P cf n rf lp y F A kn kx kr) kx kr) (ihb kn kx kr))
    (fun _ _ _ iha ihb kn kx kr => lapp (iha kn kx kr) (ihb kn kx kr))
    (fun id _ ih kn kx kr => ih kn (fun i F A => cond (Nat.beq i id) (kn F A) (kx i F A)) kr)
    (fun c _ _ kx kr => [(c, kx, kr)])
    (fun _ _ _ _ _ _ _ _ _ => [])
    (fun _ _ _ _ => [])
    (fun _ _ _ _ _ => [])
    (fun _ _ _ _ => [])
    (fun _ _ _ _ => [])
    (fun _ _ _ => [])
    (fun _ _ _ _ => []) c

theorem mem_lapp_left {α : Type} {x : α} {a b : List α} (h : x ∈ a) : x ∈ lapp a b := by rw [lapp_eq]; exact List.mem_append_left _ h
theorem mem_lapp_right {α : Type} {x : α} {a b : List α} (h : x ∈ b) : x ∈ lapp a b := by rw [lapp_eq]; exact List.mem_append_right _ h

section
variable {P : Program} {cf : HK} {n : Nat} {rf : RF} {N : Nat} {M : Nat → Option Obj} {V : Nat → Value} {G : (Nat → Int) → Prop} {W0 : World}

def Lp1 (N : Nat) (M : Nat → Option Obj) (V : Nat → Value) (G : (Nat → Int) → Prop) (W0 : World) (P : Program) (n : Nat) (lp : LP) (t : Code × KX × KN) : Prop := ∀ (am : Unit → Amb) (E : Env) (A : AH) (W : World) (F : Fr) (a : Act) (kn : KN), Same N M V (am ()) → Good W0 W → G (am ()).sy → @Rel (am ()) E A W → FRel E n F a →
  lp t.1 F A kn t.2.1 t.2.2 = true → (Code.loop t.1).wpIn Fence.wide 0 P (PostXT N M V G W0 n kn t.2.1 t.2.2) a W

theorem codeT2_sound (hw : PWF P) (hcf : CfT N M V P cf) (hrf : RfT N M V P n rf) {lp : LP} : ∀ (c : Code) (am : Unit → Amb) (E : Env) (A : AH) (W : World) (F : Fr) (a : Act) (kn : KN) (kx : KX) (kr : KN), (∀ t ∈ loopsOf P cf n rf lp c kn kx kr, Lp1 N M V G W0 P n lp t) → Same N M V (am ()) → Good W0 W → G (am ()).sy → @Rel (am ()) E A W → FRel E n F a →
    codeK P cf n rf lp c F A kn kx kr = true → c.wpIn Fence.wide 0 P (PostXT N M V G W0 n kn kx kr) a W := by
  intro c
  induction c with
  | skip => intro am E A W F a kn kx kr hl hs hg hG hr hf h; exact wpIn_skip ⟨am, F, A, E, h, hf, hr, hs, hg, hG⟩
  | region id ops draw =>
    intro am E A W F a kn kx kr hl hs hg hG hr hf h
    letI := am ()
    have h' : cond draw (drawnK P cf n ops.toList (maskGo ops.toList 0 .e) F A kn) (plainK P cf n ops.toList ops.toList F A kn) = true := h
    cases draw with
    | false =>
      rw [cond_false] at h'
      refine wpIn_region ?_
      have := plainK_sound Wide.wide hw (hcf am hs) (Q := PostXT N M V G W0 n kn kx kr) ops.toList 0 (fun j => by rw [Array.getElem?_toList, Nat.zero_add]) hr hf h' fun a' W' hp => PostC.top hs hg hG hp
      rw [List.range_eq_range']
      simpa using this
    | true =>
      rw [cond_true] at h'
      obtain ⟨h1, h2⟩ := cs' h'
      obtain ⟨hv, h2⟩ := cs' h2
      obtain ⟨h2, h3⟩ := cs' h2
      have hlen : llen ops.toList = ops.size := by rw [llen_eq]; simp
      rw [hlen] at h2
      exact drawn_sound Wide.wide hw (hcf am hs) (okR_of h1) (varsOk_spec hv) hf hr h2 h3 fun a' W' hp => PostC.top hs hg hG hp
  | seq x y ihx ihy =>
    intro am E A W F a kn kx kr hl hs hg hG hr hf h
    have h' : codeK P cf n rf lp x F A (fun F A => codeK P cf n rf lp y F A kn kx kr) kx kr = true := h
    refine wpIn_seq (wpIn_mono (ihx am E A W F a _ kx kr (fun t ht => hl t (mem_lapp_left ht)) hs hg hG hr hf h') fun e a' w' hp => ?_)
    cases e with
    | normal =>
      obtain ⟨am1, F1, A1, E1, h1, h2, h3, h4, h5, h6⟩ := hp
      exact ihy am1 E1 A1 w' F1 a' kn kx kr (fun t ht => hl t (mem_lapp_right ht)) h4 h5 h6 h3 h2 h1
    | exit id => exact hp
    | ret => exact hp
    | goto l => exact hp
    | panic c => exact hp
    | outgrown => exact hp
  | cond c x y ihx ihy =>
    intro am E A W F a kn kx kr hl hs hg hG hr hf h
    letI := am ()
    have h' : condV (evO F.t c) (codeK P cf n rf lp x F A kn kx kr) (codeK P cf n rf lp y F A kn kx kr) = true := h
    unfold condV at h'
    split at h'
    case h_2 => cases h'
    rename_i b hb
    have := hf.opnds _ _ hb
    simp only [conc, Option.some.injEq] at this
    cases b with
    | true => exact wpIn_cond_true this.symm (ihx am E A W F a kn kx kr (fun t ht => hl t (mem_lapp_left ht)) hs hg hG hr hf h')
    | false => exact wpIn_cond_false this.symm (ihy am E A W F a kn kx kr (fun t ht => hl t (mem_lapp_right ht)) hs hg hG hr hf h')
  | block id x ih =>
    intro am E A W F a kn kx kr hl hs hg hG hr hf h
    have h' : codeK P cf n rf lp x F A kn (fun i F A => cond (Nat.beq i id) (kn F A) (kx i F A)) kr = true := h
    refine wpIn_block (wpIn_mono (ih am E A W F a _ _ kr (fun t ht => hl t ht) hs hg hG hr hf h') fun e a' w' hp => ?_)
    cases e with
    | normal => exact hp
    | exit i =>
      obtain ⟨am1, F1, A1, E1, h1, h2⟩ := hp
      by_cases hi : i = id
      · subst hi
        simp only [Exit.inBlock, if_true]
        have : Nat.beq i i = true := beq_self i
        dsimp only at h1
        rw [this] at h1
        exact ⟨am1, F1, A1, E1, h1, h2⟩
      · simp only [Exit.inBlock, hi, if_false]
        have : Nat.beq i id = false := by
          cases hb : Nat.beq i id with
          | false => rfl
          | true => exact absurd (Nat.eq_of_beq_eq_true hb) hi
        dsimp only at h1
        rw [this] at h1
        exact ⟨am1, F1, A1, E1, h1, h2⟩
    | ret => exact hp
    | goto l => exact hp
    | panic c => exact hp
    | outgrown => exact hp
  | loop x _ => intro am E A W F a kn kx kr hl hs hg hG hr hf h; exact hl (x, kx, kr) List.mem_cons_self am E A W F a kn hs hg hG hr hf h
  | rangeFunc g ps as bd _ _ =>
    intro am E A W F a kn kx kr hl hs hg hG hr hf h
    letI := am ()
    refine wpIn_mono (hrf am hs g ps as bd E A W F a kn kx kr hr hf h) fun e a' w' hp => ?_
    cases e with
    | normal => exact PostC.top hs hg hG hp
    | exit i => exact PostC.top hs hg hG hp
    | ret => exact PostC.top hs hg hG hp
    | goto l => exact hp.elim
    | panic c => exact hp.elim
    | outgrown => exact hp.elim
  | exit id => intro am E A W F a kn kx kr hl hs hg hG hr hf h; exact wpIn_exit ⟨am, F, A, E, h, hf, hr, hs, hg, hG⟩
  | ret => intro am E A W F a kn kx kr hl hs hg hG hr hf h; exact wpIn_ret ⟨am, F, A, E, h, hf, hr, hs, hg, hG⟩
  | _ => intro am E A W F a kn kx kr hl hs hg hG hr hf h; cases h


/-- Only that the state is one of those ahead of a round. -/
noncomputable def lpE (lp : LP) (tab : List (Nat × LI)) : LP := List.rec (motive := fun _ => LP) lp
  (fun p _ ih c F A kn kx kr => cond (Nat.beq (regId c) p.1) (anyAlt p.2 F A) (ih c F A kn kx kr)) tab
noncomputable def topE (P : Program) (cf : HK) (lf : Nat) (tab : List (Nat × LI)) (fn : Func) (c : Code) (args : List AV) (A : AH) (k : AV → AH → Bool) : Bool :=
  cond (Nat.ble (llen args) fn.ntmps) (codeK P cf fn.ntmps rfNo (lpE (loopK P cf fn.ntmps rfNo lf) tab) c ⟨argF args 0 .e, []⟩ A (retK P fn.results.toList k) (fun _ _ _ => false) (retK P fn.results.toList k)) false
noncomputable def topLoops (P : Program) (cf : HK) (lf : Nat) (tab : List (Nat × LI)) (fn : Func) (c : Code) (k : AV → AH → Bool) : List (Code × KX × KN) :=
  loopsOf P cf fn.ntmps rfNo (lpE (loopK P cf fn.ntmps rfNo lf) tab) c (retK P fn.results.toList k) (fun _ _ _ => false) (retK P fn.results.toList k)
/-- A loop's rounds. -/
def Rounds (P : Program) (cf : HK) (n lf : Nat) (L : LI) (t : Code × KX × KN) : Prop := altOk L = true ∧ ∀ al ∈ L.alts, ∀ sp ∈ al.splits, bodyChk P cf n rfNo (loopK P cf n rfNo lf) L t.1 t.2.1 t.2.2 al sp = true

theorem lpE_sound (hw : PWF P) (hcf : CfT N M V P cf) {lf : Nat} (hGu : ∀ σ (s s' : Nat → Int), (∀ nm, nm < 1000 → nm ≠ σ → s' nm = s nm) → G s → G s') (t : Code × KX × KN) :
    ∀ tab : List (Nat × LI), (∀ p ∈ tab, regId t.1 = p.1 → Rounds P cf n lf p.2 t) → Lp1 N M V G W0 P n (lpE (loopK P cf n rfNo lf) tab) t := by
  have hrf : RfT N M V P n rfNo := fun am _ => letI := am (); rfNo_sound
  intro tab
  induction tab with
  | nil => intro _ am E A W F a kn hs hg hG hr hf h; exact loopT_sound hw hcf hrf lf t.1 am E A W F a kn t.2.1 t.2.2 hs hg hG hr hf h
  | cons p tab ih =>
    intro hall am E A W F a kn hs hg hG hr hf h
    have h' : cond (Nat.beq (regId t.1) p.1) (anyAlt p.2 F A) (lpE (loopK P cf n rfNo lf) tab t.1 F A kn t.2.1 t.2.2) = true := h
    cases hb : Nat.beq (regId t.1) p.1 with
    | true =>
      rw [hb, cond_true] at h'
      obtain ⟨r1, r2⟩ := hall p List.mem_cons_self (Nat.eq_of_beq_eq_true hb)
      exact loop_of hw hcf hrf (fun _ => loopT_sound hw hcf hrf lf) p.2 (hGu _) r1 r2 hs hg hG hr hf h'
    | false =>
      rw [hb, cond_false] at h'
      exact ih (fun q hq => hall q (List.mem_cons_of_mem _ hq)) am E A W F a kn hs hg hG hr hf h'

theorem topE_true (hw : PWF P) {W : World} {sy : Nat → Int} (hcf : CfT W.heap.size (fun k => W.heap[k]?) V P cf) {lf : Nat} {tab : List (Nat × LI)} {f : FuncId} {fn : Func} {c : Code} (hfn : P.funcs[f]? = some fn) (hb : fn.body = some c)
    {args : List AV} {args' : List Value} (hargs : concs (E0 sy V) args = some args') (h : topE P cf lf tab fn c args H0 (fun v _ => isTrueA v) = true)
    (hl : ∀ t ∈ topLoops P cf lf tab fn c (fun v _ => isTrueA v), ∀ p ∈ tab, regId t.1 = p.1 → Rounds P cf fn.ntmps lf p.2 t) :
    Calls P f args'.toArray W fun e W' => e = .returned (.bool true) ∧ RowKit.Below W.heap.size W W' := by
  unfold topE at h
  obtain ⟨h1, h2⟩ := cs' h
  refine callsIn_wide.1 (callsIn_of_wp_marks (n := 0) hfn hb trivial ?_)
  have hrf : RfT W.heap.size (fun k => W.heap[k]?) V P fn.ntmps rfNo := fun am _ => letI := am (); rfNo_sound
  have hlen : args'.length = args.length := concs_length hargs
  have hle : args.length ≤ fn.ntmps := by rw [llen_eq] at h1; exact Nat.le_of_ble_eq_true h1
  have hf : FRel (E0 sy V) fn.ntmps ⟨argF args 0 .e, []⟩ { tmps := args'.toArray ++ Array.replicate (fn.ntmps - args'.toArray.size) undef, defers := [] } := by
    refine ⟨by simp; omega, .nil, fun t v hv => ?_⟩
    rcases argF_get _ _ _ _ _ hv with ⟨m, g1, g2⟩ | g1
    · rw [Nat.zero_add] at g2; subst g2
      obtain ⟨x, k1, k2⟩ := concs_get hargs g1
      rw [k1]
      have hm : t < args'.length := (List.getElem?_eq_some_iff.1 k2).1
      rw [Array.getD_eq_getD_getElem?, Array.getElem?_append_left (by simpa using hm)]
      simp [k2]
    · rw [T.get_e] at g1; cases g1
  refine wpIn_mono (codeT2_sound (G := fun _ => True) (W0 := W) (N := W.heap.size) (M := fun k => W.heap[k]?) (V := V) hw hcf hrf c (amOf W sy V) (E0 sy V) _ W _ _ _ _ _ (fun t ht => lpE_sound hw hcf (fun _ _ _ _ _ => trivial) t tab (hl t ht)) ⟨rfl, rfl, rfl⟩ ⟨rfl, rfl, rfl⟩ trivial (rel0 W sy V) hf h2) fun e a' w' hp => ?_
  have done : PostT W.heap.size (fun k => W.heap[k]?) V (fun _ => True) W fn.ntmps (retK P fn.results.toList (fun v _ => isTrueA v)) a' w' → LeavesInM Fence.wide 0 P fn a'.tmps (fun e W' => e = .returned (.bool true) ∧ RowKit.Below W.heap.size W W') a'.defers .returning w' := by
    rintro ⟨am1, F1, A1, E1, k1, k2, k3, k4, k5, _⟩
    letI := am1 ()
    refine unmark_leaves k2.defers k3 k1 fun A' W' q1 q2 q3 => ?_
    obtain ⟨av, v, m1, m2, m3⟩ := retV_run q2 k2.get q1
    refine ⟨v, m3, ?_⟩
    unfold isTrueA at m1
    split at m1
    case h_2 => cases m1
    subst m1
    simp only [conc, Option.some.injEq] at m2
    subst m2
    have g := k5.step q3
    refine ⟨rfl, g.os, g.tape, g.output, ?_, fun k hk => ?_⟩
    · have := q2.amb.1; rw [k4.n0] at this; exact this
    · have := q2.amb.2.1 k (by rw [k4.n0]; exact hk)
      rw [this, k4.mem]
  cases e with
  | normal => exact done hp
  | ret => exact done hp
  | exit id => obtain ⟨_, F1, A1, E1, k1, _⟩ := hp; cases k1
  | goto l => exact hp.elim
  | panic c => exact hp.elim
  | outgrown => exact hp.elim
end
end Go.PE
