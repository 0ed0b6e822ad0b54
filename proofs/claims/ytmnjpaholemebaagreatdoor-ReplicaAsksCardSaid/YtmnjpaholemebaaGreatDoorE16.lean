/-
  THE ENGINE, 16: frames; an operation in its frame, guarded or not; a region that runs in one order.
-/
import Derived.Test.YtmnjpaholemebaaGreatDoorE15
namespace Go.PE
open Go

/-! ### Equal abstract values -/
noncomputable def capq (a b : Cap) : Bool := match a with
  | .exact m => (match b with | .exact n => Nat.beq m n | _ => false)
  | .upto m => (match b with | .upto n => Nat.beq m n | _ => false)
  | .empty l m => (match b with | .empty k n => cond (Nat.beq l k) (Nat.beq m n) false | _ => false)
theorem capq_eq {a b : Cap} (h : capq a b = true) : a = b := by
  cases a <;> cases b <;> simp only [capq, Bool.false_eq_true] at h
  · rw [Nat.eq_of_beq_eq_true h]
  · rw [Nat.eq_of_beq_eq_true h]
  · obtain ⟨h1, h2⟩ := cond_some' h
    rw [Nat.eq_of_beq_eq_true h1, Nat.eq_of_beq_eq_true h2]
noncomputable def lq (q : AV → AV → Bool) (a b : List AV) : Bool := List.rec (motive := fun _ => List AV → Bool) (fun b => List.rec (motive := fun _ => Bool) true (fun _ _ _ => false) b)
  (fun x _ ih b => List.rec (motive := fun _ => Bool) false (fun y t _ => cond (q x y) (ih t) false) b) a b
theorem lq_eq {q : AV → AV → Bool} (hq : ∀ a b, q a b = true → a = b) : ∀ (a b : List AV), lq q a b = true → a = b := by
  intro a
  induction a with
  | nil => intro b h; cases b with
    | nil => rfl
    | cons => cases h
  | cons x a ih => intro b h; cases b with
    | nil => cases h
    | cons y b =>
      have h' : cond (q x y) (lq q a b) false = true := h
      obtain ⟨h1, h2⟩ := cond_some' h'
      rw [hq _ _ h1, ih _ h2]
noncomputable def bq (a b : Bool) : Bool := cond a b (cond b false true)
theorem bq_eq {a b : Bool} (h : bq a b = true) : a = b := by cases a <;> cases b <;> first | rfl | cases h
/-- The same function: only the plainest kind. -/
noncomputable def fnq (a b : Fn) : Bool := match a with
  | .func f => (match b with | .func g => Nat.beq f g | _ => false)
  | _ => false
theorem fnq_eq {a b : Fn} (h : fnq a b = true) : a = b := by
  unfold fnq at h
  split at h
  · split at h
    · rw [Nat.eq_of_beq_eq_true h]
    · cases h
  · cases h
theorem kq_eq' {a b : IntKind} (h : kq a b = true) : a = b := by
  cases a <;> cases b <;> first | rfl | exact absurd h (by decide)

noncomputable def eqV (f : Nat) : AV → AV → Bool := Nat.rec (motive := fun _ => AV → AV → Bool) (fun _ _ => false)
  (fun _ ih a b => match a with
    | .bool x => (match b with | .bool y => bq x y | _ => false)
    | .int k x => (match b with | .int l y => cond (kq k l) (ieq x y) false | _ => false)
    | .str x => (match b with | .str y => leqN x y | _ => false)
    | .nilptr => (match b with | .nilptr => true | _ => false)
    | .ptr i x => (match b with | .ptr j y => cond (Nat.beq i j) (Nat.beq x y) false | _ => false)
    | .nilslice => (match b with | .nilslice => true | _ => false)
    | .slice i x l c => (match b with | .slice j y m d => cond (Nat.beq i j) (cond (Nat.beq x y) (cond (Nat.beq l m) (capq c d) false) false) false | _ => false)
    | .nilmap => (match b with | .nilmap => true | _ => false)
    | .map i => (match b with | .map j => Nat.beq i j | _ => false)
    | .nilfunc => (match b with | .nilfunc => true | _ => false)
    | .func g x y => (match b with | .func h z w => cond (fnq g h) (cond (lq ih x z) (lq ih y w) false) false | _ => false)
    | .niliface => (match b with | .niliface => true | _ => false)
    | .iface t x => (match b with | .iface u y => cond (Nat.beq t u) (ih x y) false | _ => false)
    | .agg x => (match b with | .agg y => lq ih x y | _ => false)
    | .tuple x => (match b with | .tuple y => lq ih x y | _ => false)
    | .symi k x => (match b with | .symi l y => cond (kq k l) (syq x y) false | _ => false)
    | .symv x => (match b with | .symv y => Nat.beq x y | _ => false)
    | .yld x => (match b with | .yld y => Nat.beq x y | _ => false)) f

theorem eqV_eq : ∀ (f : Nat) (a b : AV), eqV f a b = true → a = b := by
  intro f
  induction f with
  | zero => intro a b h; cases h
  | succ f ih =>
    intro a b h
    have hl := lq_eq ih
    cases a <;> cases b <;> simp only [eqV, Bool.false_eq_true] at h <;> try rfl
    all_goals (try cases h; done)
    case bool.bool => rw [bq_eq h]
    case int.int => obtain ⟨h1, h2⟩ := cond_some' h; rw [ieq_eq] at h2; rw [kq_eq' h1, of_decide_eq_true h2]
    case str.str => rw [leqN_eq] at h; rw [of_decide_eq_true h]
    case ptr.ptr => obtain ⟨h1, h2⟩ := cond_some' h; rw [Nat.eq_of_beq_eq_true h1, Nat.eq_of_beq_eq_true h2]
    case slice.slice =>
      obtain ⟨h1, h2⟩ := cond_some' h
      obtain ⟨h2, h3⟩ := cond_some' h2
      obtain ⟨h3, h4⟩ := cond_some' h3
      rw [Nat.eq_of_beq_eq_true h1, Nat.eq_of_beq_eq_true h2, Nat.eq_of_beq_eq_true h3, capq_eq h4]
    case map.map => rw [Nat.eq_of_beq_eq_true h]
    case func.func =>
      obtain ⟨h1, h2⟩ := cond_some' h
      obtain ⟨h2, h3⟩ := cond_some' h2
      rw [fnq_eq h1, hl _ _ h2, hl _ _ h3]
    case iface.iface => obtain ⟨h1, h2⟩ := cond_some' h; rw [Nat.eq_of_beq_eq_true h1, ih _ _ h2]
    case agg.agg => rw [hl _ _ h]
    case tuple.tuple => rw [hl _ _ h]
    case symi.symi => obtain ⟨h1, h2⟩ := cond_some' h; rw [kq_eq' h1, syq_eq h2]
    case symv.symv => rw [Nat.eq_of_beq_eq_true h]
    case yld.yld => rw [Nat.eq_of_beq_eq_true h]

/-! ### Frames -/
structure Fr where
  t : T AV
  ds : List Nat      -- the blocks for the deferred calls of ranges over functions: nothing lies in them
noncomputable def Fr.get (F : Fr) (i : Nat) : Option AV := F.t.get i
noncomputable def Fr.set (F : Fr) (i : Nat) (v : AV) : Fr := ⟨F.t.set i v, F.ds⟩
theorem Fr.get_set (F : Fr) (m n : Nat) (x : AV) : (F.set n x).get m = if n = m then some x else F.get m := T.get_set _ _ _ _

def Mark (E : Env) (i : Nat) (d : Deferred) : Prop := ∃ x, E.blk i = some x ∧ d = { target := .collected x.1, args := #[] }

structure FRel (E : Env) (n : Nat) (F : Fr) (a : Act) : Prop where
  size : a.tmps.size = n
  defers : F2 (Mark E) F.ds a.defers
  get : ∀ t v, F.get t = some v → conc E v = some (a.tmps.getD t undef)

theorem marks_mono {E E' : Env} (hl : Env.Le E E') {l : List Nat} {d : List Deferred} (h : F2 (Mark E) l d) : F2 (Mark E') l d :=
  forall2_mono (fun _ _ h => let ⟨x, h1, h2⟩ := h; ⟨x, hl.blk _ _ h1, h2⟩) h

theorem FRel.mono {E E' : Env} {n : Nat} {F : Fr} {a : Act} (h : FRel E n F a) (hl : Env.Le E E') : FRel E' n F a :=
  ⟨h.size, marks_mono hl h.defers, fun t v hv => conc_mono hl _ _ (h.get t v hv)⟩

noncomputable def putK (n : Nat) (dst : Option Tmp) (v : AV) (F : Fr) (k : Fr → Bool) : Bool := match dst with
  | none => k F
  | some d => cond (Nat.blt d n) (k (F.set d v)) false

theorem putK_spec {n : Nat} {dst : Option Tmp} {v : AV} {F : Fr} {k : Fr → Bool} (h : putK n dst v F k = true) :
    ∃ F', k F' = true ∧ ((∀ t, F'.get t = if dst = some t then some v else F.get t) ∧ F'.ds = F.ds) ∧ (∀ d, dst = some d → d < n) := by
  unfold putK at h
  split at h
  · exact ⟨F, h, ⟨fun t => by simp, rfl⟩, fun d hd => by cases hd⟩
  · rename_i d
    obtain ⟨h1, h2⟩ := cond_some' h
    refine ⟨_, h2, ⟨fun t => ?_, rfl⟩, fun d' hd => ?_⟩
    · rw [Fr.get_set]; simp
    · cases hd; exact Nat.blt_eq ▸ h1

theorem getD_put {a : Act} {dst : Option Tmp} {v : Value} {t : Nat} (h : ∀ d, dst = some d → d < a.tmps.size) :
    (a.put dst v).tmps.getD t undef = if dst = some t then v else a.tmps.getD t undef := by
  cases dst with
  | none => simp [Act.put]
  | some d =>
    have := h d rfl
    simp only [Act.put, Array.getD_eq_getD_getElem?, Option.some.injEq]
    by_cases hd : d = t
    · subst hd; simp [this]
    · simp [hd]
theorem size_put {a : Act} {dst : Option Tmp} {v : Value} : (a.put dst v).tmps.size = a.tmps.size := by cases dst <;> simp [Act.put]
theorem defers_put {a : Act} {dst : Option Tmp} {v : Value} : (a.put dst v).defers = a.defers := by cases dst <;> rfl

theorem FRel.put {E : Env} {n : Nat} {F F' : Fr} {a : Act} (h : FRel E n F a) {dst : Option Tmp} {v : AV} {v' : Value} (hv : conc E v = some v')
    (hF : (∀ t, F'.get t = if dst = some t then some v else F.get t) ∧ F'.ds = F.ds) (hd : ∀ d, dst = some d → d < n) : FRel E n F' (a.put dst v') := by
  refine ⟨size_put.trans h.size, by rw [hF.2, defers_put]; exact h.defers, fun t u hu => ?_⟩
  rw [getD_put (fun d hdd => h.size ▸ hd d hdd)]
  rw [hF.1] at hu
  split at hu
  · rename_i he; cases hu; simp [he, hv]
  · rename_i he; simp [he, h.get t u hu]

theorem FRel.opnds {E : Env} {n : Nat} {F : Fr} {a : Act} (h : FRel E n F a) : Opnds E (evO F.t) a.eval := by
  intro x v hx
  cases x with
  | tmp t => exact h.get t v hx
  | const c => exact absV_conc E 4 c v hx
  | func f => cases hx; rfl
  | global g => cases hx

/-! ### Guards -/
noncomputable def guardV (w : Bool) (v : Option AV) : Option Bool := match v with
  | some (.bool b) => some (bq b w)
  | some (.tuple _) => some false
  | _ => none
noncomputable def guardA (l : List Oper) (F : Fr) (g : Option (Nat × Bool)) : Option Bool := match g with
  | none => some true
  | some (j, w) => (match lget j l with
    | some x => (match x.dst with
      | some d => guardV w (F.get d)
      | none => some false)
    | none => some false)

theorem undef_tuple : undef = .tuple #[] := rfl

theorem guardA_sound {ops : Array Oper} {F : Fr} {o : Oper} {tmps : Array Value} {E : Env} {b : Bool} (h : guardA ops.toList F o.guard = some b)
    (hF : ∀ j w x d v, o.guard = some (j, w) → ops[j]? = some x → x.dst = some d → F.get d = some v → conc E v = some (tmps.getD d undef)) :
    Region.wanted o (yielded ops tmps) = b := by
  unfold guardA at h
  unfold Region.wanted
  split at h
  · rename_i he; rw [he]; cases h; rfl
  · rename_i j w he
    rw [he]
    simp only
    rw [lget_eq, Array.getElem?_toList] at h
    unfold yielded
    cases hx : ops[j]? with
    | none => rw [hx] at h; cases h; simp
    | some x =>
      rw [hx] at h
      simp only at h
      cases hd : x.dst with
      | none => rw [hd] at h; cases h; simp [hd]
      | some d =>
        rw [hd] at h
        simp only at h
        unfold guardV at h
        split at h
        · rename_i b' hb'
          have := hF j w x d _ he hx hd hb'
          cases h
          simp only [conc, Option.some.injEq] at this
          have ht : tmps[d]? = some (.bool b') := by
            rw [Array.getD_eq_getD_getElem?] at this
            cases hq : tmps[d]? with
            | none => rw [hq] at this; simp [undef] at this
            | some q => rw [hq] at this; simp at this; rw [this]
          simp only [Option.bind_some, hd, ht]
          cases b' <;> cases w <;> rfl
        · rename_i cs hb'
          have := hF j w x d _ he hx hd hb'
          cases h
          simp only [conc, Option.map_eq_some_iff] at this
          obtain ⟨cs', _, hq⟩ := this
          have ht : tmps[d]? = none ∨ ∃ q, tmps[d]? = some (.tuple q) := by
            rw [Array.getD_eq_getD_getElem?] at hq
            cases hq' : tmps[d]? with
            | none => exact .inl rfl
            | some q => rw [hq'] at hq; simp at hq; exact .inr ⟨_, by rw [← hq]⟩
          rcases ht with ht | ⟨q, ht⟩ <;> simp [hd, ht]
        · cases h

/-! ### One operation in its frame -/
noncomputable def stepK (P : Program) (cf : HK) (n : Nat) (l : List Oper) (o : Oper) (F : Fr) (A : AH) (k : Fr → AH → Bool) : Bool := match guardA l F o.guard with
  | some true => execK P cf o.op (evO F.t) A fun v A' => putK n o.dst v F fun F' => k F' A'
  | some false => putK n o.dst (.tuple []) F fun F' => k F' A
  | none => false

noncomputable def plainK (P : Program) (cf : HK) (n : Nat) (l : List Oper) (r : List Oper) (F : Fr) (A : AH) (k : Fr → AH → Bool) : Bool :=
  List.rec (motive := fun _ => Fr → AH → (Fr → AH → Bool) → Bool) (fun F A k => k F A) (fun o _ ih F A k => stepK P cf n l o F A fun F' A' => ih F' A' k) r F A k

/-- Behind a code: some abstract state of which the continuation is true. -/
def PostC [Amb] (E : Env) (A : AH) (W : World) (n : Nat) (k : Fr → AH → Bool) (a : Act) (W' : World) : Prop :=
  ∃ (F : Fr) (A' : AH) (E' : Env), k F A' = true ∧ FRel E' n F a ∧ Rel E' A' W' ∧ Step E A W E' A' W'

section
variable {P : Program} {cf : HK} {n : Nat} {E : Env} {A : AH} {W : World} {F : Fr} {a : Act} {k : Fr → AH → Bool} {ops : Array Oper} {Q : Exit → Act → World → Prop}

theorem stepK_sound [Amb] {Φ : Fence} (hΦ : Wide Φ) (hw : PWF P) (hcf : HkOk P cf) {i : Nat} {o : Oper} (ho : ops[i]? = some o) (hr : Rel E A W) (hf : FRel E n F a)
    (h : stepK P cf n ops.toList o F A k = true) {K : Act → World → Prop} (hK : ∀ a' W', PostC E A W n k a' W' → K a' W') : wpOpIn Φ 0 P ops Q i K a W := by
  unfold stepK at h
  unfold wpOpIn
  simp only [ho]
  split at h
  · rename_i hg
    rw [guardA_sound hg fun j w x d v _ _ _ hv => hf.get d v hv]
    simp only [if_true]
    refine OpOk.wp hΦ (execK_sound hw hcf hr hf.opnds h) fun v' W' hp => ?_
    obtain ⟨av, A', E', h1, h2, h3, h4⟩ := hp
    obtain ⟨F', g1, g2, g3⟩ := putK_spec h1
    exact hK _ _ ⟨F', A', E', g1, (hf.mono h4.le).put h2 g2 g3, h3, h4⟩
  · rename_i hg
    rw [guardA_sound hg fun j w x d v _ _ _ hv => hf.get d v hv]
    simp only [Bool.false_eq_true, if_false]
    obtain ⟨F', g1, g2, g3⟩ := putK_spec h
    exact ⟨fun f _ => hΦ.fn f, hK _ _ ⟨F', A, E, g1, hf.put rfl g2 g3, hr, Step.refl _ _ _⟩⟩
  · cases h

theorem plainK_sound [Amb] {Φ : Fence} (hΦ : Wide Φ) (hw : PWF P) (hcf : HkOk P cf) : ∀ (r : List Oper) (m : Nat) {E : Env} {A : AH} {W : World} {F : Fr} {a : Act}, (∀ j, r[j]? = ops[m + j]?) → Rel E A W → FRel E n F a →
    plainK P cf n ops.toList r F A k = true → (∀ a' W', PostC E A W n k a' W' → Q .normal a' W') →
    wpOpsIn Φ 0 P ops Q (List.range' m r.length) a W := by
  intro r
  induction r with
  | nil => intro m E A W F a _ hr hf h hQ; exact hQ _ _ ⟨F, A, E, h, hf, hr, Step.refl _ _ _⟩
  | cons o r ih =>
    intro m E A W F a hm hr hf h hQ
    have h' : stepK P cf n ops.toList o F A (fun F' A' => plainK P cf n ops.toList r F' A' k) = true := h
    have ho : ops[m]? = some o := by have := hm 0; simpa using this.symm
    rw [List.length_cons, List.range'_succ, wpOpsIn_cons]
    refine stepK_sound hΦ hw hcf ho hr hf h' fun a' W' hp => ?_
    obtain ⟨F', A', E', h1, h2, h3, h4⟩ := hp
    refine ih (m + 1) (fun j => ?_) h3 h2 h1 fun a'' W'' hp2 => hQ _ _ ?_
    · have := hm (j + 1); simp only [List.getElem?_cons_succ] at this; rw [this]; congr 1; omega
    · obtain ⟨F'', A'', E'', k1, k2, k3, k4⟩ := hp2
      exact ⟨F'', A'', E'', k1, k2, k3, h4.trans k4⟩
end
end Go.PE
