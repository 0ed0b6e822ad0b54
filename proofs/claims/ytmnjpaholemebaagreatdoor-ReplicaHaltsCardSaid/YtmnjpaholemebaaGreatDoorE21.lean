/-
  THE ENGINE, 21: other names: a state that is told of by one abstract heap is told of by another one, whose blocks bear other names, and in which a number is not known.
-/
import Derived.Test.YtmnjpaholemebaaGreatDoorE20
namespace Go.PE
open Go

/-- What the loop's number is now: a known one, or so much more than it was. -/
structure Bd where
  lit : Bool
  v : Nat
def Bd.val (b : Bd) (x : Int) : Int := cond b.lit b.v (x + b.v)

section
variable (σ lo hi : Nat) (b : Bd) (next : Nat)

noncomputable def symG (k : IntKind) (s : Sy) (old : AV) : Bool := match old with
  | .int k' n => cond (kq k k') (cond (Nat.beq s.name σ) (cond b.lit (cond (ieq n (.ofNat (Nat.add b.v s.c))) (cond (Nat.beq s.lo lo) (cond (Nat.beq s.hi hi) (Nat.beq s.m 0) false) false) false) false) false) false
  | .symi k' s' => cond (kq k k') (cond (Nat.beq s.name σ)
      (cond b.lit false (cond (Nat.beq s'.name σ) (cond (Nat.beq s'.c (Nat.add s.c b.v)) (cond (Nat.beq s.lo lo) (cond (Nat.beq s.hi hi) (Nat.beq s.m 0) false) false) false) false))
      (syq s s')) false
  | _ => false

/-- A number that can be but one. -/
noncomputable def oneS (a o : AV) : Bool := match a with
  | .int k n => (match o with
    | .symi k' s => cond (kq k k') (cond (Nat.beq s.lo s.hi) (ieq n (.ofNat (Nat.add s.lo s.c))) false) false
    | _ => false)
  | _ => false
theorem oneS_spec {E : Env} {a o : AV} (h : oneS a o = true) {x : Value} (hx : conc E o = some x) : ∀ E2, conc E2 a = some x := by
  intro E2
  unfold oneS at h
  split at h
  case h_2 => cases h
  split at h
  case h_2 => cases h
  rename_i s
  obtain ⟨h1, hh⟩ := cond_some' h
  clear h
  obtain ⟨h2, h3⟩ := cond_some' hh
  have := kq_eq h1; subst this
  have h2 := Nat.eq_of_beq_eq_true h2
  rw [ieq_eq] at h3
  have h3 := of_decide_eq_true h3
  obtain ⟨⟨q1, q2, _⟩, rfl⟩ := conc_symi hx
  simp only [conc, h3, Option.some.injEq, Value.int.injEq, true_and]
  show ((s.lo + s.c : Nat) : Int) = _
  omega

noncomputable def mapId (j i : Nat) (fw : T Nat) : Option (T Nat) := match fw.get j with
  | some i' => cond (Nat.beq i i') (some fw) none
  | none => cond (Nat.blt j next) (some (fw.set j i)) none

noncomputable def lmatch {α β : Type} (f : α → β → T Nat → Option (T Nat)) (l : List α) : List β → T Nat → Option (T Nat) := List.rec (motive := fun _ => List β → T Nat → Option (T Nat))
  (fun m fw => match m with | [] => some fw | _ => none)
  (fun x _ ih m fw => match m with | y :: m => (match f x y fw with | some fw => ih m fw | none => none) | [] => none) l

noncomputable def matchV (f : Nat) : AV → AV → T Nat → Option (T Nat) := Nat.rec (motive := fun _ => AV → AV → T Nat → Option (T Nat)) (fun _ _ _ => none)
  (fun _ ih a o fw => match a with
    | .symi k s => cond (symG σ lo hi b k s o) (some fw) none
    | .ptr j x => (match (generalizing := false) o with | .ptr i y => cond (Nat.beq x y) (mapId next j i fw) none | _ => none)
    | .slice j x l c => (match (generalizing := false) o with | .slice i y m d => cond (Nat.beq x y) (cond (Nat.beq l m) (cond (capq c d) (mapId next j i fw) none) none) none | _ => none)
    | .map j => (match (generalizing := false) o with | .map i => mapId next j i fw | _ => none)
    | .agg x => (match (generalizing := false) o with | .agg y => lmatch ih x y fw | _ => none)
    | .bool _ => cond (eqV 1 a o) (some fw) none
    | .int _ _ => cond (cond (eqV 1 a o) true (oneS a o)) (some fw) none
    | .str _ => cond (eqV 1 a o) (some fw) none
    | .nilptr => cond (eqV 1 a o) (some fw) none
    | .nilslice => cond (eqV 1 a o) (some fw) none
    | .nilmap => cond (eqV 1 a o) (some fw) none
    | .nilfunc => cond (eqV 1 a o) (some fw) none
    | .niliface => cond (eqV 1 a o) (some fw) none
    | .symv _ => cond (eqV 1 a o) (some fw) none
    | _ => none) f

noncomputable def rowsM (f : AV → AV → T Nat → Option (T Nat)) (new old : T (List AV)) (n : Nat) : T Nat → Option (T Nat) := Nat.rec (motive := fun _ => T Nat → Option (T Nat)) (fun fw => some fw)
  (fun r ih fw => match ih fw with
    | some fw => (match new.get r with
      | some x => (match old.get r with | some y => lmatch f x y fw | none => none)
      | none => none)
    | none => none) n
noncomputable def entM (f : AV → AV → T Nat → Option (T Nat)) (x y : AV × AV × Nat) (fw : T Nat) : Option (T Nat) :=
  cond (Nat.beq x.2.2 y.2.2) (match f x.1 y.1 fw with | some fw => f x.2.1 y.2.1 fw | none => none) none
noncomputable def matchO (f : AV → AV → T Nat → Option (T Nat)) (a o : AObj) (fw : T Nat) : Option (T Nat) := match a with
  | .cells esz n rows => (match (generalizing := false) o with
    | .cells esz' n' rows' => cond (Nat.beq esz esz') (cond (Nat.beq n n') (rowsM f rows rows' n fw) none) none
    | _ => none)
  | .map es clk => (match (generalizing := false) o with
    | .map es' clk' => cond (Nat.beq clk clk') (lmatch (entM f) es es' fw) none
    | _ => none)
  | _ => none

noncomputable def frM (f : AV → AV → T Nat → Option (T Nat)) (F : Fr) (l : List (Nat × AV)) : T Nat → Option (T Nat) := List.rec (motive := fun _ => T Nat → Option (T Nat)) (fun fw => some fw)
  (fun p _ ih fw => match F.t.get p.1 with
    | some v => (match f p.2 v fw with | some fw => ih fw | none => none)
    | none => none) l
noncomputable def obM (f : AV → AV → T Nat → Option (T Nat)) (A : AH) (l : List (Nat × AObj)) : T Nat → Option (T Nat) := List.rec (motive := fun _ => T Nat → Option (T Nat)) (fun fw => some fw)
  (fun p _ ih fw => match fw.get p.1 with
    | some i => (match A.heap.get i with
      | some o => (match matchO f p.2 o fw with | some fw => ih fw | none => none)
      | none => none)
    | none => none) l
noncomputable def back (fw : T Nat) (l : List (Nat × AObj)) : T Nat := List.rec (motive := fun _ => T Nat) .e (fun p _ ih => match fw.get p.1 with | some i => ih.set i p.1 | none => ih) l
noncomputable def injOk (fw bw : T Nat) (l : List (Nat × AObj)) : Bool := lall (fun p => match fw.get p.1 with
  | some i => (match bw.get i with | some j => Nat.beq j p.1 | none => false)
  | none => false) l

noncomputable def mkT {α : Type} (l : List (Nat × α)) : T α := List.rec (motive := fun _ => T α) .e (fun p _ ih => ih.set p.1 p.2) l
theorem mkT_get {α : Type} : ∀ {l : List (Nat × α)} {j : Nat} {x : α}, (mkT l).get j = some x → (j, x) ∈ l := by
  intro l
  induction l with
  | nil => intro j x h; have h' : (T.e : T α).get j = some x := h; rw [T.get_e] at h'; cases h'
  | cons p l ih =>
    intro j x h
    have h' : ((mkT l).set p.1 p.2).get j = some x := h
    rw [T.get_set] at h'
    split at h'
    · rename_i e; subst e; cases h'; exact List.mem_cons_self
    · exact List.mem_cons_of_mem _ (ih h')

structure St where
  fr : List (Nat × AV)
  ob : List (Nat × AObj)
noncomputable def St.F (s : St) : Fr := ⟨mkT s.fr, []⟩
noncomputable def St.A (s : St) (next : Nat) : AH := ⟨mkT s.ob, next⟩

noncomputable def sim (s : St) (F : Fr) (A : AH) : Bool := match F.ds with
  | [] => (match frM (matchV σ lo hi b next 40) F s.fr .e with
    | some fw => (match obM (matchV σ lo hi b next 40) A s.ob fw with
      | some fw => cond (injOk fw (back fw s.ob) s.ob) (lall (fun p => Nat.blt p.1 next) s.ob) false
      | none => false)
    | none => false)
  | _ => false

/-! ### What it tells -/
def Ext (fw fw' : T Nat) : Prop := ∀ j i, fw.get j = some i → fw'.get j = some i
theorem Ext.refl (fw : T Nat) : Ext fw fw := fun _ _ h => h
theorem Ext.trans {a b c : T Nat} (h : Ext a b) (k : Ext b c) : Ext a c := fun j i q => k j i (h j i q)
def Low (fw : T Nat) : Prop := ∀ j i, fw.get j = some i → j < next

variable {E : Env}
def Fits (E E2 : Env) (fw : T Nat) : Prop := (∀ j i, fw.get j = some i → E2.blk j = E.blk i) ∧ E2.sv = E.sv ∧ (∀ nm, nm ≠ σ → E2.sy nm = E.sy nm) ∧ E2.sy σ = b.val (E.sy σ) ∧ (lo : Int) ≤ E2.sy σ ∧ E2.sy σ ≤ hi
variable {σ lo hi b next}
theorem Fits.ext {E2 : Env} {fw fw' : T Nat} (h : Fits σ lo hi b E E2 fw') (he : Ext fw fw') : Fits σ lo hi b E E2 fw := ⟨fun j i q => h.1 j i (he j i q), h.2⟩

theorem mapId_spec {j i : Nat} {fw fw' : T Nat} (h : mapId next j i fw = some fw') : Ext fw fw' ∧ fw'.get j = some i ∧ (Low next fw → Low next fw') := by
  unfold mapId at h
  split at h
  · rename_i i' hi'
    obtain ⟨h1, h2⟩ := cond_some h
    cases h2
    have := Nat.eq_of_beq_eq_true h1; subst this
    exact ⟨.refl _, hi', id⟩
  · rename_i hn
    obtain ⟨h1, h2⟩ := cond_some h
    cases h2
    refine ⟨fun a c q => ?_, T.get_set_same _ _ _, fun hl a c q => ?_⟩
    · rw [T.get_set]; split
      · rename_i e; subst e; rw [hn] at q; cases q
      · exact q
    · rw [T.get_set] at q; split at q
      · rename_i e; subst e; exact blt_iff h1
      · exact hl a c q

def VOk (σ lo hi : Nat) (b : Bd) (next : Nat) (E : Env) (f : AV → AV → T Nat → Option (T Nat)) : Prop := ∀ (a o : AV) (fw fw' : T Nat), f a o fw = some fw' →
  Ext fw fw' ∧ (Low next fw → Low next fw') ∧ ∀ E2, Fits σ lo hi b E E2 fw' → ∀ x, conc E o = some x → conc E2 a = some x

theorem lmatch_nil {α β : Type} {f : α → β → T Nat → Option (T Nat)} {m : List β} {fw fw' : T Nat} (h : lmatch f [] m fw = some fw') : m = [] ∧ fw = fw' := by
  cases m with
  | nil => cases h; exact ⟨rfl, rfl⟩
  | cons y m => cases h
theorem lmatch_cons {α β : Type} {f : α → β → T Nat → Option (T Nat)} {x : α} {l : List α} {m : List β} {fw fw' : T Nat} (h : lmatch f (x :: l) m fw = some fw') : ∃ y m' fw1, m = y :: m' ∧ f x y fw = some fw1 ∧ lmatch f l m' fw1 = some fw' := by
  cases m with
  | nil => cases h
  | cons y m =>
    have h' : (match f x y fw with | some fw => lmatch f l m fw | none => none) = some fw' := h
    split at h'
    · rename_i fw1 h1; exact ⟨y, m, fw1, rfl, h1, h'⟩
    · cases h'
theorem lmatch_av {f : AV → AV → T Nat → Option (T Nat)} (hf : VOk σ lo hi b next E f) : ∀ (l m : List AV) (fw fw' : T Nat), lmatch f l m fw = some fw' →
    Ext fw fw' ∧ (Low next fw → Low next fw') ∧ ∀ E2, Fits σ lo hi b E E2 fw' → ∀ xs, concs E m = some xs → concs E2 l = some xs := by
  intro l
  induction l with
  | nil =>
    intro m fw fw' h
    obtain ⟨rfl, rfl⟩ := lmatch_nil h
    exact ⟨.refl _, id, fun E2 _ xs hx => by simpa [concs] using hx⟩
  | cons x l ih =>
    intro m fw fw' h
    obtain ⟨y, m, fw1, rfl, h1, h'⟩ := lmatch_cons h
    obtain ⟨a1, a2, a3⟩ := hf _ _ _ _ h1
    obtain ⟨c1, c2, c3⟩ := ih _ _ _ h'
    refine ⟨a1.trans c1, fun q => c2 (a2 q), fun E2 hE xs hx => ?_⟩
    simp only [concs, Option.bind_eq_some_iff, Option.map_eq_some_iff] at hx ⊢
    obtain ⟨v, hv, vs, hvs, rfl⟩ := hx
    exact ⟨v, a3 E2 (hE.ext c1) v hv, vs, c3 E2 hE vs hvs, rfl⟩

def plainV : AV → Bool
  | .bool _ | .int _ _ | .str _ | .nilptr | .nilslice | .nilmap | .nilfunc | .niliface | .symv _ => true
  | _ => false
theorem eqV_noId {E2 : Env} {a o : AV} (h : eqV 1 a o = true) (hsv : E2.sv = E.sv) (ha : plainV a = true) : ∀ x, conc E o = some x → conc E2 a = some x := by
  have := eqV_eq _ _ _ h; subst this
  intro x hx
  cases a <;> first
    | (exact absurd (show false = true from ha) (by decide))
    | (simpa [conc, hsv] using hx)

theorem symG_spec {k : IntKind} {s : Sy} {o : AV} (h : symG σ lo hi b k s o = true) {E2 : Env} {fw : T Nat} (hE : Fits σ lo hi b E E2 fw) : ∀ x, conc E o = some x → conc E2 (.symi k s) = some x := by
  intro x hx
  obtain ⟨_, _, e3, e4, e5, e6⟩ := hE
  unfold symG at h
  split at h
  · obtain ⟨h1, h⟩ := cond_some' h
    obtain ⟨h2, h⟩ := cond_some' h
    obtain ⟨h3, h⟩ := cond_some' h
    obtain ⟨h4, h⟩ := cond_some' h
    obtain ⟨h5, h⟩ := cond_some' h
    obtain ⟨h6, h7⟩ := cond_some' h
    have := kq_eq h1; subst this
    have g2 := Nat.eq_of_beq_eq_true h2
    have g5 := Nat.eq_of_beq_eq_true h5
    have g6 := Nat.eq_of_beq_eq_true h6
    have g7 := Nat.eq_of_beq_eq_true h7
    rw [ieq_eq] at h4
    have g4 := of_decide_eq_true h4
    simp only [conc, Option.some.injEq] at hx
    subst hx
    have hb : b.val (E.sy σ) = b.v := by unfold Bd.val; rw [h3]; rfl
    simp only [conc, g2]
    rw [if_pos ⟨by rw [g5]; exact e5, by rw [g6]; exact e6, .inl g7⟩, g4, e4, hb]
    rfl
  · obtain ⟨h1, hh⟩ := cond_some' h
    clear h
    have := kq_eq h1; subst this
    obtain ⟨hs, rfl⟩ := conc_symi hx
    cases hn : Nat.beq s.name σ with
    | true =>
      rw [hn, cond_true] at hh
      cases hl : b.lit with
      | true => rw [hl] at hh; cases hh
      | false =>
        rw [hl, cond_false] at hh
        obtain ⟨h3, hh⟩ := cond_some' hh
        obtain ⟨h4, hh⟩ := cond_some' hh
        obtain ⟨h5, hh⟩ := cond_some' hh
        obtain ⟨h6, h7⟩ := cond_some' hh
        have g2 := Nat.eq_of_beq_eq_true hn
        have g3 := Nat.eq_of_beq_eq_true h3
        have g4 := Nat.eq_of_beq_eq_true h4
        have g5 := Nat.eq_of_beq_eq_true h5
        have g6 := Nat.eq_of_beq_eq_true h6
        have g7 := Nat.eq_of_beq_eq_true h7
        have hb : b.val (E.sy σ) = E.sy σ + b.v := by unfold Bd.val; rw [hl]; rfl
        simp only [conc, g2, g3]
        rw [if_pos ⟨by rw [g5]; exact e5, by rw [g6]; exact e6, .inl g7⟩, g4, e4, hb]
        have : ((s.c.add b.v : Nat) : Int) = s.c + b.v := by show ((s.c + b.v : Nat) : Int) = _; omega
        rw [this, Int.add_assoc, Int.add_comm (b.v : Int)]
    | false =>
      rw [hn, cond_false] at hh
      have := syq_eq hh; subst this
      have hne : s.name ≠ σ := Nat.ne_of_beq_eq_false hn
      simp only [conc, e3 _ hne]
      rw [if_pos hs]
  · cases h

theorem matchV_ok : ∀ f, VOk σ lo hi b next E (matchV σ lo hi b next f) := by
  intro f
  induction f with
  | zero => intro a o fw fw' h; cases h
  | succ f ih =>
    intro a o fw fw' h
    have easy : ∀ (c : Bool), cond c (some fw) none = some fw' → c = true ∧ fw = fw' := by
      intro c hc; obtain ⟨h1, h2⟩ := cond_some hc; cases h2; exact ⟨h1, rfl⟩
    have same : ∀ (ha : plainV a = true), cond (eqV 1 a o) (some fw) none = some fw' →
        Ext fw fw' ∧ (Low next fw → Low next fw') ∧ ∀ E2, Fits σ lo hi b E E2 fw' → ∀ x, conc E o = some x → conc E2 a = some x := by
      intro ha hc
      obtain ⟨h1, rfl⟩ := easy _ hc
      exact ⟨.refl _, id, fun E2 hE => eqV_noId h1 hE.2.1 ha⟩
    cases a with
    | symi k s =>
      have h' : cond (symG σ lo hi b k s o) (some fw) none = some fw' := h
      obtain ⟨h1, rfl⟩ := easy _ h'
      exact ⟨.refl _, id, fun E2 hE => symG_spec h1 hE⟩
    | ptr j x =>
      have h' : (match (generalizing := false) o with | .ptr i y => cond (Nat.beq x y) (mapId next j i fw) none | _ => none) = some fw' := h
      split at h'
      case h_2 => cases h'
      rename_i i y
      obtain ⟨h1, h2⟩ := cond_some h'
      have := Nat.eq_of_beq_eq_true h1; subst this
      obtain ⟨m1, m2, m3⟩ := mapId_spec h2
      refine ⟨m1, m3, fun E2 hE v hv => ?_⟩
      simp only [conc] at hv ⊢
      rw [hE.1 j i m2]; exact hv
    | slice j x l c =>
      have h' : (match (generalizing := false) o with | .slice i y m d => cond (Nat.beq x y) (cond (Nat.beq l m) (cond (capq c d) (mapId next j i fw) none) none) none | _ => none) = some fw' := h
      split at h'
      case h_2 => cases h'
      rename_i i y m d
      obtain ⟨h1, h2⟩ := cond_some h'
      obtain ⟨h3, h4⟩ := cond_some h2
      obtain ⟨h5, h6⟩ := cond_some h4
      have := Nat.eq_of_beq_eq_true h1; subst this
      have := Nat.eq_of_beq_eq_true h3; subst this
      have := capq_eq h5; subst this
      obtain ⟨m1, m2, m3⟩ := mapId_spec h6
      refine ⟨m1, m3, fun E2 hE v hv => ?_⟩
      cases c <;> simp only [conc] at hv ⊢ <;> rw [hE.1 j i m2] <;> exact hv
    | map j =>
      have h' : (match (generalizing := false) o with | .map i => mapId next j i fw | _ => none) = some fw' := h
      split at h'
      case h_2 => cases h'
      rename_i i
      obtain ⟨m1, m2, m3⟩ := mapId_spec h'
      refine ⟨m1, m3, fun E2 hE v hv => ?_⟩
      simp only [conc] at hv ⊢
      rw [hE.1 j i m2]; exact hv
    | agg x =>
      have h' : (match (generalizing := false) o with | .agg y => lmatch (matchV σ lo hi b next f) x y fw | _ => none) = some fw' := h
      split at h'
      case h_2 => cases h'
      rename_i y
      obtain ⟨m1, m2, m3⟩ := lmatch_av ih _ _ _ _ h'
      refine ⟨m1, m2, fun E2 hE v hv => ?_⟩
      simp only [conc, Option.map_eq_some_iff] at hv ⊢
      obtain ⟨xs, hxs, rfl⟩ := hv
      exact ⟨xs, m3 E2 hE xs hxs, rfl⟩
    | bool _ => exact same rfl h
    | int k q =>
      have h' : cond (cond (eqV 1 (.int k q) o) true (oneS (.int k q) o)) (some fw) none = some fw' := h
      obtain ⟨h1, rfl⟩ := easy _ h'
      cases h2 : eqV 1 (.int k q) o with
      | true => exact ⟨.refl _, id, fun E2 hE => eqV_noId h2 hE.2.1 rfl⟩
      | false =>
        rw [h2, cond_false] at h1
        exact ⟨.refl _, id, fun E2 _ x hx => oneS_spec h1 hx E2⟩
    | str _ => exact same rfl h
    | nilptr => exact same rfl h
    | nilslice => exact same rfl h
    | nilmap => exact same rfl h
    | nilfunc => exact same rfl h
    | niliface => exact same rfl h
    | symv _ => exact same rfl h
    | _ => cases h

section
variable {f : AV → AV → T Nat → Option (T Nat)} (hf : VOk σ lo hi b next E f)
include hf

theorem rowsM_ok {new old : T (List AV)} : ∀ (n : Nat) (fw fw' : T Nat), rowsM f new old n fw = some fw' →
    Ext fw fw' ∧ (Low next fw → Low next fw') ∧ ∀ E2, Fits σ lo hi b E E2 fw' → ∀ r, r < n → ∃ x y, new.get r = some x ∧ old.get r = some y ∧ ∀ xs, concs E y = some xs → concs E2 x = some xs := by
  intro n
  induction n with
  | zero => intro fw fw' h; cases h; exact ⟨.refl _, id, fun _ _ r hr => by omega⟩
  | succ n ih =>
    intro fw fw' h
    have h' : (match rowsM f new old n fw with
      | some fw => (match new.get n with
        | some x => (match old.get n with | some y => lmatch f x y fw | none => none)
        | none => none)
      | none => none) = some fw' := h
    split at h'
    case h_2 => cases h'
    rename_i fw1 h1
    split at h'
    case h_2 => cases h'
    rename_i x hx
    split at h'
    case h_2 => cases h'
    rename_i y hy
    obtain ⟨a1, a2, a3⟩ := ih _ _ h1
    obtain ⟨c1, c2, c3⟩ := lmatch_av hf _ _ _ _ h'
    refine ⟨a1.trans c1, fun q => c2 (a2 q), fun E2 hE r hr => ?_⟩
    by_cases e : r = n
    · subst e; exact ⟨x, y, hx, hy, c3 E2 hE⟩
    · exact a3 E2 (hE.ext c1) r (by omega)

theorem entM_ok : ∀ (l m : List (AV × AV × Nat)) (fw fw' : T Nat), lmatch (entM f) l m fw = some fw' →
    Ext fw fw' ∧ (Low next fw → Low next fw') ∧ ∀ E2, Fits σ lo hi b E E2 fw' → ∀ es, F2 (EntryRel E) m es → F2 (EntryRel E2) l es := by
  intro l
  induction l with
  | nil =>
    intro m fw fw' h
    obtain ⟨rfl, rfl⟩ := lmatch_nil h
    exact ⟨.refl _, id, fun E2 _ es hes => by cases hes; exact .nil⟩
  | cons x l ih =>
    intro m fw fw' h
    obtain ⟨y, m, fw1, rfl, h1, h'⟩ := lmatch_cons h
    unfold entM at h1
    obtain ⟨hb, h1⟩ := cond_some h1
    have hb := Nat.eq_of_beq_eq_true hb
    split at h1
    case h_2 => cases h1
    rename_i fw0 h0
    obtain ⟨a1, a2, a3⟩ := hf _ _ _ _ h0
    obtain ⟨b1, b2, b3⟩ := hf _ _ _ _ h1
    obtain ⟨c1, c2, c3⟩ := ih _ _ _ h'
    refine ⟨a1.trans (b1.trans c1), fun q => c2 (b2 (a2 q)), fun E2 hE es hes => ?_⟩
    cases hes with
    | cons r t =>
      exact .cons ⟨a3 E2 (hE.ext (b1.trans c1)) _ r.1, b3 E2 (hE.ext c1) _ r.2.1, hb.trans r.2.2⟩ (c3 E2 hE _ t)

theorem matchO_ok {a o : AObj} {fw fw' : T Nat} (h : matchO f a o fw = some fw') :
    Ext fw fw' ∧ (Low next fw → Low next fw') ∧ ∀ E2, Fits σ lo hi b E E2 fw' → ∀ x ob, ObjRel E o x ob → ObjRel E2 a x ob := by
  unfold matchO at h
  split at h
  · split at h
    case h_2 => cases h
    obtain ⟨h1, h⟩ := cond_some h
    obtain ⟨h2, h3⟩ := cond_some h
    have := Nat.eq_of_beq_eq_true h1; subst this
    have := Nat.eq_of_beq_eq_true h2; subst this
    obtain ⟨a1, a2, a3⟩ := rowsM_ok hf _ _ _ h3
    refine ⟨a1, a2, fun E2 hE x ob hob => ?_⟩
    cases ob <;> simp only [ObjRel] at hob ⊢
    refine ⟨fun r hr => ?_, hob.2⟩
    obtain ⟨u, v, k1, k2, k3⟩ := a3 E2 hE r hr
    obtain ⟨row, xs, q1, q2, q3⟩ := hob.1 r hr
    rw [k2] at q1; cases q1
    exact ⟨u, xs, k1, k3 xs q2, q3⟩
  · split at h
    case h_2 => cases h
    obtain ⟨h1, h2⟩ := cond_some h
    have := Nat.eq_of_beq_eq_true h1; subst this
    obtain ⟨a1, a2, a3⟩ := entM_ok hf _ _ _ _ h2
    refine ⟨a1, a2, fun E2 hE x ob hob => ?_⟩
    cases ob <;> simp only [ObjRel] at hob ⊢
    exact ⟨hob.1, a3 E2 hE _ hob.2⟩
  · cases h

theorem frM_ok {F : Fr} : ∀ (l : List (Nat × AV)) (fw fw' : T Nat), frM f F l fw = some fw' →
    Ext fw fw' ∧ (Low next fw → Low next fw') ∧ ∀ E2, Fits σ lo hi b E E2 fw' → ∀ p ∈ l, ∃ v, F.t.get p.1 = some v ∧ ∀ x, conc E v = some x → conc E2 p.2 = some x := by
  intro l
  induction l with
  | nil => intro fw fw' h; cases h; exact ⟨.refl _, id, fun _ _ p hp => by cases hp⟩
  | cons q l ih =>
    intro fw fw' h
    have h' : (match F.t.get q.1 with
      | some v => (match f q.2 v fw with | some fw => frM f F l fw | none => none)
      | none => none) = some fw' := h
    split at h'
    case h_2 => cases h'
    rename_i v hv
    split at h'
    case h_2 => cases h'
    rename_i fw1 h1
    obtain ⟨a1, a2, a3⟩ := hf _ _ _ _ h1
    obtain ⟨c1, c2, c3⟩ := ih _ _ h'
    refine ⟨a1.trans c1, fun z => c2 (a2 z), fun E2 hE p hp => ?_⟩
    rcases List.mem_cons.1 hp with rfl | hp
    · exact ⟨v, hv, a3 E2 (hE.ext c1)⟩
    · exact c3 E2 hE p hp

theorem obM_ok {A : AH} : ∀ (l : List (Nat × AObj)) (fw fw' : T Nat), obM f A l fw = some fw' →
    Ext fw fw' ∧ (Low next fw → Low next fw') ∧ ∀ E2, Fits σ lo hi b E E2 fw' → ∀ p ∈ l, ∃ i o, fw'.get p.1 = some i ∧ A.heap.get i = some o ∧ ∀ x ob, ObjRel E o x ob → ObjRel E2 p.2 x ob := by
  intro l
  induction l with
  | nil => intro fw fw' h; cases h; exact ⟨.refl _, id, fun _ _ p hp => by cases hp⟩
  | cons q l ih =>
    intro fw fw' h
    have h' : (match fw.get q.1 with
      | some i => (match A.heap.get i with
        | some o => (match matchO f q.2 o fw with | some fw => obM f A l fw | none => none)
        | none => none)
      | none => none) = some fw' := h
    split at h'
    case h_2 => cases h'
    rename_i i hi'
    split at h'
    case h_2 => cases h'
    rename_i o ho
    split at h'
    case h_2 => cases h'
    rename_i fw1 h1
    obtain ⟨a1, a2, a3⟩ := matchO_ok hf h1
    obtain ⟨c1, c2, c3⟩ := ih _ _ h'
    refine ⟨a1.trans c1, fun z => c2 (a2 z), fun E2 hE p hp => ?_⟩
    rcases List.mem_cons.1 hp with rfl | hp
    · exact ⟨i, o, c1 _ _ (a1 _ _ hi'), ho, a3 E2 (hE.ext c1)⟩
    · exact c3 E2 hE p hp
end

/-- ████ The same state under other names. -/
theorem regain [Amb] {am2 : Unit → Amb} (hn : (am2 ()).n0 = Amb.n0) (hm : (am2 ()).mem = Amb.mem) (hv : (am2 ()).sv = Amb.sv) (hσ : ∀ nm, nm ≠ σ → (am2 ()).sy nm = Amb.sy nm) (hσ2 : (am2 ()).sy σ = b.val (Amb.sy σ)) (h1 : (lo : Int) ≤ (am2 ()).sy σ) (h2 : (am2 ()).sy σ ≤ hi)
    {s : St} {F : Fr} {A : AH} {W : World} {n : Nat} {a : Act} (hr : Rel E A W) (hf : FRel E n F a) (h : sim σ lo hi b next s F A = true) :
    ∃ E2, @Rel (am2 ()) E2 (s.A next) W ∧ FRel E2 n s.F a := by
  unfold sim at h
  split at h
  case h_2 => cases h
  rename_i hds
  split at h
  case h_2 => cases h
  rename_i fw1 hfr
  split at h
  case h_2 => cases h
  rename_i fw hob
  obtain ⟨hinj, hlow⟩ := cond_some' h
  obtain ⟨a1, a2, a3⟩ := frM_ok (matchV_ok (E := E) 40) _ _ _ hfr
  obtain ⟨c1, c2, c3⟩ := obM_ok (matchV_ok (E := E) 40) _ _ _ hob
  have hlowf : Low next fw := c2 (a2 fun j i q => by rw [T.get_e] at q; cases q)
  have hE : E.sy = Amb.sy ∧ E.sv = Amb.sv := hr.names
  let E2 : Env := { blk := fun j => match fw.get j with | some i => E.blk i | none => none, sy := (am2 ()).sy, sv := (am2 ()).sv }
  have hfit : Fits σ lo hi b E E2 fw := by
    refine ⟨fun j i q => ?_, by show (am2 ()).sv = E.sv; rw [hv, hE.2], fun nm hnm => by show (am2 ()).sy nm = E.sy nm; rw [hσ nm hnm, hE.1], by show (am2 ()).sy σ = _; rw [hE.1]; exact hσ2, h1, h2⟩
    show (match fw.get j with | some i => E.blk i | none => none) = _
    rw [q]
  have ex : ∀ j x, E2.blk j = some x → ∃ i, fw.get j = some i ∧ E.blk i = some x := by
    intro j x hx
    have hx' : (match fw.get j with | some i => E.blk i | none => none) = some x := hx
    split at hx'
    · rename_i i hi'; exact ⟨i, hi', hx'⟩
    · cases hx'
  refine ⟨E2, @Rel.mk (am2 ()) _ _ _ ?_ ?_ ?_ ?_ ?_ ?_ ?_, ?_⟩
  · intro j o x hj hx
    have hmem := mkT_get (show (mkT s.ob).get j = some o from hj)
    obtain ⟨i, o1, k1, k2, k3⟩ := c3 E2 hfit _ hmem
    obtain ⟨i', k4, k5⟩ := ex j x hx
    rw [k1] at k4; cases k4
    obtain ⟨ob, q1, q2⟩ := hr.obj i o1 x k2 k5
    exact ⟨ob, q1, k3 x ob q2⟩
  · intro j1 j2 o1 o2 x y hj1 hj2 hx hy e
    have hm1 := mkT_get (show (mkT s.ob).get j1 = some o1 from hj1)
    have hm2 := mkT_get (show (mkT s.ob).get j2 = some o2 from hj2)
    obtain ⟨i1, q1, k1, k2, _⟩ := c3 E2 hfit _ hm1
    obtain ⟨i2, q2, g1, g2, _⟩ := c3 E2 hfit _ hm2
    obtain ⟨i1', k4, k5⟩ := ex j1 x hx
    obtain ⟨i2', g4, g5⟩ := ex j2 y hy
    rw [k1] at k4; cases k4
    rw [g1] at g4; cases g4
    have hii := hr.inj i1 i2 q1 q2 x y k2 g2 k5 g5 e
    have p1 := lall_eq _ _ hinj _ hm1
    have p2 := lall_eq _ _ hinj _ hm2
    simp only [k1, g1] at p1 p2
    split at p1
    case h_2 => cases p1
    rename_i z1 hz1
    split at p2
    case h_2 => cases p2
    rename_i z2 hz2
    rw [hii, hz2] at hz1; cases hz1
    exact (Nat.eq_of_beq_eq_true p1).symm.trans (Nat.eq_of_beq_eq_true p2)
  · intro j hj
    show (match fw.get j with | some i => E.blk i | none => none) = none
    split
    · rename_i i hi'
      have := hlowf j i hi'
      have hj : next ≤ j := hj
      omega
    · rfl
  · intro j hj
    cases hg : (s.A next).heap.get j with
    | none => rfl
    | some o =>
      have hmem := mkT_get (show (mkT s.ob).get j = some o from hg)
      have := blt_iff (lall_eq _ _ hlow _ hmem)
      have hj : next ≤ j := hj
      have this : j < next := this
      omega
  · intro j x hx
    obtain ⟨i, _, k5⟩ := ex j x hx
    exact hr.bound i x k5
  · refine ⟨by rw [hn]; exact hr.amb.1, fun k hk => by rw [hm]; rw [hn] at hk; exact hr.amb.2.1 k hk, fun j x hx => ?_⟩
    obtain ⟨i, _, k5⟩ := ex j x hx
    rw [hn]; exact hr.amb.2.2 i x k5
  · exact ⟨rfl, rfl⟩
  · refine ⟨hf.size, ?_, fun t v ht => ?_⟩
    · have := hf.defers
      rw [hds] at this
      show F2 (Mark E2) [] a.defers
      cases hd : a.defers with
      | nil => exact .nil
      | cons _ _ => rw [hd] at this; cases this
    · have hmem := mkT_get (show (mkT s.fr).get t = some v from ht)
      obtain ⟨v1, k1, k2⟩ := a3 E2 (hfit.ext c1) _ hmem
      exact k2 _ (hf.get t v1 k1)
end
end Go.PE
