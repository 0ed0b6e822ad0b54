/-
  THE ENGINE, 21: other names: a state that is told of by one abstract heap is told of by another one, whose blocks bear other names, and in which a number is not known.
-/
import Derived.Test.YtmnjpaholemebaaGreatDoorE20
namespace Go.PE
open Go

/-- What the loop's number is now: a known one, or so much more than it was. -/
structure Bd where
  lit : Bool
  v : Nat
def Bd.val (b : Bd) (x : Int) : Int := cond b.lit b.v (x + b.v)

section
variable (σ lo hi : Nat) (b : Bd) (next : Nat)

/-- What has been told so far: which block is which; which numbers the new names stand for. -/
structure MS where
  fw : T Nat
  bm : T AV
noncomputable def plainS (s : Sy) : Bool := cond (Nat.beq s.k 1) (cond (Nat.beq s.dv 1) (cond (Nat.beq s.md 0) (Nat.beq s.m 0) false) false) false
noncomputable def bindN (nm : Nat) (old : AV) (fw : MS) : Option MS := match fw.bm.get nm with
  | some o => cond (eqV 2 o old) (some fw) none
  | none => some ⟨fw.fw, fw.bm.set nm old⟩
noncomputable def within (s : Sy) (old : AV) : Bool := match old with
  | .int _ n => (match n with
    | .ofNat q => cond (Nat.ble s.lo q) (cond (Nat.ble q s.hi) (cond (Nat.beq s.m 0) true (Nat.beq (Nat.mod q s.m) s.r)) false) false
    | .negSucc _ => false)
  | .symi _ u => cond (Nat.ble s.lo u.bot) (cond (Nat.ble u.top s.hi) (cond (Nat.beq s.m 0) true (cond (Nat.beq (Nat.mod u.k s.m) 0) (Nat.beq (Nat.mod u.c s.m) s.r) false)) false) false
  | _ => false
noncomputable def kindA (k : IntKind) (old : AV) : Bool := match old with
  | .int k' _ => kq k k'
  | .symi k' _ => kq k k'
  | _ => false
noncomputable def symL (s : Sy) (old : AV) : Bool := cond (plainS s) (cond (Nat.beq s.lo lo) (cond (Nat.beq s.hi hi) (match old with
  | .int _ n => cond b.lit (ieq n (.ofNat (Nat.add b.v s.c))) false
  | .symi _ u => cond b.lit false (cond (plainS u) (cond (Nat.beq u.name σ) (Nat.beq u.c (Nat.add s.c b.v)) false) false)
  | _ => false) false) false) false
noncomputable def symG (k : IntKind) (s : Sy) (old : AV) (fw : MS) : Option MS :=
  cond (kindA k old) (cond (Nat.beq s.name σ) (cond (symL σ lo hi b s old) (some fw) none)
    (cond (Nat.ble 1000 s.name) (cond (cond (Nat.beq s.k 1) (cond (Nat.beq s.dv 1) (cond (Nat.beq s.md 0) (Nat.beq s.c 0) false) false) false) (cond (within s old) (bindN s.name old fw) none) none)
      (match old with | .symi _ u => cond (syq s u) (some fw) none | _ => none))) none

/-- A number that can be but one. -/
noncomputable def oneS (a o : AV) : Bool := match a with
  | .int k n => (match o with
    | .symi k' s => cond (kq k k') (cond (Nat.beq s.bot s.top) (ieq n (.ofNat s.bot)) false) false
    | _ => false)
  | _ => false
theorem oneS_spec {E : Env} {a o : AV} (h : oneS a o = true) {x : Value} (hx : conc E o = some x) : ∀ E2, conc E2 a = some x := by
  intro E2
  unfold oneS at h
  split at h
  case h_2 => cases h
  split at h
  case h_2 => cases h
  rename_i s
  obtain ⟨h1, hh⟩ := cond_some' h
  clear h
  obtain ⟨h2, h3⟩ := cond_some' hh
  have := kq_eq h1; subst this
  have h2 := Nat.eq_of_beq_eq_true h2
  rw [ieq_eq] at h3
  have h3 := of_decide_eq_true h3
  obtain ⟨hok, rfl⟩ := conc_symi hx
  obtain ⟨q, _, _, _, e, b1, b2⟩ := Sy.nat hok
  simp only [conc, h3, Option.some.injEq, Value.int.injEq, true_and]
  show ((s.bot : Nat) : Int) = _
  omega

noncomputable def mapId (j i : Nat) (fw : MS) : Option MS := match fw.fw.get j with
  | some i' => cond (Nat.beq i i') (some fw) none
  | none => cond (Nat.blt j next) (some ⟨fw.fw.set j i, fw.bm⟩) none

noncomputable def lmatch {α β : Type} (f : α → β → MS → Option MS) (l : List α) : List β → MS → Option MS := List.rec (motive := fun _ => List β → MS → Option MS)
  (fun m fw => match m with | [] => some fw | _ => none)
  (fun x _ ih m fw => match m with | y :: m => (match f x y fw with | some fw => ih m fw | none => none) | [] => none) l

noncomputable def matchV (f : Nat) : AV → AV → MS → Option MS := Nat.rec (motive := fun _ => AV → AV → MS → Option MS) (fun _ _ _ => none)
  (fun _ ih a o fw => match a with
    | .symi k s => symG σ lo hi b k s o fw
    | .ptr j x => (match (generalizing := false) o with | .ptr i y => cond (Nat.beq x y) (mapId next j i fw) none | _ => none)
    | .slice j x l c => (match (generalizing := false) o with | .slice i y m d => cond (Nat.beq x y) (cond (Nat.beq l m) (cond (capq c d) (mapId next j i fw) none) none) none | _ => none)
    | .map j => (match (generalizing := false) o with | .map i => mapId next j i fw | _ => none)
    | .agg x => (match (generalizing := false) o with | .agg y => lmatch ih x y fw | _ => none)
    | .bool _ => cond (eqV 1 a o) (some fw) none
    | .int _ _ => cond (cond (eqV 1 a o) true (oneS a o)) (some fw) none
    | .str _ => cond (eqV 1 a o) (some fw) none
    | .nilptr => cond (eqV 1 a o) (some fw) none
    | .nilslice => cond (eqV 1 a o) (some fw) none
    | .nilmap => cond (eqV 1 a o) (some fw) none
    | .nilfunc => cond (eqV 1 a o) (some fw) none
    | .niliface => cond (eqV 1 a o) (some fw) none
    | .symv _ => cond (eqV 1 a o) (some fw) none
    | _ => none) f

noncomputable def rowsM (f : AV → AV → MS → Option MS) (new old : T (List AV)) (n : Nat) : MS → Option MS := Nat.rec (motive := fun _ => MS → Option MS) (fun fw => some fw)
  (fun r ih fw => match ih fw with
    | some fw => (match new.get r with
      | some x => (match old.get r with | some y => lmatch f x y fw | none => none)
      | none => none)
    | none => none) n
noncomputable def entM (f : AV → AV → MS → Option MS) (x y : AV × AV × Nat) (fw : MS) : Option MS :=
  cond (Nat.beq x.2.2 y.2.2) (match f x.1 y.1 fw with | some fw => f x.2.1 y.2.1 fw | none => none) none
noncomputable def matchO (f : AV → AV → MS → Option MS) (a o : AObj) (fw : MS) : Option MS := match a with
  | .cells esz n rows => (match (generalizing := false) o with
    | .cells esz' n' rows' => cond (Nat.beq esz esz') (cond (Nat.beq n n') (rowsM f rows rows' n fw) none) none
    | _ => none)
  | .map es clk => (match (generalizing := false) o with
    | .map es' clk' => cond (Nat.beq clk clk') (lmatch (entM f) es es' fw) none
    | _ => none)
  | _ => none

noncomputable def frM (f : AV → AV → MS → Option MS) (F : Fr) (l : List (Nat × AV)) : MS → Option MS := List.rec (motive := fun _ => MS → Option MS) (fun fw => some fw)
  (fun p _ ih fw => match F.t.get p.1 with
    | some v => (match f p.2 v fw with | some fw => ih fw | none => none)
    | none => none) l
noncomputable def obM (f : AV → AV → MS → Option MS) (A : AH) (l : List (Nat × AObj)) : MS → Option MS := List.rec (motive := fun _ => MS → Option MS) (fun fw => some fw)
  (fun p _ ih fw => match fw.fw.get p.1 with
    | some i => (match A.heap.get i with
      | some o => (match matchO f p.2 o fw with | some fw => ih fw | none => none)
      | none => none)
    | none => none) l
noncomputable def back (fw : MS) (l : List (Nat × AObj)) : T Nat := List.rec (motive := fun _ => T Nat) .e (fun p _ ih => match fw.fw.get p.1 with | some i => ih.set i p.1 | none => ih) l
noncomputable def injOk (fw : MS) (bw : T Nat) (l : List (Nat × AObj)) : Bool := lall (fun p => match fw.fw.get p.1 with
  | some i => (match bw.get i with | some j => Nat.beq j p.1 | none => false)
  | none => false) l

noncomputable def mkT {α : Type} (l : List (Nat × α)) : T α := List.rec (motive := fun _ => T α) .e (fun p _ ih => ih.set p.1 p.2) l
theorem mkT_get {α : Type} : ∀ {l : List (Nat × α)} {j : Nat} {x : α}, (mkT l).get j = some x → (j, x) ∈ l := by
  intro l
  induction l with
  | nil => intro j x h; have h' : (T.e : T α).get j = some x := h; rw [T.get_e] at h'; cases h'
  | cons p l ih =>
    intro j x h
    have h' : ((mkT l).set p.1 p.2).get j = some x := h
    rw [T.get_set] at h'
    split at h'
    · rename_i e; subst e; cases h'; exact List.mem_cons_self
    · exact List.mem_cons_of_mem _ (ih h')

structure St where
  fr : List (Nat × AV)
  ob : List (Nat × AObj)
noncomputable def St.F (s : St) : Fr := ⟨mkT s.fr, []⟩
noncomputable def St.A (s : St) (next : Nat) : AH := ⟨mkT s.ob, next⟩

noncomputable def sim (s : St) (F : Fr) (A : AH) : Bool := match F.ds with
  | [] => (match frM (matchV σ lo hi b next 40) F s.fr ⟨.e, .e⟩ with
    | some fw => (match obM (matchV σ lo hi b next 40) A s.ob fw with
      | some fw => cond (injOk fw (back fw s.ob) s.ob) (lall (fun p => Nat.blt p.1 next) s.ob) false
      | none => false)
    | none => false)
  | _ => false

/-! ### What it tells -/
def Ext (fw fw' : MS) : Prop := (∀ j i, fw.fw.get j = some i → fw'.fw.get j = some i) ∧ ∀ nm av, fw.bm.get nm = some av → fw'.bm.get nm = some av
theorem Ext.refl (fw : MS) : Ext fw fw := ⟨fun _ _ h => h, fun _ _ h => h⟩
theorem Ext.trans {a b c : MS} (h : Ext a b) (k : Ext b c) : Ext a c := ⟨fun j i q => k.1 j i (h.1 j i q), fun j i q => k.2 j i (h.2 j i q)⟩
def Low (fw : MS) : Prop := ∀ j i, fw.fw.get j = some i → j < next
def Big (fw : MS) : Prop := ∀ nm av, fw.bm.get nm = some av → 1000 ≤ nm
def Keep (fw fw' : MS) : Prop := (Low next fw → Low next fw') ∧ (Big fw → Big fw')
theorem Keep.refl (fw : MS) : Keep next fw fw := ⟨id, id⟩
variable {next} in
theorem Keep.trans {a b c : MS} (h : Keep next a b) (k : Keep next b c) : Keep next a c := ⟨fun q => k.1 (h.1 q), fun q => k.2 (h.2 q)⟩

variable {E : Env}
def Fits (E E2 : Env) (fw : MS) : Prop := (∀ j i, fw.fw.get j = some i → E2.blk j = E.blk i) ∧ E2.sv = E.sv ∧ (∀ nm, nm < 1000 → nm ≠ σ → E2.sy nm = E.sy nm) ∧
  (∀ nm av, nm ≠ σ → fw.bm.get nm = some av → ∀ k v, conc E av = some (.int k v) → E2.sy nm = v) ∧ E2.sy σ = b.val (E.sy σ) ∧ (lo : Int) ≤ E2.sy σ ∧ E2.sy σ ≤ hi
variable {σ lo hi b next}
theorem Fits.ext {E2 : Env} {fw fw' : MS} (h : Fits σ lo hi b E E2 fw') (he : Ext fw fw') : Fits σ lo hi b E E2 fw := ⟨fun j i q => h.1 j i (he.1 j i q), h.2.1, h.2.2.1, fun nm av hn q => h.2.2.2.1 nm av hn (he.2 nm av q), h.2.2.2.2⟩

theorem mapId_spec {j i : Nat} {fw fw' : MS} (h : mapId next j i fw = some fw') : Ext fw fw' ∧ fw'.fw.get j = some i ∧ Keep next fw fw' := by
  unfold mapId at h
  split at h
  · rename_i i' hi'
    obtain ⟨h1, h2⟩ := cond_some h
    cases h2
    have := Nat.eq_of_beq_eq_true h1; subst this
    exact ⟨.refl _, hi', Keep.refl _ _⟩
  · rename_i hn
    obtain ⟨h1, h2⟩ := cond_some h
    cases h2
    refine ⟨⟨fun a c q => ?_, fun _ _ q => q⟩, T.get_set_same _ _ _, ⟨fun hl a c q => ?_, id⟩⟩
    · show (fw.fw.set j i).get a = some c
      rw [T.get_set]; split
      · rename_i e; subst e; rw [hn] at q; cases q
      · exact q
    · have q : (fw.fw.set j i).get a = some c := q
      rw [T.get_set] at q; split at q
      · rename_i e; subst e; exact blt_iff h1
      · exact hl a c q

def VOk (σ lo hi : Nat) (b : Bd) (next : Nat) (E : Env) (f : AV → AV → MS → Option MS) : Prop := ∀ (a o : AV) (fw fw' : MS), f a o fw = some fw' →
  Ext fw fw' ∧ Keep next fw fw' ∧ ∀ E2, Fits σ lo hi b E E2 fw' → ∀ x, conc E o = some x → conc E2 a = some x

theorem lmatch_nil {α β : Type} {f : α → β → MS → Option MS} {m : List β} {fw fw' : MS} (h : lmatch f [] m fw = some fw') : m = [] ∧ fw = fw' := by
  cases m with
  | nil => cases h; exact ⟨rfl, rfl⟩
  | cons y m => cases h
theorem lmatch_cons {α β : Type} {f : α → β → MS → Option MS} {x : α} {l : List α} {m : List β} {fw fw' : MS} (h : lmatch f (x :: l) m fw = some fw') : ∃ y m' fw1, m = y :: m' ∧ f x y fw = some fw1 ∧ lmatch f l m' fw1 = some fw' := by
  cases m with
  | nil => cases h
  | cons y m =>
    have h' : (match f x y fw with | some fw => lmatch f l m fw | none => none) = some fw' := h
    split at h'
    · rename_i fw1 h1; exact ⟨y, m, fw1, rfl, h1, h'⟩
    · cases h'
theorem lmatch_av {f : AV → AV → MS → Option MS} (hf : VOk σ lo hi b next E f) : ∀ (l m : List AV) (fw fw' : MS), lmatch f l m fw = some fw' →
    Ext fw fw' ∧ Keep next fw fw' ∧ ∀ E2, Fits σ lo hi b E E2 fw' → ∀ xs, concs E m = some xs → concs E2 l = some xs := by
  intro l
  induction l with
  | nil =>
    intro m fw fw' h
    obtain ⟨rfl, rfl⟩ := lmatch_nil h
    exact ⟨.refl _, Keep.refl _ _, fun E2 _ xs hx => by simpa [concs] using hx⟩
  | cons x l ih =>
    intro m fw fw' h
    obtain ⟨y, m, fw1, rfl, h1, h'⟩ := lmatch_cons h
    obtain ⟨a1, a2, a3⟩ := hf _ _ _ _ h1
    obtain ⟨c1, c2, c3⟩ := ih _ _ _ h'
    refine ⟨a1.trans c1, a2.trans c2, fun E2 hE xs hx => ?_⟩
    simp only [concs, Option.bind_eq_some_iff, Option.map_eq_some_iff] at hx ⊢
    obtain ⟨v, hv, vs, hvs, rfl⟩ := hx
    exact ⟨v, a3 E2 (hE.ext c1) v hv, vs, c3 E2 hE vs hvs, rfl⟩

def plainV : AV → Bool
  | .bool _ | .int _ _ | .str _ | .nilptr | .nilslice | .nilmap | .nilfunc | .niliface | .symv _ => true
  | _ => false
theorem eqV_noId {E2 : Env} {a o : AV} (h : eqV 1 a o = true) (hsv : E2.sv = E.sv) (ha : plainV a = true) : ∀ x, conc E o = some x → conc E2 a = some x := by
  have := eqV_eq _ _ _ h; subst this
  intro x hx
  cases a <;> first
    | (exact absurd (show false = true from ha) (by decide))
    | (simpa [conc, hsv] using hx)

theorem bindN_spec {nm : Nat} {old : AV} {fw fw' : MS} (hbig : 1000 ≤ nm) (h : bindN nm old fw = some fw') : Ext fw fw' ∧ fw'.bm.get nm = some old ∧ Keep next fw fw' := by
  unfold bindN at h
  split at h
  · rename_i o ho
    obtain ⟨h1, h2⟩ := cond_some h
    cases h2
    have := eqV_eq _ _ _ h1; subst this
    exact ⟨.refl _, ho, Keep.refl _ _⟩
  · rename_i hn
    cases h
    refine ⟨⟨fun _ _ q => q, fun a c q => ?_⟩, T.get_set_same _ _ _, ⟨id, fun hl a c q => ?_⟩⟩
    · show (fw.bm.set nm old).get a = some c
      rw [T.get_set]; split
      · rename_i e; subst e; rw [hn] at q; cases q
      · exact q
    · have q : (fw.bm.set nm old).get a = some c := q
      rw [T.get_set] at q; split at q
      · rename_i e; subst e; exact hbig
      · exact hl a c q
theorem plainS_val {s : Sy} (h : plainS s = true) (sy : Nat → Int) : s.val sy = sy s.name + s.c ∧ s.t sy = sy s.name ∧ s.m = 0 := by
  unfold plainS at h
  obtain ⟨h1, h⟩ := cs2 h
  obtain ⟨h2, h⟩ := cs2 h
  obtain ⟨h3, h4⟩ := cs2 h
  have h1 := Nat.eq_of_beq_eq_true h1
  have h2 := Nat.eq_of_beq_eq_true h2
  have h3 := Nat.eq_of_beq_eq_true h3
  have ht : s.t sy = sy s.name := by unfold Sy.t; rw [if_pos h3, h2]; simp
  refine ⟨?_, ht, Nat.eq_of_beq_eq_true h4⟩
  unfold Sy.val; rw [ht, h1]; simp
theorem kindA_int {k : IntKind} {old : AV} (h : kindA k old = true) {x : Value} (hx : conc E old = some x) : ∃ v, x = .int k v := by
  unfold kindA at h
  split at h
  · have := kq_eq h; subst this
    simp only [conc, Option.some.injEq] at hx
    exact ⟨_, hx.symm⟩
  · have := kq_eq h; subst this
    obtain ⟨_, rfl⟩ := conc_symi hx
    exact ⟨_, rfl⟩
  · cases h
theorem within_ok {s : Sy} {old : AV} (h : within s old = true) {k : IntKind} {v : Int} (hx : conc E old = some (.int k v)) : (s.lo : Int) ≤ v ∧ v ≤ s.hi ∧ (s.m = 0 ∨ v % s.m = s.r) := by
  unfold within at h
  split at h
  · simp only [conc, Option.some.injEq, Value.int.injEq] at hx
    split at h
    case h_2 => cases h
    rename_i q
    obtain ⟨h1, h'⟩ := cs2 h
    obtain ⟨h2, h3⟩ := cs2 h'
    have h1 := Nat.le_of_ble_eq_true h1
    have h2 := Nat.le_of_ble_eq_true h2
    obtain ⟨_, rfl⟩ := hx
    rw [Int.ofNat_eq_natCast]
    refine ⟨by omega, by omega, ?_⟩
    cases hm : Nat.beq s.m 0 with
    | true => exact .inl (Nat.eq_of_beq_eq_true hm)
    | false =>
      rw [hm, cond_false] at h3
      have h3 : q % s.m = s.r := Nat.eq_of_beq_eq_true h3
      exact .inr (by omega)
  · rename_i u
    obtain ⟨hu, he⟩ := conc_symi hx
    simp only [Value.int.injEq] at he
    obtain ⟨q, e0, e1, e2, e, b1, b2⟩ := Sy.nat hu
    obtain ⟨h1, h'⟩ := cs2 h
    obtain ⟨h2, h3⟩ := cs2 h'
    have h1 := Nat.le_of_ble_eq_true h1
    have h2 := Nat.le_of_ble_eq_true h2
    rw [he.2, e]
    refine ⟨by omega, by omega, ?_⟩
    cases hm : Nat.beq s.m 0 with
    | true => exact .inl (Nat.eq_of_beq_eq_true hm)
    | false =>
      rw [hm, cond_false] at h3
      obtain ⟨h4, h5⟩ := cs2 h3
      have h4 : u.k % s.m = 0 := Nat.eq_of_beq_eq_true h4
      have h5 : u.c % s.m = s.r := Nat.eq_of_beq_eq_true h5
      have h6 : (u.k * q + u.c) % s.m = s.r := by
        rw [Nat.add_mod, Nat.mul_mod, h4, Nat.zero_mul, Nat.zero_mod, Nat.zero_add, Nat.mod_mod, h5]
      exact .inr (by omega)
  · cases h
theorem symG_spec {k : IntKind} {s : Sy} {o : AV} {fw fw' : MS} (h : symG σ lo hi b k s o fw = some fw') : Ext fw fw' ∧ Keep next fw fw' ∧ ∀ E2, Fits σ lo hi b E E2 fw' → ∀ x, conc E o = some x → conc E2 (.symi k s) = some x := by
  unfold symG at h
  obtain ⟨hk, h1⟩ := cond_some h
  clear h
  rcases cond_opt h1 with ⟨hσ, h2⟩ | ⟨hσ, h2⟩
  · obtain ⟨hl, h3⟩ := cond_some h2
    cases h3
    refine ⟨.refl _, Keep.refl _ _, fun E2 hE x hx => ?_⟩
    obtain ⟨_, _, _, _, e4, e5, e6⟩ := hE
    have hσ := Nat.eq_of_beq_eq_true hσ
    obtain ⟨v, rfl⟩ := kindA_int hk hx
    unfold symL at hl
    obtain ⟨g1, g2⟩ := cs2 hl
    obtain ⟨g2, g3⟩ := cs2 g2
    obtain ⟨g3, g4⟩ := cs2 g3
    obtain ⟨p1, p2, p3⟩ := plainS_val g1 E2.sy
    have g2 := Nat.eq_of_beq_eq_true g2
    have g3 := Nat.eq_of_beq_eq_true g3
    refine conc_symi_mk ⟨by rw [p2, hσ, g2]; exact e5, by rw [p2, hσ, g3]; exact e6, .inl p3⟩ ?_
    rw [p1, hσ, e4]
    split at g4
    · obtain ⟨q1, q2⟩ := cs2 g4
      rw [ieq_eq] at q2
      have q2 := of_decide_eq_true q2
      simp only [conc, Option.some.injEq, Value.int.injEq] at hx
      have hb : b.val (E.sy σ) = b.v := by unfold Bd.val; rw [q1]; rfl
      rw [hb, ← hx.2, q2]; rfl
    · rename_i u
      have q0 : b.lit = false := by cases hb : b.lit <;> simp_all
      rw [q0, cond_false] at g4
      obtain ⟨q1, q2⟩ := cs2 g4
      obtain ⟨q2, q3⟩ := cs2 q2
      have q2 := Nat.eq_of_beq_eq_true q2
      have q3 := Nat.eq_of_beq_eq_true q3
      obtain ⟨r1, _, _⟩ := plainS_val q1 E.sy
      obtain ⟨_, he⟩ := conc_symi hx
      simp only [Value.int.injEq] at he
      have hb : b.val (E.sy σ) = E.sy σ + b.v := by unfold Bd.val; rw [q0]; rfl
      have q3 : u.c = s.c + b.v := q3
      rw [hb, he.2, r1, q2, q3]
      omega
    · cases g4
  · have hσ := Nat.ne_of_beq_eq_false hσ
    rcases cond_opt h2 with ⟨hf, h3⟩ | ⟨hf, h3⟩
    · obtain ⟨g1, h4⟩ := cond_some h3
      obtain ⟨g2, h5⟩ := cond_some h4
      obtain ⟨m1, m2, m3⟩ := bindN_spec (next := next) (Nat.le_of_ble_eq_true hf) h5
      refine ⟨m1, m3, fun E2 hE x hx => ?_⟩
      obtain ⟨v, rfl⟩ := kindA_int hk hx
      have hv := hE.2.2.2.1 _ _ hσ m2 k v hx
      obtain ⟨k1, k2, k3⟩ := within_ok g2 hx
      obtain ⟨q1, g⟩ := cs2 g1
      obtain ⟨q2, g⟩ := cs2 g
      obtain ⟨q3, q4⟩ := cs2 g
      have q1 := Nat.eq_of_beq_eq_true q1
      have q2 := Nat.eq_of_beq_eq_true q2
      have q3 := Nat.eq_of_beq_eq_true q3
      have q4 := Nat.eq_of_beq_eq_true q4
      have ht : s.t E2.sy = v := by unfold Sy.t; rw [if_pos q3, q2, hv]; simp
      refine conc_symi_mk ⟨by rw [ht]; exact k1, by rw [ht]; exact k2, by rw [ht]; exact k3⟩ ?_
      unfold Sy.val; rw [ht, q1, q4]; simp
    · split at h3
      case h_2 => cases h3
      obtain ⟨g1, g2⟩ := cond_some h3
      cases g2
      have := syq_eq g1; subst this
      refine ⟨.refl _, Keep.refl _ _, fun E2 hE x hx => ?_⟩
      obtain ⟨hs, rfl⟩ := conc_symi hx
      have := kq_eq (show kq k _ = true from hk); subst this
      have hlt : s.name < 1000 := by
        rcases Nat.lt_or_ge s.name 1000 with h | h
        · exact h
        · rw [Nat.ble_eq_true_of_le h] at hf; cases hf
      have e := hE.2.2.1 _ hlt hσ
      have et : s.t E2.sy = s.t E.sy := by unfold Sy.t; rw [e]
      exact conc_symi_mk (by unfold Sy.ok; rw [et]; exact hs) (by unfold Sy.val; rw [et])

theorem matchV_ok : ∀ f, VOk σ lo hi b next E (matchV σ lo hi b next f) := by
  intro f
  induction f with
  | zero => intro a o fw fw' h; cases h
  | succ f ih =>
    intro a o fw fw' h
    have easy : ∀ (c : Bool), cond c (some fw) none = some fw' → c = true ∧ fw = fw' := by
      intro c hc; obtain ⟨h1, h2⟩ := cond_some hc; cases h2; exact ⟨h1, rfl⟩
    have same : ∀ (ha : plainV a = true), cond (eqV 1 a o) (some fw) none = some fw' →
        Ext fw fw' ∧ Keep next fw fw' ∧ ∀ E2, Fits σ lo hi b E E2 fw' → ∀ x, conc E o = some x → conc E2 a = some x := by
      intro ha hc
      obtain ⟨h1, rfl⟩ := easy _ hc
      exact ⟨.refl _, Keep.refl _ _, fun E2 hE => eqV_noId h1 hE.2.1 ha⟩
    cases a with
    | symi k s =>
      exact symG_spec h
    | ptr j x =>
      have h' : (match (generalizing := false) o with | .ptr i y => cond (Nat.beq x y) (mapId next j i fw) none | _ => none) = some fw' := h
      split at h'
      case h_2 => cases h'
      rename_i i y
      obtain ⟨h1, h2⟩ := cond_some h'
      have := Nat.eq_of_beq_eq_true h1; subst this
      obtain ⟨m1, m2, m3⟩ := mapId_spec h2
      refine ⟨m1, m3, fun E2 hE v hv => ?_⟩
      simp only [conc] at hv ⊢
      rw [hE.1 j i m2]; exact hv
    | slice j x l c =>
      have h' : (match (generalizing := false) o with | .slice i y m d => cond (Nat.beq x y) (cond (Nat.beq l m) (cond (capq c d) (mapId next j i fw) none) none) none | _ => none) = some fw' := h
      split at h'
      case h_2 => cases h'
      rename_i i y m d
      obtain ⟨h1, h2⟩ := cond_some h'
      obtain ⟨h3, h4⟩ := cond_some h2
      obtain ⟨h5, h6⟩ := cond_some h4
      have := Nat.eq_of_beq_eq_true h1; subst this
      have := Nat.eq_of_beq_eq_true h3; subst this
      have := capq_eq h5; subst this
      obtain ⟨m1, m2, m3⟩ := mapId_spec h6
      refine ⟨m1, m3, fun E2 hE v hv => ?_⟩
      cases c <;> simp only [conc] at hv ⊢ <;> rw [hE.1 j i m2] <;> exact hv
    | map j =>
      have h' : (match (generalizing := false) o with | .map i => mapId next j i fw | _ => none) = some fw' := h
      split at h'
      case h_2 => cases h'
      rename_i i
      obtain ⟨m1, m2, m3⟩ := mapId_spec h'
      refine ⟨m1, m3, fun E2 hE v hv => ?_⟩
      simp only [conc] at hv ⊢
      rw [hE.1 j i m2]; exact hv
    | agg x =>
      have h' : (match (generalizing := false) o with | .agg y => lmatch (matchV σ lo hi b next f) x y fw | _ => none) = some fw' := h
      split at h'
      case h_2 => cases h'
      rename_i y
      obtain ⟨m1, m2, m3⟩ := lmatch_av ih _ _ _ _ h'
      refine ⟨m1, m2, fun E2 hE v hv => ?_⟩
      simp only [conc, Option.map_eq_some_iff] at hv ⊢
      obtain ⟨xs, hxs, rfl⟩ := hv
      exact ⟨xs, m3 E2 hE xs hxs, rfl⟩
    | bool _ => exact same rfl h
    | int k q =>
      have h' : cond (cond (eqV 1 (.int k q) o) true (oneS (.int k q) o)) (some fw) none = some fw' := h
      obtain ⟨h1, rfl⟩ := easy _ h'
      cases h2 : eqV 1 (.int k q) o with
      | true => exact ⟨.refl _, Keep.refl _ _, fun E2 hE => eqV_noId h2 hE.2.1 rfl⟩
      | false =>
        rw [h2, cond_false] at h1
        exact ⟨.refl _, Keep.refl _ _, fun E2 _ x hx => oneS_spec h1 hx E2⟩
    | str _ => exact same rfl h
    | nilptr => exact same rfl h
    | nilslice => exact same rfl h
    | nilmap => exact same rfl h
    | nilfunc => exact same rfl h
    | niliface => exact same rfl h
    | symv _ => exact same rfl h
    | _ => cases h

section
variable {f : AV → AV → MS → Option MS} (hf : VOk σ lo hi b next E f)
include hf

theorem rowsM_ok {new old : T (List AV)} : ∀ (n : Nat) (fw fw' : MS), rowsM f new old n fw = some fw' →
    Ext fw fw' ∧ Keep next fw fw' ∧ ∀ E2, Fits σ lo hi b E E2 fw' → ∀ r, r < n → ∃ x y, new.get r = some x ∧ old.get r = some y ∧ ∀ xs, concs E y = some xs → concs E2 x = some xs := by
  intro n
  induction n with
  | zero => intro fw fw' h; cases h; exact ⟨.refl _, Keep.refl _ _, fun _ _ r hr => by omega⟩
  | succ n ih =>
    intro fw fw' h
    have h' : (match rowsM f new old n fw with
      | some fw => (match new.get n with
        | some x => (match old.get n with | some y => lmatch f x y fw | none => none)
        | none => none)
      | none => none) = some fw' := h
    split at h'
    case h_2 => cases h'
    rename_i fw1 h1
    split at h'
    case h_2 => cases h'
    rename_i x hx
    split at h'
    case h_2 => cases h'
    rename_i y hy
    obtain ⟨a1, a2, a3⟩ := ih _ _ h1
    obtain ⟨c1, c2, c3⟩ := lmatch_av hf _ _ _ _ h'
    refine ⟨a1.trans c1, a2.trans c2, fun E2 hE r hr => ?_⟩
    by_cases e : r = n
    · subst e; exact ⟨x, y, hx, hy, c3 E2 hE⟩
    · exact a3 E2 (hE.ext c1) r (by omega)

theorem entM_ok : ∀ (l m : List (AV × AV × Nat)) (fw fw' : MS), lmatch (entM f) l m fw = some fw' →
    Ext fw fw' ∧ Keep next fw fw' ∧ ∀ E2, Fits σ lo hi b E E2 fw' → ∀ es, F2 (EntryRel E) m es → F2 (EntryRel E2) l es := by
  intro l
  induction l with
  | nil =>
    intro m fw fw' h
    obtain ⟨rfl, rfl⟩ := lmatch_nil h
    exact ⟨.refl _, Keep.refl _ _, fun E2 _ es hes => by cases hes; exact .nil⟩
  | cons x l ih =>
    intro m fw fw' h
    obtain ⟨y, m, fw1, rfl, h1, h'⟩ := lmatch_cons h
    unfold entM at h1
    obtain ⟨hb, h1⟩ := cond_some h1
    have hb := Nat.eq_of_beq_eq_true hb
    split at h1
    case h_2 => cases h1
    rename_i fw0 h0
    obtain ⟨a1, a2, a3⟩ := hf _ _ _ _ h0
    obtain ⟨b1, b2, b3⟩ := hf _ _ _ _ h1
    obtain ⟨c1, c2, c3⟩ := ih _ _ _ h'
    refine ⟨a1.trans (b1.trans c1), a2.trans (b2.trans c2), fun E2 hE es hes => ?_⟩
    cases hes with
    | cons r t =>
      exact .cons ⟨a3 E2 (hE.ext (b1.trans c1)) _ r.1, b3 E2 (hE.ext c1) _ r.2.1, hb.trans r.2.2⟩ (c3 E2 hE _ t)

theorem matchO_ok {a o : AObj} {fw fw' : MS} (h : matchO f a o fw = some fw') :
    Ext fw fw' ∧ Keep next fw fw' ∧ ∀ E2, Fits σ lo hi b E E2 fw' → ∀ x ob, ObjRel E o x ob → ObjRel E2 a x ob := by
  unfold matchO at h
  split at h
  · split at h
    case h_2 => cases h
    obtain ⟨h1, h⟩ := cond_some h
    obtain ⟨h2, h3⟩ := cond_some h
    have := Nat.eq_of_beq_eq_true h1; subst this
    have := Nat.eq_of_beq_eq_true h2; subst this
    obtain ⟨a1, a2, a3⟩ := rowsM_ok hf _ _ _ h3
    refine ⟨a1, a2, fun E2 hE x ob hob => ?_⟩
    cases ob <;> simp only [ObjRel] at hob ⊢
    refine ⟨fun r hr => ?_, hob.2⟩
    obtain ⟨u, v, k1, k2, k3⟩ := a3 E2 hE r hr
    obtain ⟨row, xs, q1, q2, q3⟩ := hob.1 r hr
    rw [k2] at q1; cases q1
    exact ⟨u, xs, k1, k3 xs q2, q3⟩
  · split at h
    case h_2 => cases h
    obtain ⟨h1, h2⟩ := cond_some h
    have := Nat.eq_of_beq_eq_true h1; subst this
    obtain ⟨a1, a2, a3⟩ := entM_ok hf _ _ _ _ h2
    refine ⟨a1, a2, fun E2 hE x ob hob => ?_⟩
    cases ob <;> simp only [ObjRel] at hob ⊢
    exact ⟨hob.1, a3 E2 hE _ hob.2⟩
  · cases h

theorem frM_ok {F : Fr} : ∀ (l : List (Nat × AV)) (fw fw' : MS), frM f F l fw = some fw' →
    Ext fw fw' ∧ Keep next fw fw' ∧ ∀ E2, Fits σ lo hi b E E2 fw' → ∀ p ∈ l, ∃ v, F.t.get p.1 = some v ∧ ∀ x, conc E v = some x → conc E2 p.2 = some x := by
  intro l
  induction l with
  | nil => intro fw fw' h; cases h; exact ⟨.refl _, Keep.refl _ _, fun _ _ p hp => by cases hp⟩
  | cons q l ih =>
    intro fw fw' h
    have h' : (match F.t.get q.1 with
      | some v => (match f q.2 v fw with | some fw => frM f F l fw | none => none)
      | none => none) = some fw' := h
    split at h'
    case h_2 => cases h'
    rename_i v hv
    split at h'
    case h_2 => cases h'
    rename_i fw1 h1
    obtain ⟨a1, a2, a3⟩ := hf _ _ _ _ h1
    obtain ⟨c1, c2, c3⟩ := ih _ _ h'
    refine ⟨a1.trans c1, a2.trans c2, fun E2 hE p hp => ?_⟩
    rcases List.mem_cons.1 hp with rfl | hp
    · exact ⟨v, hv, a3 E2 (hE.ext c1)⟩
    · exact c3 E2 hE p hp

theorem obM_ok {A : AH} : ∀ (l : List (Nat × AObj)) (fw fw' : MS), obM f A l fw = some fw' →
    Ext fw fw' ∧ Keep next fw fw' ∧ ∀ E2, Fits σ lo hi b E E2 fw' → ∀ p ∈ l, ∃ i o, fw'.fw.get p.1 = some i ∧ A.heap.get i = some o ∧ ∀ x ob, ObjRel E o x ob → ObjRel E2 p.2 x ob := by
  intro l
  induction l with
  | nil => intro fw fw' h; cases h; exact ⟨.refl _, Keep.refl _ _, fun _ _ p hp => by cases hp⟩
  | cons q l ih =>
    intro fw fw' h
    have h' : (match fw.fw.get q.1 with
      | some i => (match A.heap.get i with
        | some o => (match matchO f q.2 o fw with | some fw => obM f A l fw | none => none)
        | none => none)
      | none => none) = some fw' := h
    split at h'
    case h_2 => cases h'
    rename_i i hi'
    split at h'
    case h_2 => cases h'
    rename_i o ho
    split at h'
    case h_2 => cases h'
    rename_i fw1 h1
    obtain ⟨a1, a2, a3⟩ := matchO_ok hf h1
    obtain ⟨c1, c2, c3⟩ := ih _ _ h'
    refine ⟨a1.trans c1, a2.trans c2, fun E2 hE p hp => ?_⟩
    rcases List.mem_cons.1 hp with rfl | hp
    · exact ⟨i, o, c1.1 _ _ (a1.1 _ _ hi'), ho, a3 E2 (hE.ext c1)⟩
    · exact c3 E2 hE p hp
end

/-- ████ The same state under other names. -/
theorem regain [Amb] {x : Int} (hx : b.val (Amb.sy σ) = x) (h1 : (lo : Int) ≤ x) (h2 : x ≤ hi)
    {s : St} {F : Fr} {A : AH} {W : World} {n : Nat} {a : Act} (hr : Rel E A W) (hf : FRel E n F a) (h : sim σ lo hi b next s F A = true) :
    ∃ (am2 : Unit → Amb) (E2 : Env), (am2 ()).n0 = Amb.n0 ∧ (am2 ()).mem = Amb.mem ∧ (am2 ()).sv = Amb.sv ∧ (∀ nm, nm < 1000 → nm ≠ σ → (am2 ()).sy nm = Amb.sy nm) ∧ (am2 ()).sy σ = x ∧ @Rel (am2 ()) E2 (s.A next) W ∧ FRel E2 n s.F a := by
  unfold sim at h
  split at h
  case h_2 => cases h
  rename_i hds
  split at h
  case h_2 => cases h
  rename_i fw1 hfr
  split at h
  case h_2 => cases h
  rename_i fw hob
  obtain ⟨hinj, hlow⟩ := cond_some' h
  obtain ⟨a1, ⟨a2, a4⟩, a3⟩ := frM_ok (matchV_ok (E := E) 40) _ _ _ hfr
  obtain ⟨c1, ⟨c2, c4⟩, c3⟩ := obM_ok (matchV_ok (E := E) 40) _ _ _ hob
  have hlowf : Low next fw := c2 (a2 fun j i q => by have q : (T.e : T Nat).get j = some i := q; rw [T.get_e] at q; cases q)
  have hE : E.sy = Amb.sy ∧ E.sv = Amb.sv := hr.names
  let am2 : Unit → Amb := fun _ => { n0 := Amb.n0, mem := Amb.mem, sv := Amb.sv, sy := fun nm => if nm = σ then x else match fw.bm.get nm with
    | some av => (if 1000 ≤ nm then (match conc E av with | some (.int _ v) => v | _ => 0) else Amb.sy nm)
    | none => Amb.sy nm }
  have sσ : (am2 ()).sy σ = x := by show (if σ = σ then x else _) = x; rw [if_pos rfl]
  have sn : ∀ nm, nm < 1000 → nm ≠ σ → (am2 ()).sy nm = Amb.sy nm := by
    intro nm hlt hne
    show (if nm = σ then x else match fw.bm.get nm with
      | some av => (if 1000 ≤ nm then (match conc E av with | some (.int _ v) => v | _ => 0) else Amb.sy nm)
      | none => Amb.sy nm) = _
    rw [if_neg hne]
    split
    · rw [if_neg (by omega)]
    · rfl
  let E2 : Env := { blk := fun j => match fw.fw.get j with | some i => E.blk i | none => none, sy := (am2 ()).sy, sv := (am2 ()).sv }
  have hbm : Big fw := c4 (a4 fun nm av q => by have q : (T.e : T AV).get nm = some av := q; rw [T.get_e] at q; cases q)
  have hfit : Fits σ lo hi b E E2 fw := by
    refine ⟨fun j i q => ?_, by show Amb.sv = E.sv; rw [hE.2], fun nm hlt hnm => by show (am2 ()).sy nm = E.sy nm; rw [sn nm hlt hnm, hE.1], fun nm av hne q k v hv => ?_, by show (am2 ()).sy σ = _; rw [sσ, hE.1]; exact hx.symm, by show _ ≤ (am2 ()).sy σ; rw [sσ]; exact h1, by show (am2 ()).sy σ ≤ _; rw [sσ]; exact h2⟩
    · show (match fw.fw.get j with | some i => E.blk i | none => none) = _
      rw [q]
    · show (if nm = σ then x else match fw.bm.get nm with
        | some av => (if 1000 ≤ nm then (match conc E av with | some (.int _ v) => v | _ => 0) else Amb.sy nm)
        | none => Amb.sy nm) = _
      rw [if_neg hne, q]
      simp only [if_pos (hbm nm av q), hv]
  have ex : ∀ j x, E2.blk j = some x → ∃ i, fw.fw.get j = some i ∧ E.blk i = some x := by
    intro j x hx
    have hx' : (match fw.fw.get j with | some i => E.blk i | none => none) = some x := hx
    split at hx'
    · rename_i i hi'; exact ⟨i, hi', hx'⟩
    · cases hx'
  refine ⟨am2, E2, rfl, rfl, rfl, sn, sσ, @Rel.mk (am2 ()) _ _ _ ?_ ?_ ?_ ?_ ?_ ?_ ?_, ?_⟩
  · intro j o x hj hx
    have hmem := mkT_get (show (mkT s.ob).get j = some o from hj)
    obtain ⟨i, o1, k1, k2, k3⟩ := c3 E2 hfit _ hmem
    obtain ⟨i', k4, k5⟩ := ex j x hx
    rw [k1] at k4; cases k4
    obtain ⟨ob, q1, q2⟩ := hr.obj i o1 x k2 k5
    exact ⟨ob, q1, k3 x ob q2⟩
  · intro j1 j2 o1 o2 x y hj1 hj2 hx hy e
    have hm1 := mkT_get (show (mkT s.ob).get j1 = some o1 from hj1)
    have hm2 := mkT_get (show (mkT s.ob).get j2 = some o2 from hj2)
    obtain ⟨i1, q1, k1, k2, _⟩ := c3 E2 hfit _ hm1
    obtain ⟨i2, q2, g1, g2, _⟩ := c3 E2 hfit _ hm2
    obtain ⟨i1', k4, k5⟩ := ex j1 x hx
    obtain ⟨i2', g4, g5⟩ := ex j2 y hy
    rw [k1] at k4; cases k4
    rw [g1] at g4; cases g4
    have hii := hr.inj i1 i2 q1 q2 x y k2 g2 k5 g5 e
    have p1 := lall_eq _ _ hinj _ hm1
    have p2 := lall_eq _ _ hinj _ hm2
    simp only [k1, g1] at p1 p2
    split at p1
    case h_2 => cases p1
    rename_i z1 hz1
    split at p2
    case h_2 => cases p2
    rename_i z2 hz2
    rw [hii, hz2] at hz1; cases hz1
    exact (Nat.eq_of_beq_eq_true p1).symm.trans (Nat.eq_of_beq_eq_true p2)
  · intro j hj
    show (match fw.fw.get j with | some i => E.blk i | none => none) = none
    split
    · rename_i i hi'
      have := hlowf j i hi'
      have hj : next ≤ j := hj
      omega
    · rfl
  · intro j hj
    cases hg : (s.A next).heap.get j with
    | none => rfl
    | some o =>
      have hmem := mkT_get (show (mkT s.ob).get j = some o from hg)
      have := blt_iff (lall_eq _ _ hlow _ hmem)
      have hj : next ≤ j := hj
      have this : j < next := this
      omega
  · intro j x hx
    obtain ⟨i, _, k5⟩ := ex j x hx
    exact hr.bound i x k5
  · refine ⟨hr.amb.1, hr.amb.2.1, fun j x hx => ?_⟩
    obtain ⟨i, _, k5⟩ := ex j x hx
    exact hr.amb.2.2 i x k5
  · exact ⟨rfl, rfl⟩
  · refine ⟨hf.size, ?_, fun t v ht => ?_⟩
    · have := hf.defers
      rw [hds] at this
      show F2 (Mark E2) [] a.defers
      cases hd : a.defers with
      | nil => exact .nil
      | cons _ _ => rw [hd] at this; cases this
    · have hmem := mkT_get (show (mkT s.fr).get t = some v from ht)
      obtain ⟨v1, k1, k2⟩ := a3 E2 (hfit.ext c1) _ hmem
      exact k2 _ (hf.get t v1 k1)
end
end Go.PE
