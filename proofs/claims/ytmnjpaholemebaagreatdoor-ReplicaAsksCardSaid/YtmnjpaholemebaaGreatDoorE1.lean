/-
  THE ENGINE, 1: tries, abstract values, what they stand for.
  An abstract value names blocks by numbers of its own (ids); an environment ties ids to the model's blocks.
-/
import Derived.Orders
import Derived.Tactics
namespace Go.PE
open Go

/-! ### Tries keyed by numbers -/
inductive Pos where
  | xH
  | xO (p : Pos)
  | xI (p : Pos)

def Pos.toNat : Pos → Nat
  | .xH => 1
  | .xO p => 2 * p.toNat
  | .xI p => 2 * p.toNat + 1

noncomputable def posAux (f : Nat) : Nat → Pos := Nat.rec (motive := fun _ => Nat → Pos) (fun _ => .xH)
  (fun _ ih k => cond (Nat.ble k 1) .xH (cond (Nat.beq (Nat.land k 1) 0) (.xO (ih (Nat.div k 2))) (.xI (ih (Nat.div k 2))))) f
noncomputable def pos (n : Nat) : Pos := posAux (n + 1) (n + 1)

theorem posAux_toNat (f : Nat) : ∀ k, 1 ≤ k → k ≤ f → (posAux f k).toNat = k := by
  induction f with
  | zero => intro k h1 h2; omega
  | succ f ih =>
    intro k h1 h2
    have e : posAux (f + 1) k = cond (Nat.ble k 1) .xH (cond (Nat.beq (Nat.land k 1) 0) (.xO (posAux f (Nat.div k 2))) (.xI (posAux f (Nat.div k 2)))) := rfl
    rw [e]
    by_cases hk : k ≤ 1
    · have : Nat.ble k 1 = true := by simpa using hk
      rw [this]; simp [Pos.toNat]; omega
    · have hb : Nat.ble k 1 = false := by
        cases hh : Nat.ble k 1
        · rfl
        · exact absurd (Nat.le_of_ble_eq_true hh) hk
      rw [hb]
      have hd : 1 ≤ k / 2 := by omega
      have hd2 : k / 2 ≤ f := by omega
      have ih' := ih (k / 2) hd hd2
      have hl : Nat.land k 1 = k % 2 := Nat.and_one_is_mod k
      show (cond (Nat.beq (Nat.land k 1) 0) (Pos.xO (posAux f (k / 2))) (Pos.xI (posAux f (k / 2)))).toNat = k
      rw [hl]
      by_cases hm : k % 2 = 0
      · have : Nat.beq (k % 2) 0 = true := by rw [hm]; rfl
        rw [this]; simp only [cond_true, Pos.toNat, ih']; omega
      · have : Nat.beq (k % 2) 0 = false := by
          have : k % 2 = 1 := by omega
          rw [this]; rfl
        rw [this]; simp only [cond_false, Pos.toNat, ih']; omega

theorem pos_toNat (n : Nat) : (pos n).toNat = n + 1 := posAux_toNat _ _ (by omega) (Nat.le_refl _)
theorem pos_inj {m n : Nat} (h : pos m = pos n) : m = n := by
  have := congrArg Pos.toNat h
  simp only [pos_toNat] at this; omega

inductive T (α : Type) where
  | e : T α
  | n (l : T α) (v : Option α) (r : T α) : T α

noncomputable def T.getP {α : Type} (p : Pos) : T α → Option α := Pos.rec (motive := fun _ => T α → Option α)
  (fun t => T.rec (motive := fun _ => Option α) none (fun _ v _ _ _ => v) t)
  (fun _ ih t => T.rec (motive := fun _ => Option α) none (fun l _ _ _ _ => ih l) t)
  (fun _ ih t => T.rec (motive := fun _ => Option α) none (fun _ _ r _ _ => ih r) t) p
noncomputable def T.setP {α : Type} (x : Option α) (p : Pos) : T α → T α := Pos.rec (motive := fun _ => T α → T α)
  (fun t => T.rec (motive := fun _ => T α) (.n .e x .e) (fun l _ r _ _ => .n l x r) t)
  (fun _ ih t => T.rec (motive := fun _ => T α) (.n (ih .e) none .e) (fun l v r _ _ => .n (ih l) v r) t)
  (fun _ ih t => T.rec (motive := fun _ => T α) (.n .e none (ih .e)) (fun l v r _ _ => .n l v (ih r)) t) p

theorem T.getP_setP_same {α : Type} (x : Option α) (p : Pos) : ∀ t : T α, (T.setP x p t).getP p = x := by
  induction p with
  | xH => intro t; cases t <;> rfl
  | xO p ih => intro t; cases t with
    | e => exact ih .e
    | n l v r => exact ih l
  | xI p ih => intro t; cases t with
    | e => exact ih .e
    | n l v r => exact ih r

theorem T.getP_e {α : Type} (p : Pos) : T.getP p (.e : T α) = none := by cases p <;> rfl

theorem T.getP_setP_ne {α : Type} (x : Option α) (p : Pos) : ∀ (q : Pos) (t : T α), p ≠ q → (T.setP x p t).getP q = t.getP q := by
  induction p with
  | xH => intro q t h; cases q with
    | xH => exact absurd rfl h
    | xO q => cases t <;> first | rfl | exact T.getP_e q
    | xI q => cases t <;> first | rfl | exact T.getP_e q
  | xO p ih => intro q t h; cases q with
    | xH => cases t <;> rfl
    | xO q =>
      have hpq : p ≠ q := fun e => h (by rw [e])
      cases t with
      | e => exact (ih q .e hpq).trans (T.getP_e q)
      | n l v r => exact ih q l hpq
    | xI q => cases t <;> first | rfl | exact T.getP_e q
  | xI p ih => intro q t h; cases q with
    | xH => cases t <;> rfl
    | xI q =>
      have hpq : p ≠ q := fun e => h (by rw [e])
      cases t with
      | e => exact (ih q .e hpq).trans (T.getP_e q)
      | n l v r => exact ih q r hpq
    | xO q => cases t <;> first | rfl | exact T.getP_e q

noncomputable def T.get {α : Type} (t : T α) (n : Nat) : Option α := t.getP (pos n)
noncomputable def T.set {α : Type} (t : T α) (n : Nat) (x : α) : T α := t.setP (some x) (pos n)
noncomputable def T.del {α : Type} (t : T α) (n : Nat) : T α := t.setP none (pos n)

theorem T.get_set_same {α : Type} (t : T α) (n : Nat) (x : α) : (t.set n x).get n = some x := T.getP_setP_same _ _ _
theorem T.get_set_ne {α : Type} (t : T α) {m n : Nat} (x : α) (h : n ≠ m) : (t.set n x).get m = t.get m :=
  T.getP_setP_ne _ _ _ _ fun e => h (pos_inj e)
theorem T.get_del_same {α : Type} (t : T α) (n : Nat) : (t.del n).get n = none := T.getP_setP_same _ _ _
theorem T.get_del_ne {α : Type} (t : T α) {m n : Nat} (h : n ≠ m) : (t.del n).get m = t.get m :=
  T.getP_setP_ne _ _ _ _ fun e => h (pos_inj e)
theorem T.get_e {α : Type} (n : Nat) : (T.e : T α).get n = none := T.getP_e _
theorem T.get_set {α : Type} (t : T α) (m n : Nat) (x : α) : (t.set n x).get m = if n = m then some x else t.get m := by
  split
  · rename_i h; subst h; exact T.get_set_same _ _ _
  · rename_i h; exact T.get_set_ne _ _ h
theorem T.get_del {α : Type} (t : T α) (m n : Nat) : (t.del n).get m = if n = m then none else t.get m := by
  split
  · rename_i h; subst h; exact T.get_del_same _ _
  · rename_i h; exact T.get_del_ne _ h

/-- The elements at even places, and those at odd ones. -/
noncomputable def halves {α : Type} (l : List α) : List α × List α := List.rec (motive := fun _ => List α × List α) ([], [])
  (fun x _ ih => (x :: ih.2, ih.1)) l
theorem halves_get {α : Type} (l : List α) : ∀ i, (halves l).1[i]? = l[2 * i]? ∧ (halves l).2[i]? = l[2 * i + 1]? := by
  induction l with
  | nil => intro i; simp [halves]
  | cons x l ih =>
    intro i
    have e : halves (x :: l) = (x :: (halves l).2, (halves l).1) := rfl
    rw [e]
    constructor
    · cases i with
      | zero => simp
      | succ i =>
        rw [List.getElem?_cons_succ, (ih i).2]
        have : 2 * (i + 1) = (2 * i + 1) + 1 := by omega
        rw [this, List.getElem?_cons_succ]
    · show (halves l).1[i]? = _
      rw [(ih i).1, List.getElem?_cons_succ]
/-- A trie of a list's elements. -/
noncomputable def T.buildAux {α : Type} (f : Nat) : List α → T α := Nat.rec (motive := fun _ => List α → T α) (fun _ => .e)
  (fun _ ih l => List.rec (motive := fun _ => T α) .e (fun x r _ => .n (ih (halves r).1) (some x) (ih (halves r).2)) l) f
noncomputable def T.build {α : Type} (l : List α) : T α := T.buildAux 64 l
theorem T.buildAux_get {α : Type} : ∀ (f : Nat) (l : List α) (p : Pos) (x : α), (T.buildAux f l).getP p = some x → l[p.toNat - 1]? = some x := by
  intro f
  induction f with
  | zero =>
    intro l p x h
    have h' : T.getP p (.e : T α) = some x := h
    rw [T.getP_e] at h'; cases h'
  | succ f ih =>
    intro l p x h
    cases l with
    | nil =>
      have h' : T.getP p (.e : T α) = some x := h
      rw [T.getP_e] at h'; cases h'
    | cons y r =>
      have h' : T.getP p (.n (T.buildAux f (halves r).1) (some y) (T.buildAux f (halves r).2)) = some x := h
      have hpos : ∀ q : Pos, 1 ≤ q.toNat := by
        intro q; induction q <;> simp only [Pos.toNat] <;> omega
      cases p with
      | xH => simpa [T.getP, Pos.toNat] using h'
      | xO q =>
        have h2 := ih (halves r).1 q x h'
        rw [(halves_get r _).1] at h2
        have := hpos q
        have e : (Pos.xO q).toNat - 1 = 2 * (q.toNat - 1) + 1 := by simp only [Pos.toNat]; omega
        rw [e, List.getElem?_cons_succ]; exact h2
      | xI q =>
        have h2 := ih (halves r).2 q x h'
        rw [(halves_get r _).2] at h2
        have := hpos q
        have e : (Pos.xI q).toNat - 1 = (2 * (q.toNat - 1) + 1) + 1 := by simp only [Pos.toNat]; omega
        rw [e, List.getElem?_cons_succ]; exact h2
theorem T.build_get {α : Type} {l : List α} {m : Nat} {x : α} (h : (T.build l).get m = some x) : l[m]? = some x := by
  have := T.buildAux_get _ _ _ _ h
  rw [pos_toNat] at this; simpa using this

/-! ### Abstract values -/
inductive Cap where
  | exact (n : Nat)
  | upto (size : Nat)      -- unknown: whatever the block has room for
  | empty (lo size : Nat)   -- what is left behind all elements of a slice whose room isn't known: no element; its address hangs on the room

/-- A number that is not known: k times t, and c. t: the name's number, divided by dv, modulo md (where md isn't 0); t is from lo to hi, and r modulo m (where m isn't 0). -/
structure Sy where
  name : Nat
  lo : Nat
  hi : Nat
  m : Nat
  r : Nat
  c : Nat
  k : Nat
  dv : Nat
  md : Nat
def Sy.t (s : Sy) (sy : Nat → Int) : Int := if s.md = 0 then sy s.name / s.dv else sy s.name / s.dv % s.md
def Sy.val (s : Sy) (sy : Nat → Int) : Int := s.k * s.t sy + s.c
def Sy.ok (s : Sy) (sy : Nat → Int) : Prop := (s.lo : Int) ≤ s.t sy ∧ s.t sy ≤ s.hi ∧ (s.m = 0 ∨ s.t sy % s.m = s.r)
instance (s : Sy) (sy : Nat → Int) : Decidable (s.ok sy) := by unfold Sy.ok; exact inferInstance
/-- The name's number itself, and c. -/
def Sy.plain (name lo hi c : Nat) : Sy := ⟨name, lo, hi, 0, 0, c, 1, 1, 0⟩

inductive AV where
  | bool (b : Bool)
  | int (k : IntKind) (n : Int)
  | str (s : List Nat)
  | nilptr
  | ptr (b off : Nat)
  | nilslice
  | slice (b off len : Nat) (cap : Cap)
  | nilmap
  | map (b : Nat)
  | nilfunc
  | func (f : Fn) (first captured : List AV)
  | niliface
  | iface (t : TypeId) (v : AV)
  | agg (cs : List AV)
  | tuple (vs : List AV)
  | symi (k : IntKind) (s : Sy)
  | symv (i : Nat)
  | yld (b : Nat)      -- what a range over a function hands to that function; b: the loop's record

structure Env where
  blk : Nat → Option (Nat × Nat × Nat)      -- the block, the window's first cell, how many cells the window has
  sy : Nat → Int
  sv : Nat → Value

/-- What may stand in one cell. -/
def isCell : Value → Bool
  | .agg _ | .tuple _ => false
  | _ => true
def strOf (s : List Nat) : ByteArray := ⟨(s.map UInt8.ofNat).toArray⟩

mutual
def conc (E : Env) : AV → Option Value
  | .bool b => some (.bool b)
  | .int k n => some (.int k n)
  | .str s => some (.string (strOf s))
  | .nilptr => some (.pointer none)
  | .ptr b off => (E.blk b).map fun x => .pointer (some ⟨x.1, x.2.1 + off, none⟩)
  | .nilslice => some (.slice none 0 0)
  | .slice b off len (.exact c) => (E.blk b).map fun x => .slice (some ⟨x.1, x.2.1 + off, none⟩) len c
  | .slice b off len (.upto sz) => (E.blk b).bind fun x =>
      if off + len * sz ≤ x.2.2 ∧ 0 < sz then some (.slice (some ⟨x.1, x.2.1 + off, none⟩) len ((x.2.2 - off) / sz)) else none
  | .slice b off len (.empty lo sz) => (E.blk b).bind fun x =>
      if len = 0 ∧ off + lo * sz ≤ x.2.2 ∧ 0 < sz then some (.slice (some ⟨x.1, x.2.1 + (if (x.2.2 - off) / sz = lo then off else off + lo * sz), none⟩) 0 ((x.2.2 - off) / sz - lo)) else none
  | .nilmap => some (.map none)
  | .map b => (E.blk b).map fun x => .map (some x.1)
  | .nilfunc => some .nilFunc
  | .func f a c => (concs E a).bind fun a' => (concs E c).map fun c' => .func f a'.toArray c'.toArray
  | .niliface => some .nilIface
  | .iface t v => (conc E v).map fun v' => .iface t v'
  | .agg cs => (concs E cs).map fun cs' => .agg cs'.toArray
  | .tuple vs => (concs E vs).map fun vs' => .tuple vs'.toArray
  | .symi k s => if s.ok E.sy then some (.int k (s.val E.sy)) else none
  | .symv i => if isCell (E.sv i) then some (E.sv i) else none
  | .yld b => (E.blk b).map fun x => .func (.yield x.1) #[] #[]
def concs (E : Env) : List AV → Option (List Value)
  | [] => some []
  | v :: vs => (conc E v).bind fun v' => (concs E vs).map fun vs' => v' :: vs'
end

/-- One environment knows all that another one knows. -/
structure Env.Le (E E' : Env) : Prop where
  blk : ∀ i x, E.blk i = some x → E'.blk i = some x
  sy : E'.sy = E.sy
  sv : E'.sv = E.sv
theorem Env.Le.refl (E : Env) : Env.Le E E := ⟨fun _ _ h => h, rfl, rfl⟩
theorem Env.Le.trans {A B C : Env} (h : Env.Le A B) (k : Env.Le B C) : Env.Le A C :=
  ⟨fun i x hx => k.blk i x (h.blk i x hx), k.sy.trans h.sy, k.sv.trans h.sv⟩

mutual
theorem conc_mono {E E' : Env} (h : Env.Le E E') : ∀ (v : AV) (x : Value), conc E v = some x → conc E' v = some x
  | .bool _, _, hx | .int _ _, _, hx | .str _, _, hx | .nilptr, _, hx | .nilslice, _, hx | .nilmap, _, hx | .nilfunc, _, hx | .niliface, _, hx => by
    simpa [conc] using hx
  | .ptr b off, x, hx => by
    simp only [conc, Option.map_eq_some_iff] at hx ⊢
    obtain ⟨y, hy, rfl⟩ := hx; exact ⟨y, h.blk _ _ hy, rfl⟩
  | .slice b off len (.exact c), x, hx => by
    simp only [conc, Option.map_eq_some_iff] at hx ⊢
    obtain ⟨y, hy, rfl⟩ := hx; exact ⟨y, h.blk _ _ hy, rfl⟩
  | .slice b off len (.upto sz), x, hx => by
    simp only [conc, Option.bind_eq_some_iff] at hx ⊢
    obtain ⟨y, hy, hx⟩ := hx; exact ⟨y, h.blk _ _ hy, hx⟩
  | .slice b off len (.empty lo sz), x, hx => by
    simp only [conc, Option.bind_eq_some_iff] at hx ⊢
    obtain ⟨y, hy, hx⟩ := hx; exact ⟨y, h.blk _ _ hy, hx⟩
  | .map b, x, hx => by
    simp only [conc, Option.map_eq_some_iff] at hx ⊢
    obtain ⟨y, hy, rfl⟩ := hx; exact ⟨y, h.blk _ _ hy, rfl⟩
  | .yld b, x, hx => by
    simp only [conc, Option.map_eq_some_iff] at hx ⊢
    obtain ⟨y, hy, rfl⟩ := hx; exact ⟨y, h.blk _ _ hy, rfl⟩
  | .func f a c, x, hx => by
    simp only [conc, Option.bind_eq_some_iff, Option.map_eq_some_iff] at hx ⊢
    obtain ⟨a', ha, c', hc, rfl⟩ := hx
    exact ⟨a', concs_mono h a a' ha, c', concs_mono h c c' hc, rfl⟩
  | .iface t v, x, hx => by
    simp only [conc, Option.map_eq_some_iff] at hx ⊢
    obtain ⟨v', hv, rfl⟩ := hx; exact ⟨v', conc_mono h v v' hv, rfl⟩
  | .agg cs, x, hx => by
    simp only [conc, Option.map_eq_some_iff] at hx ⊢
    obtain ⟨v', hv, rfl⟩ := hx; exact ⟨v', concs_mono h cs v' hv, rfl⟩
  | .tuple cs, x, hx => by
    simp only [conc, Option.map_eq_some_iff] at hx ⊢
    obtain ⟨v', hv, rfl⟩ := hx; exact ⟨v', concs_mono h cs v' hv, rfl⟩
  | .symi k i, x, hx => by simpa [conc, h.sy] using hx
  | .symv i, x, hx => by simpa [conc, h.sv] using hx
theorem concs_mono {E E' : Env} (h : Env.Le E E') : ∀ (vs : List AV) (xs : List Value), concs E vs = some xs → concs E' vs = some xs
  | [], _, hx => by simpa [concs] using hx
  | v :: vs, x, hx => by
    simp only [concs, Option.bind_eq_some_iff, Option.map_eq_some_iff] at hx ⊢
    obtain ⟨v', hv, vs', hvs, rfl⟩ := hx
    exact ⟨v', conc_mono h v v' hv, vs', concs_mono h vs vs' hvs, rfl⟩
end

theorem concs_length {E : Env} : ∀ {vs : List AV} {xs : List Value}, concs E vs = some xs → xs.length = vs.length
  | [], _, h => by simp [concs] at h; subst h; rfl
  | v :: vs, _, h => by
    simp only [concs, Option.bind_eq_some_iff, Option.map_eq_some_iff] at h
    obtain ⟨v', _, vs', hvs, rfl⟩ := h
    simp [concs_length hvs]

theorem concs_get {E : Env} : ∀ {vs : List AV} {xs : List Value} {i : Nat} {v : AV}, concs E vs = some xs → vs[i]? = some v → ∃ x, conc E v = some x ∧ xs[i]? = some x
  | [], _, _, _, _, h => by simp at h
  | v :: vs, _, i, u, h, hi => by
    simp only [concs, Option.bind_eq_some_iff, Option.map_eq_some_iff] at h
    obtain ⟨v', hv, vs', hvs, rfl⟩ := h
    cases i with
    | zero => simp at hi; subst hi; exact ⟨v', hv, rfl⟩
    | succ i => simpa using concs_get hvs (by simpa using hi)

theorem concs_append {E : Env} : ∀ {as bs : List AV} {xs ys : List Value}, concs E as = some xs → concs E bs = some ys → concs E (as ++ bs) = some (xs ++ ys)
  | [], _, _, _, h, k => by simp [concs] at h; subst h; simpa using k
  | a :: as, bs, _, ys, h, k => by
    simp only [concs, Option.bind_eq_some_iff, Option.map_eq_some_iff] at h
    obtain ⟨v', hv, vs', hvs, rfl⟩ := h
    simp [concs, hv, concs_append hvs k]

theorem concs_take {E : Env} : ∀ {as : List AV} {xs : List Value} (n : Nat), concs E as = some xs → concs E (as.take n) = some (xs.take n)
  | [], _, n, h => by simp [concs] at h; subst h; simp [concs]
  | a :: as, _, 0, h => by simp [concs]
  | a :: as, _, n + 1, h => by
    simp only [concs, Option.bind_eq_some_iff, Option.map_eq_some_iff] at h
    obtain ⟨v', hv, vs', hvs, rfl⟩ := h
    simp [concs, hv, concs_take n hvs]

theorem concs_drop {E : Env} : ∀ {as : List AV} {xs : List Value} (n : Nat), concs E as = some xs → concs E (as.drop n) = some (xs.drop n)
  | [], _, n, h => by simp [concs] at h; subst h; simp [concs]
  | a :: as, _, 0, h => by simpa using h
  | a :: as, _, n + 1, h => by
    simp only [concs, Option.bind_eq_some_iff, Option.map_eq_some_iff] at h
    obtain ⟨v', hv, vs', hvs, rfl⟩ := h
    simpa using concs_drop n hvs

end Go.PE
