/-
  THE ENGINE, 3: types; constants; operations that leave memory as it is.
-/
import Derived.Test.YtmnjpaholemebaaGreatDoorE2
import Derived.Laws.Strings
namespace Go.PE
open Go

/-! ### Types -/
noncomputable def tyT (P : Program) : T TypeInfo := T.build P.types.toList
noncomputable def ti (P : Program) (t : TypeId) : Option TypeInfo := (tyT P).get t
theorem ti_info {P : Program} {t : TypeId} {i : TypeInfo} (h : ti P t = some i) : P.info? t = some i := by
  have h := T.build_get h
  have h2 : P.types[t]? = some i := by simpa using h
  unfold Tables.info?
  have hlt : t < P.types.size := (Array.getElem?_eq_some_iff.1 h2).1
  rw [if_pos hlt]; exact h2
noncomputable def undAux (P : Program) (d : TypeDesc) : Option TypeDesc :=
  match d with
  | .named _ u => (match ti P u with | some j => some j.desc | none => none)
  | d => some d
noncomputable def und (P : Program) (t : TypeId) : Option TypeDesc :=
  match ti P t with
  | some i => undAux P i.desc
  | none => none
theorem und_eq {P : Program} {t : TypeId} {d : TypeDesc} (h : und P t = some d) : P.underlying t = some d := by
  unfold und at h
  split at h
  case h_2 => cases h
  rename_i i hi
  have hi := ti_info hi
  unfold Program.underlying
  rw [hi]
  unfold undAux at h
  split at h
  · rename_i n u hd
    split at h
    · rename_i j hj
      have hj := ti_info hj
      cases i; simp only at hd; subst hd
      simp [hj]; simpa using h
    · cases h
  · rename_i d' hd
    cases i; simp only at hd h ⊢
    split
    · rename_i n u heq
      simp only [Option.some.injEq, TypeInfo.mk.injEq] at heq
      exact absurd heq.1 (hd _ _)
    · rename_i i' _ heq
      simp only [Option.some.injEq] at heq
      subst heq; exact h
    · rename_i heq; cases heq
def isAggD : TypeDesc → Bool
  | .struct _ => true
  | .array _ _ => true
  | _ => false

section
variable {P : Program} {W : World}
theorem run_und {t : TypeId} {d : TypeDesc} (h : und P t = some d) : (underlying t).run P W = .ok d W := run_underlying (und_eq h) W
theorem run_ti {t : TypeId} {i : TypeInfo} (h : ti P t = some i) : (typeInfo t).run P W = .ok i W := by
  simp [typeInfo, ti_info h]
theorem run_size {t : TypeId} {i : TypeInfo} (h : ti P t = some i) : (sizeOf t).run P W = .ok i.size W := by
  simp [sizeOf, run_ti h]
theorem run_agg {t : TypeId} {d : TypeDesc} (h : und P t = some d) : (isAgg t).run P W = .ok (isAggD d) W := by
  simp only [isAgg, Sem.run_bind, run_und h, Result.andThen_ok]
  cases d <;> rfl
end

/-- Is a type's value one of several cells, and of how many? -/
noncomputable def layout (P : Program) (t : TypeId) : Option (Bool × Nat) :=
  match und P t with
  | some d => (match ti P t with | some i => some (isAggD d, i.size) | none => none)
  | none => none
theorem layout_run {P : Program} {t : TypeId} {a : Bool} {n : Nat} (h : layout P t = some (a, n)) (W : World) :
    (isAgg t).run P W = .ok a W ∧ (sizeOf t).run P W = .ok n W := by
  unfold layout at h
  split at h
  case h_2 => cases h
  rename_i d hd
  split at h
  case h_2 => cases h
  rename_i i hi
  simp only [Option.some.injEq, Prod.mk.injEq] at h
  obtain ⟨rfl, rfl⟩ := h
  exact ⟨run_agg hd, run_size hi⟩

/-! ### Constants -/
noncomputable def mapO {α β : Type} (f : α → Option β) (l : List α) : Option (List β) := List.rec (motive := fun _ => Option (List β)) (some [])
  (fun x _ ih => match f x with
    | some y => (match ih with | some r => some (y :: r) | none => none)
    | none => none) l
theorem mapO_cons {α β : Type} (f : α → Option β) (x : α) (l : List α) (r : List β) (h : mapO f (x :: l) = some r) : ∃ y r', f x = some y ∧ mapO f l = some r' ∧ r = y :: r' := by
  have h' : (match f x with
    | some y => (match mapO f l with | some r => some (y :: r) | none => none)
    | none => none) = some r := h
  split at h'
  · rename_i y hy
    split at h'
    · rename_i r' hr; cases h'; exact ⟨y, r', hy, hr, rfl⟩
    · cases h'
  · cases h'

noncomputable def absStep (ih : Value → Option AV) (v : Value) : Option AV :=
  match v with
  | .bool b => some (.bool b)
  | .int k n => some (.int k n)
  | .string s => some (.str (lmap UInt8.toNat s.data.toList))
  | .pointer none => some .nilptr
  | .slice none 0 0 => some .nilslice
  | .map none => some .nilmap
  | .nilFunc => some .nilfunc
  | .nilIface => some .niliface
  | .agg cs => (match mapO ih cs.toList with | some l => some (.agg l) | none => none)
  | .tuple cs => (match mapO ih cs.toList with | some l => some (.tuple l) | none => none)
  | .func (.func f) a c => (match mapO ih a.toList with
    | some a' => (match mapO ih c.toList with | some c' => some (.func (.func f) a' c') | none => none)
    | none => none)
  | _ => none
noncomputable def absV (n : Nat) : Value → Option AV := Nat.rec (motive := fun _ => Value → Option AV) (fun _ => none) (fun _ ih => absStep ih) n

theorem strOf_toNat (s : ByteArray) : strOf (s.data.toList.map UInt8.toNat) = s := by
  unfold strOf
  have : (s.data.toList.map UInt8.toNat).map UInt8.ofNat = s.data.toList := by
    rw [List.map_map]
    conv => rhs; rw [← List.map_id s.data.toList]
    apply List.map_congr_left
    intro x _; simp
  rw [this]

theorem mapO_conc {E : Env} {f : Value → Option AV} (hf : ∀ v a, f v = some a → conc E a = some v) : ∀ (l : List Value) (r : List AV), mapO f l = some r → concs E r = some l
  | [], r, h => by cases h; rfl
  | x :: l, r, h => by
    obtain ⟨y, r', h1, h2, rfl⟩ := mapO_cons f x l r h
    simp [concs, hf _ _ h1, mapO_conc hf l r' h2]

theorem absV_conc (E : Env) : ∀ (n : Nat) (v : Value) (a : AV), absV n v = some a → conc E a = some v := by
  intro n
  induction n with
  | zero => intro v a h; cases h
  | succ n ih =>
    intro v a h
    have h' : absStep (absV n) v = some a := h
    unfold absStep at h'
    split at h'
    · cases h'; rfl
    · cases h'; rfl
    · cases h'; rw [lmap_eq]; simp [conc, strOf_toNat]
    · cases h'; rfl
    · cases h'; rfl
    · cases h'; rfl
    · cases h'; rfl
    · cases h'; rfl
    · split at h'
      · rename_i hm; cases h'; simp [conc, mapO_conc ih _ _ hm]
      · cases h'
    · split at h'
      · rename_i hm; cases h'; simp [conc, mapO_conc ih _ _ hm]
      · cases h'
    · split at h'
      · rename_i hm
        split at h'
        · rename_i hm2; cases h'; simp [conc, mapO_conc ih _ _ hm, mapO_conc ih _ _ hm2]
        · cases h'
      · cases h'
    · cases h'

/-! ### Operands -/
noncomputable def evO (F : T AV) (x : Operand) : Option AV :=
  match x with
  | .tmp t => F.get t
  | .const v => absV 4 v
  | .func f => some (.func (.func f) [] [])
  | .global _ => none

/-! ### Integers -/
def iadd (a b : Int) : Int := Int.add a b
noncomputable def ilt (a b : Int) : Bool :=
  match a with
  | .ofNat m => (match b with | .ofNat n => Nat.blt m n | .negSucc _ => false)
  | .negSucc m => (match b with | .ofNat _ => true | .negSucc n => Nat.blt n m)
noncomputable def ieq (a b : Int) : Bool :=
  match a with
  | .ofNat m => (match b with | .ofNat n => Nat.beq m n | .negSucc _ => false)
  | .negSucc m => (match b with | .ofNat _ => false | .negSucc n => Nat.beq n m)
theorem blt_eq (a b : Nat) : Nat.blt a b = decide (a < b) := by
  cases h : Nat.blt a b
  · symm; rw [decide_eq_false_iff_not]; intro hlt
    have := Nat.ble_eq_true_of_le hlt
    have h' : Nat.ble (a + 1) b = false := h
    rw [this] at h'; cases h'
  · symm; rw [decide_eq_true_eq]; exact blt_iff h
theorem beq_eq (a b : Nat) : Nat.beq a b = decide (a = b) := by
  cases h : Nat.beq a b
  · symm; rw [decide_eq_false_iff_not]; exact Nat.ne_of_beq_eq_false h
  · symm; rw [decide_eq_true_eq]; exact Nat.eq_of_beq_eq_true h
theorem ilt_eq (a b : Int) : ilt a b = decide (a < b) := by
  cases a <;> cases b <;> simp only [ilt, Int.ofNat_eq_natCast]
  · rw [blt_eq]; simp
  · symm; rw [decide_eq_false_iff_not]; omega
  · symm; rw [decide_eq_true_eq]; omega
  · rw [blt_eq]; rename_i m n; rw [decide_eq_decide]; omega
theorem ieq_eq (a b : Int) : ieq a b = decide (a = b) := by
  cases a <;> cases b <;> simp only [ieq, Int.ofNat_eq_natCast]
  · rw [beq_eq]; rename_i m n; rw [decide_eq_decide]; omega
  · symm; rw [decide_eq_false_iff_not]; omega
  · symm; rw [decide_eq_false_iff_not]; omega
  · rw [beq_eq]; rename_i m n; rw [decide_eq_decide]; omega

/-- The bits of a kind that bears no sign: what its numbers are taken by. -/
def modOf : IntKind → Option Nat
  | .u8 => some 256
  | .u16 => some 65536
  | .u32 => some 4294967296
  | .u64 => some 18446744073709551616
  | _ => none
noncomputable def wrapA (k : IntKind) (n : Int) : Int :=
  match n with
  | .ofNat m => (match k with
    | .u8 => .ofNat (Nat.mod m 256)
    | .u16 => .ofNat (Nat.mod m 65536)
    | .u32 => .ofNat (Nat.mod m 4294967296)
    | .u64 => .ofNat (Nat.mod m 18446744073709551616)
    | .i64 => cond (Nat.blt m 9223372036854775808) (.ofNat m) (IntKind.wrap .i64 (.ofNat m))
    | k => IntKind.wrap k (.ofNat m))
  | .negSucc m => IntKind.wrap k (.negSucc m)
theorem wrapA_eq (k : IntKind) (n : Int) : wrapA k n = k.wrap n := by
  cases n with
  | negSucc m => rfl
  | ofNat m =>
    cases k <;> simp only [wrapA]
    case i64 =>
      cases h : Nat.blt m 9223372036854775808
      · rfl
      · have := blt_iff h
        have e : ((m : Int) % (2 ^ 64 : Int)) = m := by omega
        have : IntKind.wrap .i64 (m : Int) = if (m : Int) % (2 ^ 64 : Int) ≥ (2 ^ 63 : Int) then (m : Int) % (2 ^ 64 : Int) - (2 ^ 64 : Int) else (m : Int) % (2 ^ 64 : Int) := by
          simp [IntKind.wrap, IntKind.bits, IntKind.signed]
        rw [cond_true, Int.ofNat_eq_natCast, this, e, if_neg (by omega)]
    all_goals
      simp only [IntKind.wrap, IntKind.bits, IntKind.signed, Bool.false_and, Bool.false_eq_true, if_false, Int.ofNat_eq_natCast]
      show ((m % _ : Nat) : Int) = _
      omega

/-- A number's kind is the one that is wanted. -/
noncomputable def keq (a b : IntKind) : Bool := decide (a = b)

/-! ### Equal values: of numbers, truths and strings -/
noncomputable def leqN (a b : List Nat) : Bool := List.rec (motive := fun _ => List Nat → Bool) (fun b => List.rec (motive := fun _ => Bool) true (fun _ _ _ => false) b)
  (fun x _ ih b => List.rec (motive := fun _ => Bool) false (fun y t _ => cond (Nat.beq x y) (ih t) false) b) a b
theorem leqN_eq (a : List Nat) : ∀ b, leqN a b = decide (a = b) := by
  induction a with
  | nil => intro b; cases b <;> rfl
  | cons x a ih =>
    intro b
    cases b with
    | nil => rfl
    | cons y b =>
      show cond (Nat.beq x y) (leqN a b) false = _
      rw [beq_eq, ih]
      by_cases h : x = y <;> by_cases h2 : a = b <;> simp [h, h2]
noncomputable def lltN (a b : List Nat) : Bool := List.rec (motive := fun _ => List Nat → Bool) (fun b => List.rec (motive := fun _ => Bool) false (fun _ _ _ => true) b)
  (fun x _ ih b => List.rec (motive := fun _ => Bool) false (fun y t _ => cond (Nat.blt x y) true (cond (Nat.beq x y) (ih t) false)) b) a b
def small8 (n : Nat) : Bool := Nat.blt n 256
theorem strOf_toList (a : List Nat) : (strOf a).toList = a.map UInt8.ofNat := by
  rw [ByteArray.toList_eq]; simp [strOf]
