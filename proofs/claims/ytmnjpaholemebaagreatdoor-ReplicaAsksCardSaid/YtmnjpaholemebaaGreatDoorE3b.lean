/-
  THE ENGINE, 3b: '==' between structs and arrays of numbers, truths and strings.
-/
import Derived.Test.YtmnjpaholemebaaGreatDoorE3
import Derived.DeepKeys
namespace Go.PE
open Go

inductive CK where
  | b
  | i (k : IntKind)
  | s

def catO (f : Nat → Option (List CK)) : Nat → Option (List CK)
  | 0 => some []
  | n + 1 => match catO f n, f n with
    | some a, some b => some (a ++ b)
    | _, _ => none

/-- The cells of a type that is made of numbers, truths and strings alone, each at its place. -/
noncomputable def flatFs (P : Program) (go : TypeId → Option (List CK)) : List Field → Nat → Option (List CK)
  | [], _ => some []
  | f :: fs, off =>
    if f.name ≠ "_" ∧ f.offset = off then
      match go f.type, layout P f.type with
      | some ks, some (ag, n) => if n = ks.length ∧ (ag = false → ks.length = 1) then
          (match flatFs P go fs (off + n) with | some r => some (ks ++ r) | none => none) else none
      | _, _ => none
    else none
noncomputable def flatT (P : Program) : Nat → TypeId → Option (List CK)
  | 0, _ => none
  | d + 1, t => match und P t with
    | some .bool => some [.b]
    | some (.int k) => some [.i k]
    | some .string => some [.s]
    | some (.struct fs) => if P.stoodInHeld t then none else flatFs P (flatT P d) fs.toList 0
    | some (.array n e) => match flatT P d e, layout P e with
      | some ks, some (ag, m) => if m = ks.length ∧ (ag = false → ks.length = 1) then some ((List.replicate n ks).flatten) else none
      | _, _ => none
    | _ => none

def fit1 : CK → Value → Prop
  | .b, .bool _ => True
  | .i k, .int k' _ => k = k'
  | .s, .string _ => True
  | _, _ => False
def fits : List CK → List Value → Prop
  | [], [] => True
  | k :: ks, v :: vs => fit1 k v ∧ fits ks vs
  | _, _ => False

def eq1 : Value → Value → Bool
  | .bool a, .bool b => a == b
  | .int _ a, .int _ b => a == b
  | .string a, .string b => a.data.toList == b.data.toList
  | _, _ => false
def eqs : List Value → List Value → Bool
  | [], [] => true
  | a :: as, b :: bs => eq1 a b && eqs as bs
  | _, _ => false

theorem fits_length : ∀ {ks : List CK} {vs : List Value}, fits ks vs → vs.length = ks.length
  | [], [], _ => rfl
  | _ :: _, _ :: _, h => by simp [fits_length h.2]
  | [], _ :: _, h => h.elim
  | _ :: _, [], h => h.elim
theorem fits_split : ∀ {ks ls : List CK} {vs : List Value}, fits (ks ++ ls) vs → fits ks (vs.take ks.length) ∧ fits ls (vs.drop ks.length)
  | [], ls, vs, h => by simpa [fits] using h
  | k :: ks, ls, [], h => h.elim
  | k :: ks, ls, v :: vs, h => by
    have := fits_split (ks := ks) (ls := ls) (vs := vs) h.2
    exact ⟨⟨h.1, by simpa using this.1⟩, by simpa using this.2⟩
theorem eqs_append : ∀ {a b c d : List Value}, a.length = b.length → eqs (a ++ c) (b ++ d) = (eqs a b && eqs c d)
  | [], [], c, d, _ => by simp [eqs]
  | x :: a, y :: b, c, d, h => by
    have := eqs_append (a := a) (b := b) (c := c) (d := d) (by simpa using h)
    simp [eqs, this, Bool.and_assoc]
  | [], _ :: _, _, _, h => by simp at h
  | _ :: _, [], _, _, h => by simp at h
theorem eqs_take_drop {xs ys : List Value} (n : Nat) (h : xs.length = ys.length) : eqs xs ys = (eqs (xs.take n) (ys.take n) && eqs (xs.drop n) (ys.drop n)) := by
  conv => lhs; rw [← List.take_append_drop n xs, ← List.take_append_drop n ys]
  exact eqs_append (by simp [h])

/-- A value of a type, out of its cells. -/
def mkV (ag : Bool) (xs : List Value) : Value := if ag then .agg xs.toArray else xs.headD undef

section
variable {P : Program} {W : World}

theorem run_part {t : TypeId} {ag : Bool} {n : Nat} (hl : layout P t = some (ag, n)) {xs : List Value} {off : Nat} (hn : ag = false → off < xs.length) (h1 : ag = false → n = 1) :
    (part t xs.toArray off).run P W = .ok (mkV ag ((xs.drop off).take n)) W := by
  obtain ⟨ha, hs⟩ := layout_run hl W
  unfold part mkV
  cases ag
  · have := h1 rfl
    subst this
    have hn := hn rfl
    simp only [Sem.run_bind, ha, Result.andThen_ok, Bool.false_eq_true, if_false]
    have : xs.toArray[off]? = some (xs[off]'(by omega)) := by simp [List.getElem?_eq_getElem (show off < xs.length by omega)]
    rw [this]
    rw [List.drop_eq_getElem_cons (by omega)]
    rfl
  · simp only [Sem.run_bind, ha, Result.andThen_ok, if_true, hs]
    simp

/-- What equal means, at a type that is flat. -/
def EqAt (P : Program) (W : World) (d : Nat) (t : TypeId) (ag : Bool) (ks : List CK) : Prop :=
  ∀ xs ys, fits ks xs → fits ks ys → (Op.equalIn d t (mkV ag xs) (mkV ag ys)).run P W = .ok (eqs xs ys) W

theorem eq_fields {d : Nat} {go : TypeId → Option (List CK)} (hgo : ∀ t ks ag n, go t = some ks → layout P t = some (ag, n) → n = ks.length → (ag = false → n = 1) → EqAt P W d t ag ks) :
    ∀ (fs : List Field) (off : Nat) (ks : List CK), flatFs P go fs off = some ks → ∀ (xs ys : List Value), fits ks (xs.drop off) → fits ks (ys.drop off) → xs.length = ys.length →
      (Op.eqFields d xs.toArray ys.toArray fs).run P W = .ok (eqs (xs.drop off) (ys.drop off)) W
  | [], off, ks, h, xs, ys, hx, hy, hl => by
    simp only [flatFs, Option.some.injEq] at h
    subst h
    have e1 : xs.drop off = [] := by have := fits_length hx; simp at this; exact List.drop_eq_nil_of_le (by omega)
    have e2 : ys.drop off = [] := by have := fits_length hy; simp at this; exact List.drop_eq_nil_of_le (by omega)
    rw [e1, e2]
    simp [Op.eqFields, eqs]
  | f :: fs, off, ks, h, xs, ys, hx, hy, hl => by
    unfold flatFs at h
    split at h
    case isFalse => cases h
    rename_i hf
    obtain ⟨hname, hoff⟩ := hf
    split at h
    case h_2 => cases h
    rename_i ks1 ag n hk1 hlay
    split at h
    case isFalse => cases h
    rename_i hn
    obtain ⟨hn, hag⟩ := hn
    have hag : ag = false → n = 1 := fun e => by rw [hn]; exact hag e
    split at h
    case h_2 => cases h
    rename_i ks2 hk2
    simp only [Option.some.injEq] at h
    subst h
    have sx := fits_split hx
    have sy := fits_split hy
    have lx := fits_length hx
    have ly := fits_length hy
    simp only [List.length_drop, List.length_append] at lx ly
    rw [← hn] at sx sy lx ly
    rw [List.drop_drop] at sx sy
    have hE := hgo f.type ks1 ag n hk1 hlay hn hag _ _ sx.1 sy.1
    have p1 : (part f.type xs.toArray f.offset).run P W = .ok (mkV ag ((xs.drop off).take n)) W := by
      rw [hoff]; exact run_part hlay (fun e => by have := hag e; omega) hag
    have p2 : (part f.type ys.toArray f.offset).run P W = .ok (mkV ag ((ys.drop off).take n)) W := by
      rw [hoff]; exact run_part hlay (fun e => by have := hag e; omega) hag
    have ih := eq_fields hgo fs (off + n) ks2 hk2 xs ys sx.2 sy.2 hl
    have hsplit := eqs_take_drop (xs := xs.drop off) (ys := ys.drop off) n (by simp [hl])
    rw [List.drop_drop, List.drop_drop] at hsplit
    rw [hsplit]
    simp only [Op.eqFields, hname, ne_eq, not_false_eq_true, if_true, Sem.run_bind, p1, p2, hE, Result.andThen_ok]
    cases eqs ((xs.drop off).take n) ((ys.drop off).take n)
    · simp
    · simpa using ih

theorem eq_items {d : Nat} {e : TypeId} {ag : Bool} {n : Nat} {ks : List CK} (hE : EqAt P W d e ag ks) (hlay : layout P e = some (ag, n)) (hn : n = ks.length) (hag : ag = false → n = 1) (xs ys : List Value) (hl : xs.length = ys.length) :
    ∀ (m i : Nat), fits (List.replicate m ks).flatten (xs.drop (i * n)) → fits (List.replicate m ks).flatten (ys.drop (i * n)) →
      (Op.eqItems d e n xs.toArray ys.toArray (List.range' i m)).run P W = .ok (eqs (xs.drop (i * n)) (ys.drop (i * n))) W
  | 0, i, hx, hy => by
    simp only [List.replicate_zero, List.flatten_nil] at hx hy
    have e1 : xs.drop (i * n) = [] := by have := fits_length hx; simp at this; exact List.drop_eq_nil_of_le (by omega)
    have e2 : ys.drop (i * n) = [] := by have := fits_length hy; simp at this; exact List.drop_eq_nil_of_le (by omega)
    rw [e1, e2]
    simp [Op.eqItems, eqs]
  | m + 1, i, hx, hy => by
    rw [List.replicate_succ, List.flatten_cons] at hx hy
    have sx := fits_split hx
    have sy := fits_split hy
    have lx := fits_length hx
    have ly := fits_length hy
    simp only [List.length_drop, List.length_append] at lx ly
    rw [← hn] at sx sy lx ly
    rw [List.drop_drop] at sx sy
    have hEE := hE _ _ sx.1 sy.1
    have p1 : (part e xs.toArray (i * n)).run P W = .ok (mkV ag ((xs.drop (i * n)).take n)) W := run_part hlay (fun e => by have := hag e; omega) hag
    have p2 : (part e ys.toArray (i * n)).run P W = .ok (mkV ag ((ys.drop (i * n)).take n)) W := run_part hlay (fun e => by have := hag e; omega) hag
    have es : i * n + n = (i + 1) * n := by rw [Nat.add_mul, Nat.one_mul]
    rw [es] at sx sy
    have ih := eq_items hE hlay hn hag xs ys hl m (i + 1) sx.2 sy.2
    have hsplit := eqs_take_drop (xs := xs.drop (i * n)) (ys := ys.drop (i * n)) n (by simp [hl])
    rw [List.drop_drop, List.drop_drop, es] at hsplit
    rw [hsplit, List.range'_succ]
    simp only [Op.eqItems, Sem.run_bind, p1, p2, hEE, Result.andThen_ok]
    cases eqs ((xs.drop (i * n)).take n) ((ys.drop (i * n)).take n)
    · simp
    · simpa using ih

theorem und_layout {t : TypeId} {d : TypeDesc} {ag : Bool} {n : Nat} (h : und P t = some d) (hl : layout P t = some (ag, n)) : ag = isAggD d := by
  unfold layout at hl
  rw [h] at hl
  simp only at hl
  split at hl
  · simp only [Option.some.injEq, Prod.mk.injEq] at hl; exact hl.1.symm
  · cases hl

theorem fits_one {k : CK} {xs : List Value} (h : fits [k] xs) : ∃ x, xs = [x] ∧ fit1 k x := by
  cases xs with
  | nil => exact h.elim
  | cons x xs => cases xs with
    | nil => exact ⟨x, rfl, h.1⟩
    | cons _ _ => exact h.2.elim

theorem eq_flat (d : Nat) : ∀ (m : Nat) (t : TypeId) (ks : List CK) (ag : Bool) (n : Nat), flatT P m t = some ks → layout P t = some (ag, n) → n = ks.length → (ag = false → n = 1) → EqAt P W (d + m) t ag ks
  | 0, _, _, _, _, h, _, _, _ => by simp [flatT] at h
  | m + 1, t, ks, ag, n, h, hlay, hn, hag => by
    intro xs ys hx hy
    unfold flatT at h
    split at h
    · rename_i hu
      cases h
      have := und_layout hu hlay; subst this
      obtain ⟨x, rfl, h1⟩ := fits_one hx
      obtain ⟨y, rfl, h2⟩ := fits_one hy
      cases x <;> simp only [fit1] at h1
      cases y <;> simp only [fit1] at h2
      rename_i a b
      have := run_equalIn_bool (P := P) W (d + m) t a b (und_eq hu)
      rw [show d + (m + 1) = d + m + 1 from rfl]
      simpa [mkV, isAggD, eqs, eq1] using this
    · rename_i k hu
      cases h
      have := und_layout hu hlay; subst this
      obtain ⟨x, rfl, h1⟩ := fits_one hx
      obtain ⟨y, rfl, h2⟩ := fits_one hy
      cases x <;> simp only [fit1] at h1
      cases y <;> simp only [fit1] at h2
      subst h1; subst h2
      rename_i a b
      have := run_equalIn_int (P := P) W (d + m) t k k a b (und_eq hu)
      rw [show d + (m + 1) = d + m + 1 from rfl]
      simpa [mkV, isAggD, eqs, eq1] using this
    · rename_i hu
      cases h
      have := und_layout hu hlay; subst this
      obtain ⟨x, rfl, h1⟩ := fits_one hx
      obtain ⟨y, rfl, h2⟩ := fits_one hy
      cases x <;> simp only [fit1] at h1
      cases y <;> simp only [fit1] at h2
      rename_i a b
      have := run_equalIn_string (P := P) W (d + m) t a b (und_eq hu)
      rw [ByteArray.toList_eq, ByteArray.toList_eq] at this
      rw [show d + (m + 1) = d + m + 1 from rfl]
      simpa [mkV, isAggD, eqs, eq1] using this
    · rename_i fs hu
      split at h
      · cases h
      rename_i hst
      have := und_layout hu hlay; subst this
      have hfs : P.fieldsOf t = fs := by simp [Program.fieldsOf, und_eq hu]
      have lx := fits_length hx
      have ly := fits_length hy
      have := eq_fields (P := P) (W := W) (d := d + m) (fun t ks ag n h1 h2 h3 h4 => eq_flat d m t ks ag n h1 h2 h3 h4) fs.toList 0 ks h xs ys (by simpa using hx) (by simpa using hy) (by omega)
      simp only [isAggD, mkV, if_true]
      rw [show d + (m + 1) = (d + m) + 1 from rfl, run_equalIn_struct W (d + m) t _ _ (by rw [hfs]; exact und_eq hu) (by simpa using hst), hfs]
      simpa using this
    · rename_i len e hu
      split at h
      case h_2 => cases h
      rename_i ks1 ag1 n1 hk1 hlay1
      split at h
      case isFalse => cases h
      rename_i hn1
      obtain ⟨hn1, hag1⟩ := hn1
      have hag1 : ag1 = false → n1 = 1 := fun e => by rw [hn1]; exact hag1 e
      cases h
      have := und_layout hu hlay; subst this
      have lx := fits_length hx
      have ly := fits_length hy
      have hE := eq_flat d m e ks1 ag1 n1 hk1 hlay1 hn1 hag1
      have := eq_items hE hlay1 hn1 hag1 xs ys (by omega) len 0 (by simpa using hx) (by simpa using hy)
      have hi : ∃ i, ti P e = some i ∧ i.size = n1 := by
        unfold layout at hlay1
        split at hlay1
        · split at hlay1
          · rename_i i hi; simp only [Option.some.injEq, Prod.mk.injEq] at hlay1; exact ⟨i, hi, hlay1.2⟩
          · cases hlay1
        · cases hlay1
      obtain ⟨i, hi, hsz⟩ := hi
      have hc : P.cellsOf e = n1 := by simp [Program.cellsOf, ti_info hi, hsz]
      simp only [isAggD, mkV, if_true]
      rw [show d + (m + 1) = (d + m) + 1 from rfl, run_equalIn_array W (d + m) _ _ (und_eq hu) (ti_info hi), hc, List.range_eq_range']
      simpa using this
    · cases h
end
end Go.PE
