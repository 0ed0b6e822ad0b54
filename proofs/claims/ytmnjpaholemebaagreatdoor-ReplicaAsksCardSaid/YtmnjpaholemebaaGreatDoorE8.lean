/-
  THE ENGINE, 8: building structs and arrays; every quiet operation.
-/
import Derived.Test.YtmnjpaholemebaaGreatDoorE7
namespace Go.PE
open Go

section
variable {P : Program} {W : World} {E : Env} {A : AH}

theorem run_mapM_list {α β : Type} {f : α → Sem β} {g : α → β} : ∀ (l : List α), (∀ x ∈ l, (f x).run P W = .ok (g x) W) → (l.mapM f).run P W = .ok (l.map g) W
  | [], _ => rfl
  | x :: l, h => by
    rw [List.mapM_cons]
    simp [h x (by simp), run_mapM_list l (fun y hy => h y (by simp [hy]))]
theorem run_mapM_array {α β : Type} {f : α → Sem β} {g : α → β} (xs : Array α) (h : ∀ x ∈ xs.toList, (f x).run P W = .ok (g x) W) : (xs.mapM f).run P W = .ok (xs.map g) W := by
  rw [Array.mapM_eq_mapM_toList]
  simp [run_mapM_list xs.toList h]
  rw [← Array.toList_map]

/-! ### Structs and arrays, built -/
noncomputable def sizeA (P : Program) (t : TypeId) : Nat := match ti P t with
  | some i => i.size
  | none => 0
noncomputable def hasA (P : Program) (t : TypeId) : Bool := match ti P t with
  | some _ => true
  | none => false
noncomputable def zeroA (P : Program) (t : TypeId) : Option AV := match ti P t with
  | some i => (match i.zero with | some z => absV 4 z | none => none)
  | none => none
theorem zeroA_run {t : TypeId} {v : AV} (h : zeroA P t = some v) : ∃ z, (∀ E, conc E v = some z) ∧ (zeroValue t).run P W = .ok z W := by
  unfold zeroA at h
  split at h
  case h_2 => cases h
  rename_i i hi
  split at h
  case h_2 => cases h
  rename_i z hz
  refine ⟨z, fun E => absV_conc E 4 z v h, ?_⟩
  simp [zeroValue, run_ti hi, hz]
theorem size_run {t : TypeId} (h : hasA P t = true) : (sizeOf t).run P W = .ok (sizeA P t) W := by
  unfold hasA at h; unfold sizeA
  split at h
  · rename_i i hi; exact run_size hi
  · cases h

noncomputable def placeS (P : Program) (fs : List Field) (i : Nat) : Option (Nat × Nat) := match lget i fs with
  | some f => some (f.offset, sizeA P f.type)
  | none => none
noncomputable def buildA (P : Program) (t : TypeId) (parts : List (Nat × AV)) : Option AV :=
  match zeroA P t with
  | some z => (match und P t with
    | some (.struct fs) => cond (lall (fun f => hasA P f.type) fs.toList)
      (match fillA (placeS P fs.toList) (cellsA z) parts with | some l => some (.agg l) | none => none) none
    | some (.array _ e) => cond (hasA P e) (match fillA (fun i => some (Nat.mul i (sizeA P e), sizeA P e)) (cellsA z) parts with | some l => some (.agg l) | none => none) none
    | _ => none)
  | none => none

theorem buildA_sound {t : TypeId} {parts : List (Nat × AV)} {v : AV} (h : buildA P t parts = some v) {ps : Array (Nat × Value)}
    (hp : F2 (fun (p : Nat × AV) (q : Nat × Value) => p.1 = q.1 ∧ conc E p.2 = some q.2) parts ps.toList) :
    ∃ v', conc E v = some v' ∧ (Instr.build t ps).run P W = .ok v' W := by
  unfold buildA at h
  split at h
  case h_2 => cases h
  rename_i z hz
  obtain ⟨z', hz1, hz2⟩ := zeroA_run (W := W) hz
  split at h
  · rename_i fs hu
    obtain ⟨hall, h⟩ := cond_some h
    have hall := lall_eq _ _ hall
    split at h
    case h_2 => cases h
    rename_i l hl
    cases h
    obtain ⟨cs', k1, k2⟩ := fillA_sound (ρ := fun _ => undef) _ _ _ _ z'.cells hl (cellsA_conc (hz1 E)) hp
    refine ⟨.agg cs', by simp [conc, k2], ?_⟩
    have hm := run_mapM_array (P := P) (W := W) (f := fun f : Field => do pure (f.offset, ← sizeOf f.type)) (g := fun f => (f.offset, sizeA P f.type)) fs (fun f hf => by
      simp [size_run (W := W) (hall f hf)])
    simp only [Instr.build, Sem.run_bind, hz2, Result.andThen_ok, run_und hu]
    rw [hm]
    simp only [Result.andThen_ok]
    have hpl : (fun i => (fs.map fun f => (f.offset, sizeA P f.type))[i]?) = placeS P fs.toList := by
      funext i
      unfold placeS
      rw [lget_eq]
      simp
      cases fs[i]? <;> rfl
    rw [hpl, k1]
    rfl
  · rename_i n e hu
    obtain ⟨hh, h⟩ := cond_some h
    split at h
    case h_2 => cases h
    rename_i l hl
    cases h
    obtain ⟨cs', k1, k2⟩ := fillA_sound (ρ := fun _ => undef) _ _ _ _ z'.cells hl (cellsA_conc (hz1 E)) hp
    refine ⟨.agg cs', by simp [conc, k2], ?_⟩
    simp only [Instr.build, Sem.run_bind, hz2, Result.andThen_ok, run_und hu, size_run (W := W) hh]
    have hpl : (fun i => some (i * sizeA P e, sizeA P e)) = (fun i => some (Nat.mul i (sizeA P e), sizeA P e)) := rfl
    rw [hpl, k1]
    rfl
  · cases h

/-! ### Operands of an operation -/
/-- An abstract reading of operands, and the model's. -/
def Opnds (E : Env) (ρ : Operand → Option AV) (ρc : Operand → Value) : Prop := ∀ x v, ρ x = some v → conc E v = some (ρc x)

noncomputable def partsA (ρ : Operand → Option AV) (l : List (Nat × Operand)) : Option (List (Nat × AV)) := List.rec (motive := fun _ => Option (List (Nat × AV))) (some [])
  (fun p _ ih => match ρ p.2 with
    | some v => (match ih with | some r => some ((p.1, v) :: r) | none => none)
    | none => none) l
theorem partsA_sound {ρ : Operand → Option AV} {ρc : Operand → Value} (hρ : Opnds E ρ ρc) : ∀ (l : List (Nat × Operand)) (r : List (Nat × AV)), partsA ρ l = some r →
    F2 (fun (p : Nat × AV) (q : Nat × Value) => p.1 = q.1 ∧ conc E p.2 = some q.2) r (l.map fun (i, x) => (i, ρc x))
  | [], r, h => by cases h; exact .nil
  | p :: l, r, h => by
    have h' : (match ρ p.2 with
      | some v => (match partsA ρ l with | some r => some ((p.1, v) :: r) | none => none)
      | none => none) = some r := h
    split at h'
    case h_2 => cases h'
    rename_i v hv
    split at h'
    case h_2 => cases h'
    rename_i r' hr
    cases h'
    exact .cons ⟨rfl, hρ _ _ hv⟩ (partsA_sound hρ l r' hr)
theorem mapO_ops {ρ : Operand → Option AV} {ρc : Operand → Value} (hρ : Opnds E ρ ρc) : ∀ (l : List Operand) (r : List AV), mapO ρ l = some r → concs E r = some (l.map ρc)
  | [], r, h => by cases h; rfl
  | x :: l, r, h => by
    obtain ⟨y, r', h1, h2, rfl⟩ := mapO_cons _ _ _ _ h
    simp [concs, hρ _ _ h1, mapO_ops hρ l r' h2]

/-! ### Small operations -/
noncomputable def unA (op : UnOp) (x : AV) : Option AV :=
  match op with
  | .not => (match x with | .bool b => some (.bool (!b)) | _ => none)
  | .neg => (match x with | .int k n => some (.int k (wrapA k (Int.sub 0 n))) | _ => none)
  | _ => none
theorem unA_sound {op : UnOp} {x : AV} {v : AV} (h : unA op x = some v) {x' : Value} (hx : conc E x = some x') : ∃ v', conc E v = some v' ∧ (Op.unary op x').run P W = .ok v' W := by
  unfold unA at h
  split at h
  · split at h
    · cases h
      simp only [conc, Option.some.injEq] at hx
      subst hx
      exact ⟨_, rfl, rfl⟩
    · cases h
  · split at h
    · cases h
      simp only [conc, Option.some.injEq] at hx
      subst hx
      refine ⟨_, rfl, ?_⟩
      rw [wrapA_eq]; rfl
    · cases h
  · cases h

noncomputable def byteOf (x : AV) : Option Nat := match x with
  | .int k n => (match k with | .u8 => (match n with | .ofNat m => some (Nat.mod m 256) | _ => none) | _ => none)
  | _ => none
noncomputable def isU8 (P : Program) (t : TypeId) : Bool := match und P t with
  | some (.int k) => (match k with | .u8 => true | _ => false)
  | _ => false

noncomputable def convA (P : Program) (src dst : TypeId) (x : AV) (A : AH) : Option AV :=
  match und P src with
  | none => none
  | some ds => match und P dst with
    | some (.int k) => (match ds with
      | .int _ => (match x with
        | .int _ n => some (.int k (wrapA k n))
        | .symi _ s => cond (Nat.ble s.top (topOf k)) (some (.symi k s)) none
        | _ => none)
      | _ => none)
    | some .string => (match ds with
      | .string => (match x with | .str s => some (.str s) | _ => none)
      | .slice e => cond (isU8 P e) (match x with
        | .nilslice => some (.str [])
        | .slice b off len _ => (match len with
          | 0 => some (.str [])
          | len => (match rdCells A b off len with
            | some vs => (match mapO byteOf vs with | some l => some (.str l) | none => none)
            | none => none))
        | _ => none) none
      | _ => none)
    | _ => none

theorem run_bytes : ∀ (xs : List Value) (l : List Nat) (vs : List AV) (acc : List UInt8), concs E vs = some xs → mapO byteOf vs = some l →
    (forIn xs (⟨acc.toArray⟩ : ByteArray) (fun c (s : ByteArray) => do
      let .int .u8 n := c | stuck "bytesToString: byte expected"
      pure (ForInStep.yield (s.push (UInt8.ofNat n.toNat)))) : Sem ByteArray).run P W = .ok ⟨(acc ++ l.map UInt8.ofNat).toArray⟩ W := by
  intro xs
  induction xs with
  | nil =>
    intro l vs acc hc hm
    have : vs = [] := by have := concs_length hc; simpa using this.symm
    subst this
    cases hm
    simp
  | cons x xs ih =>
    intro l vs acc hc hm
    cases vs with
    | nil => simp [concs] at hc
    | cons v vs =>
      obtain ⟨x', xs', h1, h2, e⟩ := concs_cons hc
      simp only [List.cons.injEq] at e
      obtain ⟨rfl, rfl⟩ := e
      obtain ⟨y, r', h3, h4, rfl⟩ := mapO_cons _ _ _ _ hm
      unfold byteOf at h3
      split at h3
      case h_2 => cases h3
      split at h3
      case h_2 => cases h3
      split at h3
      case h_2 => cases h3
      cases h3
      simp only [conc, Option.some.injEq] at h1
      subst h1
      rename_i m
      have := ih r' vs (acc ++ [UInt8.ofNat m]) h2 h4
      simp only [List.forIn_cons, Sem.run_bind, Int.ofNat_eq_natCast, Int.toNat_natCast, Sem.run_pure, Result.andThen_ok]
      have e1 : (ByteArray.mk acc.toArray).push (UInt8.ofNat m) = ⟨(acc ++ [UInt8.ofNat m]).toArray⟩ := by simp [ByteArray.push]
      rw [e1, this]
      have e2 : UInt8.ofNat (m % 256) = UInt8.ofNat m := by apply UInt8.toNat.inj; simp
      have e3 : UInt8.ofNat (Nat.mod m 256) = UInt8.ofNat m := e2
      simp [e3]

theorem convA_sound [Amb] (hr : Rel E A W) {src dst : TypeId} {x : AV} {v : AV} (h : convA P src dst x A = some v) {x' : Value} (hx : conc E x = some x') :
    ∃ v', conc E v = some v' ∧ (convert src dst x').run P W = .ok v' W := by
  unfold convA at h
  split at h
  case h_1 => cases h
  rename_i ds hs
  split at h
  · rename_i k hd
    split at h
    case h_2 => cases h
    split at h
    case h_3 => cases h
    · cases h
      simp only [conc, Option.some.injEq] at hx
      subst hx
      refine ⟨_, rfl, ?_⟩
      rw [wrapA_eq]
      simp [convert, run_und hs, run_und hd, Conv.intToInt]
    · rename_i s
      obtain ⟨h1, h2⟩ := cond_some h
      cases h2
      have h1 := Nat.le_of_ble_eq_true h1
      obtain ⟨hk, rfl⟩ := conc_symi hx
      obtain ⟨q, e0, e1, e2', e, b1, b2⟩ := Sy.nat hk
      refine ⟨.int k (s.val E.sy), conc_symi_mk hk rfl, ?_⟩
      have e2 : k.wrap (s.val E.sy) = s.val E.sy := top_wrap (by omega) (by omega)
      simp [convert, run_und hs, run_und hd, Conv.intToInt, e2]
  · rename_i hd
    split at h
    · split at h
      case h_2 => cases h
      cases h
      simp only [conc, Option.some.injEq] at hx
      subst hx
      refine ⟨_, rfl, ?_⟩
      simp [convert, run_und hs, run_und hd]
    · rename_i e
      obtain ⟨he, h⟩ := cond_some h
      have hue : und P e = some (.int .u8) := by
        unfold isU8 at he
        split at he
        · rename_i hu2
          split at he
          · exact hu2
          · cases he
        · cases he
      have cv : ∀ y : Value, (∃ a n c, y = .slice a n c) → (convert src dst y).run P W = (Conv.bytesToString y).run P W := by
        rintro y ⟨a, n, c, rfl⟩
        cases a <;> simp [convert, run_und hs, run_und hd, run_und hue]
      split at h
      · cases h
        simp only [conc, Option.some.injEq] at hx
        subst hx
        refine ⟨_, rfl, ?_⟩
        rw [cv _ ⟨_, _, _, rfl⟩]
        simp [Conv.bytesToString, strOf]
        rfl
      · rename_i b off len cap
        obtain ⟨y, a0, c, hy, rfl, hcap⟩ := conc_slice hx
        split at h
        · cases h
          refine ⟨_, rfl, ?_⟩
          rw [cv _ ⟨_, _, _, rfl⟩]
          simp [Conv.bytesToString, strOf, loadCells, loadCellsFrom]
          rfl
        · rename_i hlen
          split at h
          case h_2 => cases h
          rename_i vs hv
          split at h
          case h_2 => cases h
          rename_i l hl
          cases h
          rcases hcap with ⟨rfl, _⟩ | ⟨h0, _⟩
          case inr => exact absurd h0 hlen
          obtain ⟨xs, k1, k2, k3, k4⟩ := rd_run (P := P) hr hy hv
          refine ⟨_, rfl, ?_⟩
          rw [cv _ ⟨_, _, _, rfl⟩]
          have := run_bytes (P := P) (W := W) (E := E) xs l vs [] k1 hl
          simp only [Conv.bytesToString, Sem.run_bind, k4, Result.andThen_ok]
          simp only [List.forIn_toArray]
          have e0 : ByteArray.empty = ⟨([] : List UInt8).toArray⟩ := rfl
          rw [e0]
          erw [this]
          simp [strOf]
      · cases h
    · cases h
  · cases h
end
end Go.PE
