/-
  THE ENGINE, 9: what a quiet operation comes to, whichever it is.
-/
import Derived.Test.YtmnjpaholemebaaGreatDoorE8
namespace Go.PE
open Go

/-! ### len, cap, min, max -/
noncomputable def lenA (P : Program) (t : TypeId) (x : AV) (A : AH) : Option AV :=
  match und P t with
  | some .string => (match x with | .str s => some (.int .i64 (.ofNat (llen s))) | _ => none)
  | some (.array n _) => some (.int .i64 (.ofNat n))
  | some (.slice _) => (match x with
    | .nilslice => some (.int .i64 0)
    | .slice _ _ n _ => some (.int .i64 (.ofNat n))
    | _ => none)
  | some (.map _ _) => (match x with
    | .nilmap => some (.int .i64 0)
    | .map b => (match A.heap.get b with | some (.map es _) => some (.int .i64 (.ofNat (llen es))) | _ => none)
    | _ => none)
  | _ => none
noncomputable def capA (P : Program) (t : TypeId) (x : AV) : Option AV :=
  match und P t with
  | some (.slice _) => (match x with
    | .nilslice => some (.int .i64 0)
    | .slice _ _ _ (.exact n) => some (.int .i64 (.ofNat n))
    | _ => none)
  | _ => none
noncomputable def mm2 (mx : Bool) (x y : AV) : Option AV :=
  match x with
  | .int k a => (match y with
    | .int _ b => some (.int k (cond (cond mx (ilt a b) (ilt b a)) b a))
    | _ => none)
  | _ => none
noncomputable def mmA (mx : Bool) (l : List AV) : Option AV :=
  match l with
  | [x, y] => mm2 mx x y
  | [x, y, z] => (match mm2 mx x y with | some u => mm2 mx u z | none => none)
  | _ => none

section
variable {P : Program} {W : World} {E : Env} {A : AH}

theorem F2.length {α β : Type} {R : α → β → Prop} : ∀ {l : List α} {m : List β}, F2 R l m → l.length = m.length
  | _, _, .nil => rfl
  | _, _, .cons _ t => by simp [F2.length t]

theorem lenA_sound [Amb] (hr : Rel E A W) {t ty : TypeId} {x : AV} {v : AV} (h : lenA P t x A = some v) {x' : Value} (hx : conc E x = some x') :
    ∃ v', conc E v = some v' ∧ (Builtin.len_ #[t] ty #[x']).run P W = .ok v' W := by
  unfold lenA at h
  split at h
  · rename_i hu
    split at h
    case h_2 => cases h
    rename_i s
    cases h
    simp only [conc, Option.some.injEq] at hx
    subst hx
    refine ⟨_, rfl, ?_⟩
    have hs : (strOf s).size = s.length := by simp [strOf, ByteArray.size]
    rw [llen_eq]
    simp [Builtin.len_, run_und hu, goInt, hs]
  · rename_i n e hu
    cases h
    refine ⟨_, rfl, ?_⟩
    simp [Builtin.len_, run_und hu, goInt]
  · rename_i e hu
    split at h
    · cases h
      simp only [conc, Option.some.injEq] at hx
      subst hx
      refine ⟨_, rfl, ?_⟩
      simp [Builtin.len_, run_und hu, goInt]
    · cases h
      obtain ⟨y, a0, c, hy, rfl, _⟩ := conc_slice hx
      refine ⟨_, rfl, ?_⟩
      simp [Builtin.len_, run_und hu, goInt]
    · cases h
  · rename_i k e hu
    split at h
    · cases h
      simp only [conc, Option.some.injEq] at hx
      subst hx
      refine ⟨_, rfl, ?_⟩
      simp [Builtin.len_, run_und hu, goInt]
    · split at h
      case h_2 => cases h
      rename_i b _ es clock hg
      cases h
      obtain ⟨y, hy, rfl⟩ := conc_map hx
      obtain ⟨o, ho, hrel⟩ := hr.obj b _ y hg hy
      cases o <;> simp only [ObjRel] at hrel
      rename_i ces clk
      have hl := F2.length hrel.2
      refine ⟨_, rfl, ?_⟩
      simp [Builtin.len_, run_und hu, goInt, llen_eq, getObj, Sem.run, ho, hl]
    · cases h
  · cases h

theorem capA_sound {t ty : TypeId} {x : AV} {v : AV} (h : capA P t x = some v) {x' : Value} (hx : conc E x = some x') :
    ∃ v', conc E v = some v' ∧ (Builtin.cap_ #[t] ty #[x']).run P W = .ok v' W := by
  unfold capA at h
  split at h
  · rename_i e hu
    split at h
    · cases h
      simp only [conc, Option.some.injEq] at hx
      subst hx
      refine ⟨_, rfl, ?_⟩
      simp [Builtin.cap_, run_und hu, goInt]
    · cases h
      obtain ⟨y, a0, c, hy, rfl, hcap⟩ := conc_slice hx
      rcases hcap with ⟨_, hc⟩ | ⟨_, _, _, e⟩
      · simp only [CapSays] at hc
        subst hc
        refine ⟨_, rfl, ?_⟩
        simp [Builtin.cap_, run_und hu, goInt]
      · cases e
    · cases h
  · cases h

theorem mm2_sound {mx : Bool} {x y : AV} {v : AV} (h : mm2 mx x y = some v) {x' y' : Value} (hx : conc E x = some x') (hy : conc E y = some y') :
    ∃ v', conc E v = some v' ∧ (if mx then Builtin.max2 x' y' else Builtin.min2 x' y').run P W = .ok v' W := by
  unfold mm2 at h
  split at h
  case h_2 => cases h
  split at h
  case h_2 => cases h
  cases h
  simp only [conc, Option.some.injEq] at hx hy
  subst hx; subst hy
  refine ⟨_, rfl, ?_⟩
  rw [ilt_eq, ilt_eq]
  cases mx
  · simp only [cond_false, Bool.false_eq_true, if_false, Builtin.min2, Sem.run_pure]
    rename_i k a _ _ b
    by_cases hh : b < a <;> simp [hh]
  · simp only [cond_true, if_true, Builtin.max2, Sem.run_pure]
    rename_i k a _ _ b
    by_cases hh : a < b <;> simp [hh]

theorem mmA_sound {mx : Bool} {l : List AV} {v : AV} (h : mmA mx l = some v) {xs : List Value} (hx : concs E l = some xs) (ts : Array TypeId) (ty : TypeId) :
    ∃ v', conc E v = some v' ∧ (if mx then Builtin.max_ ts ty xs.toArray else Builtin.min_ ts ty xs.toArray).run P W = .ok v' W := by
  unfold mmA at h
  split at h
  · obtain ⟨x', _, h1, h2, rfl⟩ := concs_cons hx
    obtain ⟨y', _, h3, h4, rfl⟩ := concs_cons h2
    have := concs_nil h4; subst this
    obtain ⟨v', k1, k2⟩ := mm2_sound (P := P) (W := W) h h1 h3
    refine ⟨v', k1, ?_⟩
    cases mx
    · simp only [Bool.false_eq_true, if_false] at k2 ⊢
      simp [Builtin.min_, k2]
    · simp only [if_true] at k2 ⊢
      simp [Builtin.max_, k2]
  · obtain ⟨x', _, h1, h2, rfl⟩ := concs_cons hx
    obtain ⟨y', _, h3, h4, rfl⟩ := concs_cons h2
    obtain ⟨z', _, h5, h6, rfl⟩ := concs_cons h4
    have := concs_nil h6; subst this
    split at h
    case h_2 => cases h
    rename_i u hu
    obtain ⟨u', k1, k2⟩ := mm2_sound (P := P) (W := W) hu h1 h3
    obtain ⟨v', k3, k4⟩ := mm2_sound (P := P) (W := W) h k1 h5
    refine ⟨v', k3, ?_⟩
    cases mx
    · simp only [Bool.false_eq_true, if_false] at k2 k4 ⊢
      simp [Builtin.min_, k2, k4]
    · simp only [if_true] at k2 k4 ⊢
      simp [Builtin.max_, k2, k4]
  · cases h

/-! ### Maps: looking up -/
/-- The kinds of a key's cells; is it of several? -/
noncomputable def keyKs (P : Program) (t : TypeId) : Option (Bool × List CK) :=
  match und P t with
  | some .bool => some (false, [.b])
  | some (.int k) => some (false, [.i k])
  | some .string => some (false, [.s])
  | _ => (match flat P t with | some ks => some (true, ks) | none => none)
/-- The place of a key among entries, and what stands there. -/
noncomputable def findA (ks : List CK) (k : List AV) (es : List (AV × AV × Nat)) : Nat → Option (Option (Nat × AV)) := List.rec (motive := fun _ => Nat → Option (Option (Nat × AV))) (fun _ => some none)
  (fun e _ ih i => match eqsA ks k (cellsA e.1) with
    | some b => cond b (some (some (i, e.2.1))) (ih (Nat.succ i))
    | none => none) es
/-- May a value be a key: are its cells of their kinds? -/
noncomputable def keyOk (ks : List CK) (k : List AV) : Bool := match eqsA ks k k with
  | some _ => true
  | none => false

theorem checkKey_one {t : TypeId} {d : Nat} {em : Bool} {k : CK} {x : Value} (hk : keyKs P t = some (false, [k])) (hf : fit1 k x) :
    (Instr.checkKey em (d + 1) t x).run P W = .ok () W := by
  unfold keyKs at hk
  split at hk
  · rename_i hu; cases hk; cases x <;> simp only [fit1] at hf; simp [Instr.checkKey, run_und hu]
  · rename_i hu; cases hk; cases x <;> simp only [fit1] at hf; simp [Instr.checkKey, run_und hu]
  · rename_i hu; cases hk; cases x <;> simp only [fit1] at hf; simp [Instr.checkKey, run_und hu]
  · split at hk <;> cases hk

/-- A value of a flat type is a key. -/
def CheckOk (P : Program) (W : World) (em : Bool) (d : Nat) (t : TypeId) (ag : Bool) (ks : List CK) : Prop := ∀ xs, fits ks xs → (Instr.checkKey em d t (mkV ag xs)).run P W = .ok () W

theorem check_fields {em : Bool} {d : Nat} {go : TypeId → Option (List CK)} (hgo : ∀ t ks ag n, go t = some ks → layout P t = some (ag, n) → n = ks.length → (ag = false → n = 1) → CheckOk P W em d t ag ks) :
    ∀ (fs : List Field) (off : Nat) (ks : List CK), flatFs P go fs off = some ks → ∀ (xs : List Value), fits ks (xs.drop off) →
      (forIn fs PUnit.unit (fun (f : Field) (_ : PUnit) =>
        if f.name ≠ "_" then do
          let a ← part f.type xs.toArray f.offset
          Instr.checkKey em d f.type a
          pure (ForInStep.yield PUnit.unit)
        else pure (ForInStep.yield PUnit.unit)) : Sem PUnit).run P W = .ok PUnit.unit W
  | [], off, ks, h, xs, hx => by simp
  | f :: fs, off, ks, h, xs, hx => by
    unfold flatFs at h
    split at h
    case isFalse => cases h
    rename_i hf
    obtain ⟨hname, hoff⟩ := hf
    split at h
    case h_2 => cases h
    rename_i ks1 ag n hk1 hlay
    split at h
    case isFalse => cases h
    rename_i hn
    obtain ⟨hn, hag⟩ := hn
    have hag : ag = false → n = 1 := fun e => by rw [hn]; exact hag e
    split at h
    case h_2 => cases h
    rename_i ks2 hk2
    simp only [Option.some.injEq] at h
    subst h
    have sx := fits_split hx
    have lx := fits_length hx
    simp only [List.length_drop, List.length_append] at lx
    rw [← hn] at sx lx
    rw [List.drop_drop] at sx
    have hE := hgo f.type ks1 ag n hk1 hlay hn hag _ sx.1
    have p1 : (part f.type xs.toArray f.offset).run P W = .ok (mkV ag ((xs.drop off).take n)) W := by
      rw [hoff]; exact run_part hlay (fun e => by have := hag e; omega) hag
    have ih := check_fields hgo fs (off + n) ks2 hk2 xs sx.2
    rw [List.forIn_cons]
    simp only [hname, ne_eq, not_false_eq_true, if_true, Sem.run_bind, p1, hE, Result.andThen_ok, Sem.run_pure]
    exact ih

theorem check_items {em : Bool} {d : Nat} {e : TypeId} {ag : Bool} {n : Nat} {ks : List CK} {i : TypeInfo} (hE : CheckOk P W em d e ag ks) (hlay : layout P e = some (ag, n)) (hi : ti P e = some i) (hsz : i.size = n) (hn : n = ks.length) (hag : ag = false → n = 1) (xs : List Value) :
    ∀ (m k : Nat), fits (List.replicate m ks).flatten (xs.drop (k * n)) →
      (forIn (List.range' k m) PUnit.unit (fun (j : Nat) (_ : PUnit) => do
        Instr.checkKey em d e (← part e xs.toArray (j * (← sizeOf e)))
        pure (ForInStep.yield PUnit.unit)) : Sem PUnit).run P W = .ok PUnit.unit W
  | 0, k, hx => by simp
  | m + 1, k, hx => by
    rw [List.replicate_succ, List.flatten_cons] at hx
    have sx := fits_split hx
    have lx := fits_length hx
    simp only [List.length_drop, List.length_append] at lx
    rw [← hn] at sx lx
    rw [List.drop_drop] at sx
    have hEE := hE _ sx.1
    have p1 : (part e xs.toArray (k * n)).run P W = .ok (mkV ag ((xs.drop (k * n)).take n)) W := run_part hlay (fun e => by have := hag e; omega) hag
    have es : k * n + n = (k + 1) * n := by rw [Nat.add_mul, Nat.one_mul]
    rw [es] at sx
    have ih := check_items hE hlay hi hsz hn hag xs m (k + 1) sx.2
    rw [List.range'_succ, List.forIn_cons]
    simp only [Sem.run_bind, run_size hi, hsz, p1, hEE, Result.andThen_ok, Sem.run_pure]
    exact ih

theorem check_flat (em : Bool) (d : Nat) : ∀ (m : Nat) (t : TypeId) (ks : List CK) (ag : Bool) (n : Nat), flatT P m t = some ks → layout P t = some (ag, n) → n = ks.length → (ag = false → n = 1) → CheckOk P W em (d + m) t ag ks
  | 0, _, _, _, _, h, _, _, _ => by simp [flatT] at h
  | m + 1, t, ks, ag, n, h, hlay, hn, hag => by
    intro xs hx
    unfold flatT at h
    split at h
    · rename_i hu
      cases h
      have := und_layout hu hlay; subst this
      obtain ⟨x, rfl, h1⟩ := fits_one hx
      exact checkKey_one (by unfold keyKs; rw [hu]) h1
    · rename_i k hu
      cases h
      have := und_layout hu hlay; subst this
      obtain ⟨x, rfl, h1⟩ := fits_one hx
      exact checkKey_one (by unfold keyKs; rw [hu]) h1
    · rename_i hu
      cases h
      have := und_layout hu hlay; subst this
      obtain ⟨x, rfl, h1⟩ := fits_one hx
      exact checkKey_one (by unfold keyKs; rw [hu]) h1
    · rename_i fs hu
      split at h
      · cases h
      have := und_layout hu hlay; subst this
      have := check_fields (P := P) (W := W) (em := em) (d := d + m) (fun t ks ag n h1 h2 h3 h4 => check_flat em d m t ks ag n h1 h2 h3 h4) fs.toList 0 ks h xs (by simpa using hx)
      simp only [isAggD, mkV, if_true]
      rw [show d + (m + 1) = (d + m) + 1 from rfl, Instr.checkKey]
      simp only [Sem.run_bind, run_und hu, Result.andThen_ok]
      rw [← Array.forIn_toList]
      rw [this]; rfl
    · rename_i len e hu
      split at h
      case h_2 => cases h
      rename_i ks1 ag1 n1 hk1 hlay1
      split at h
      case isFalse => cases h
      rename_i hn1
      obtain ⟨hn1, hag1⟩ := hn1
      have hag1 : ag1 = false → n1 = 1 := fun e => by rw [hn1]; exact hag1 e
      cases h
      have := und_layout hu hlay; subst this
      have hE := check_flat em d m e ks1 ag1 n1 hk1 hlay1 hn1 hag1
      have hi : ∃ i, ti P e = some i ∧ i.size = n1 := by
        unfold layout at hlay1
        split at hlay1
        · split at hlay1
          · rename_i i hi; simp only [Option.some.injEq, Prod.mk.injEq] at hlay1; exact ⟨i, hi, hlay1.2⟩
          · cases hlay1
        · cases hlay1
      obtain ⟨i, hi, hsz⟩ := hi
      have := check_items hE hlay1 hi hsz hn1 hag1 xs len 0 (by simpa using hx)
      simp only [isAggD, mkV, if_true]
      rw [show d + (m + 1) = (d + m) + 1 from rfl, Instr.checkKey]
      simp only [Sem.run_bind, run_und hu, Result.andThen_ok]
      simp only [Std.Legacy.Range.forIn_eq_forIn_range', Std.Legacy.Range.size, Nat.sub_zero, Nat.add_one_sub_one, Nat.div_one]
      rw [this]; rfl
    · cases h

/-- A key's value, out of its cells: checked, and told equal to another one. -/
theorem keyKs_facts {t : TypeId} {ag : Bool} {ks : List CK} (h : keyKs P t = some (ag, ks)) :
    (∀ em xs, fits ks xs → (Instr.checkKey em 10000 t (mkV ag xs)).run P W = .ok () W) ∧
    (∀ xs ys, fits ks xs → fits ks ys → (Op.equal t (mkV ag xs) (mkV ag ys)).run P W = .ok (eqs xs ys) W) ∧ (ag = false → ks.length = 1) ∧
    ∃ d, und P t = some d := by
  unfold keyKs at h
  split at h
  · rename_i hu
    cases h
    refine ⟨fun em xs hx => ?_, fun xs ys hx hy => ?_, fun _ => rfl, _, hu⟩
    · obtain ⟨x, rfl, h1⟩ := fits_one hx
      exact checkKey_one (by unfold keyKs; rw [hu]) h1
    · obtain ⟨x, rfl, h1⟩ := fits_one hx
      obtain ⟨y, rfl, h2⟩ := fits_one hy
      cases x <;> simp only [fit1] at h1
      cases y <;> simp only [fit1] at h2
      rename_i a b
      have := run_equal_bool (P := P) W t a b (und_eq hu)
      simpa [mkV, eqs, eq1] using this
  · rename_i k hu
    cases h
    refine ⟨fun em xs hx => ?_, fun xs ys hx hy => ?_, fun _ => rfl, _, hu⟩
    · obtain ⟨x, rfl, h1⟩ := fits_one hx
      exact checkKey_one (by unfold keyKs; rw [hu]) h1
    · obtain ⟨x, rfl, h1⟩ := fits_one hx
      obtain ⟨y, rfl, h2⟩ := fits_one hy
      cases x <;> simp only [fit1] at h1
      cases y <;> simp only [fit1] at h2
      subst h1; subst h2
      rename_i a b
      have := run_equalIn_int (P := P) W 9999 t k k a b (und_eq hu)
      rw [equal_d]
      simpa [mkV, eqs, eq1] using this
  · rename_i hu
    cases h
    refine ⟨fun em xs hx => ?_, fun xs ys hx hy => ?_, fun _ => rfl, _, hu⟩
    · obtain ⟨x, rfl, h1⟩ := fits_one hx
      exact checkKey_one (by unfold keyKs; rw [hu]) h1
    · obtain ⟨x, rfl, h1⟩ := fits_one hx
      obtain ⟨y, rfl, h2⟩ := fits_one hy
      cases x <;> simp only [fit1] at h1
      cases y <;> simp only [fit1] at h2
      rename_i a b
      have := run_equalIn_string (P := P) W 9999 t a b (und_eq hu)
      rw [ByteArray.toList_eq, ByteArray.toList_eq] at this
      rw [equal_d]
      simpa [mkV, eqs, eq1] using this
  · split at h
    case h_2 => cases h
    rename_i hk
    cases h
    have hk2 := hk
    unfold flat at hk2
    split at hk2
    case h_2 => cases hk2
    rename_i n hl
    split at hk2
    case h_2 => cases hk2
    rename_i ks' hks
    obtain ⟨h1, hk2⟩ := cond_some hk2
    cases hk2
    have hn := Nat.eq_of_beq_eq_true h1
    rw [llen_eq] at hn
    refine ⟨fun em xs hx => ?_, fun xs ys hx hy => ?_, fun h => by simp at h, ?_⟩
    · exact check_flat (P := P) (W := W) em 9988 12 t _ true n hks hl hn (by simp) xs hx
    · simpa [mkV] using flat_equal hk hx hy
    · unfold layout at hl
      split at hl
      · rename_i d hd; exact ⟨d, hd⟩
      · cases hl
end
end Go.PE
