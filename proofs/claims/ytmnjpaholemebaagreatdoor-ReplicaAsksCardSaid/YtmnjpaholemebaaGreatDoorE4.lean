/-
  THE ENGINE, 4: operations that leave memory as it is: what they come to.
-/
import Derived.Test.YtmnjpaholemebaaGreatDoorE3b
namespace Go.PE
open Go

noncomputable def kidx (k : IntKind) : Nat := match k with
  | .i8 => 0 | .i16 => 1 | .i32 => 2 | .i64 => 3 | .u8 => 4 | .u16 => 5 | .u32 => 6 | .u64 => 7
noncomputable def kq (a b : IntKind) : Bool := Nat.beq (kidx a) (kidx b)
theorem kq_eq {a b : IntKind} (h : kq a b = true) : a = b := by cases a <;> cases b <;> first | rfl | (revert h; decide)

/-! ### Flat values, told equal -/
noncomputable def syq (a b : Sy) : Bool := cond (Nat.beq a.name b.name) (cond (Nat.beq a.lo b.lo) (cond (Nat.beq a.hi b.hi) (cond (Nat.beq a.m b.m) (cond (Nat.beq a.r b.r) (cond (Nat.beq a.c b.c) (cond (Nat.beq a.k b.k) (cond (Nat.beq a.dv b.dv) (Nat.beq a.md b.md) false) false) false) false) false) false) false) false
theorem cs2 {c : Bool} {x : Bool} (h : cond c x false = true) : c = true ∧ x = true := by cases c <;> simp_all
theorem syq_eq {a b : Sy} (h : syq a b = true) : a = b := by
  unfold syq at h
  obtain ⟨h1, h⟩ := cs2 h
  obtain ⟨h2, h⟩ := cs2 h
  obtain ⟨h3, h⟩ := cs2 h
  obtain ⟨h4, h⟩ := cs2 h
  obtain ⟨h5, h⟩ := cs2 h
  obtain ⟨h6, h⟩ := cs2 h
  obtain ⟨h7, h⟩ := cs2 h
  obtain ⟨h8, h⟩ := cs2 h
  cases a; cases b
  simp only [Sy.mk.injEq]
  exact ⟨Nat.eq_of_beq_eq_true h1, Nat.eq_of_beq_eq_true h2, Nat.eq_of_beq_eq_true h3, Nat.eq_of_beq_eq_true h4, Nat.eq_of_beq_eq_true h5, Nat.eq_of_beq_eq_true h6, Nat.eq_of_beq_eq_true h7, Nat.eq_of_beq_eq_true h8, Nat.eq_of_beq_eq_true h⟩
noncomputable def eq1A (k : CK) (x y : AV) : Option Bool :=
  match k with
  | .b => (match x with
    | .bool a => (match y with | .bool b => some (cond a b (!b)) | _ => none)
    | _ => none)
  | .i k => (match x with
    | .int k1 a => (match y with | .int k2 b => cond (kq k1 k) (cond (kq k2 k) (some (ieq a b)) none) none | _ => none)
    | .symi k1 i => (match y with | .symi k2 j => cond (kq k1 k) (cond (kq k2 k) (cond (syq i j) (some true) none) none) none | _ => none)
    | _ => none)
  | .s => (match x with
    | .str a => (match y with | .str b => cond (lall small8 a) (cond (lall small8 b) (some (leqN a b)) none) none | _ => none)
    | _ => none)
noncomputable def eqsA (ks : List CK) : List AV → List AV → Option Bool := List.rec (motive := fun _ => List AV → List AV → Option Bool)
  (fun xs ys => List.rec (motive := fun _ => Option Bool) (List.rec (motive := fun _ => Option Bool) (some true) (fun _ _ _ => none) ys) (fun _ _ _ => none) xs)
  (fun k _ ih xs ys => List.rec (motive := fun _ => Option Bool) none (fun x xs' _ => List.rec (motive := fun _ => Option Bool) none (fun y ys' _ =>
    match eq1A k x y with
    | some a => (match ih xs' ys' with | some b => some (cond a b false) | none => none)
    | none => none) ys) xs) ks

theorem small_inj' : ∀ {a b : List Nat}, (∀ x ∈ a, small8 x = true) → (∀ x ∈ b, small8 x = true) → a.map UInt8.ofNat = b.map UInt8.ofNat → a = b
  | [], [], _, _, _ => rfl
  | [], _ :: _, _, _, h => by simp at h
  | _ :: _, [], _, _, h => by simp at h
  | x :: a, y :: b, ha, hb, h => by
    simp only [List.map_cons, List.cons.injEq] at h
    have hx := blt_iff (ha x (by simp))
    have hy := blt_iff (hb y (by simp))
    have e : x = y := by
      have := congrArg UInt8.toNat h.1
      simp at this; omega
    rw [e, small_inj' (fun z hz => ha z (by simp [hz])) (fun z hz => hb z (by simp [hz])) h.2]
theorem small_inj {a b : List Nat} (ha : lall small8 a = true) (hb : lall small8 b = true) (h : a.map UInt8.ofNat = b.map UInt8.ofNat) : a = b :=
  small_inj' (lall_eq _ _ ha) (lall_eq _ _ hb) h
theorem strOf_data (a : List Nat) : (strOf a).data.toList = a.map UInt8.ofNat := by simp [strOf]
theorem str_eq {a b : List Nat} (ha : lall small8 a = true) (hb : lall small8 b = true) : ((strOf a).data.toList == (strOf b).data.toList) = leqN a b := by
  rw [leqN_eq, strOf_data, strOf_data, Bool.eq_iff_iff, beq_iff_eq, decide_eq_true_eq]
  exact ⟨small_inj ha hb, fun h => by rw [h]⟩

theorem eq1A_sound {E : Env} {k : CK} {x y : AV} {x' y' : Value} {r : Bool} (h : eq1A k x y = some r) (hx : conc E x = some x') (hy : conc E y = some y') :
    fit1 k x' ∧ fit1 k y' ∧ eq1 x' y' = r := by
  unfold eq1A at h
  split at h
  · split at h
    · split at h
      · simp only [conc, Option.some.injEq] at hx hy h
        subst hx; subst hy; subst h
        rename_i a _ b
        refine ⟨trivial, trivial, ?_⟩
        cases a <;> cases b <;> rfl
      · cases h
    · cases h
  · split at h
    · split at h
      · obtain ⟨h1, h3⟩ := cond_some h
        obtain ⟨h2, h4⟩ := cond_some h3
        clear h h3
        have e1 := kq_eq h1; have e2 := kq_eq h2
        subst e1; subst e2
        simp only [conc, Option.some.injEq] at hx hy h4
        subst hx; subst hy; subst h4
        refine ⟨rfl, rfl, ?_⟩
        rw [ieq_eq]; rfl
      · cases h
    · split at h
      · obtain ⟨h1, h4⟩ := cond_some h
        obtain ⟨h2, h5⟩ := cond_some h4
        obtain ⟨h3, h6⟩ := cond_some h5
        clear h h4 h5
        have e1 := kq_eq h1; have e2 := kq_eq h2
        have e3 := syq_eq h3
        subst e1; subst e2; subst e3
        simp only [conc] at hx hy
        split at hx
        case isFalse => cases hx
        simp only [Option.some.injEq] at hx
        rename_i hok
        rw [if_pos hok] at hy
        cases h6
        simp only [Option.some.injEq] at hy
        subst hx; subst hy
        exact ⟨rfl, rfl, by simp [eq1]⟩
      · cases h
    · cases h
  · split at h
    · split at h
      · obtain ⟨h1, h3⟩ := cond_some h
        obtain ⟨h2, h4⟩ := cond_some h3
        simp only [conc, Option.some.injEq] at hx hy h4
        subst hx; subst hy; subst h4
        exact ⟨trivial, trivial, str_eq h1 h2⟩
      · cases h
    · cases h

theorem concs_cons {E : Env} {v : AV} {vs : List AV} {xs : List Value} (h : concs E (v :: vs) = some xs) : ∃ x xs', conc E v = some x ∧ concs E vs = some xs' ∧ xs = x :: xs' := by
  simp only [concs, Option.bind_eq_some_iff, Option.map_eq_some_iff] at h
  obtain ⟨v', hv, vs', hvs, rfl⟩ := h
  exact ⟨v', vs', hv, hvs, rfl⟩
theorem concs_nil {E : Env} {xs : List Value} (h : concs E [] = some xs) : xs = [] := by simpa [concs] using h.symm

theorem eqsA_sound {E : Env} : ∀ {ks : List CK} {xs ys : List AV} {xs' ys' : List Value} {r : Bool}, eqsA ks xs ys = some r → concs E xs = some xs' → concs E ys = some ys' →
    fits ks xs' ∧ fits ks ys' ∧ eqs xs' ys' = r
  | [], xs, ys, xs', ys', r, h, hx, hy => by
    cases xs with
    | cons _ _ => cases h
    | nil => cases ys with
      | cons _ _ => cases h
      | nil =>
        cases h
        rw [concs_nil hx, concs_nil hy]
        exact ⟨trivial, trivial, rfl⟩
  | k :: ks, [], _, _, _, _, h, _, _ => by cases h
  | k :: ks, _ :: _, [], _, _, _, h, _, _ => by cases h
  | k :: ks, x :: xs, y :: ys, xs', ys', r, h, hx, hy => by
    obtain ⟨x', xs'', hx1, hx2, rfl⟩ := concs_cons hx
    obtain ⟨y', ys'', hy1, hy2, rfl⟩ := concs_cons hy
    have h' : (match eq1A k x y with
      | some a => (match eqsA ks xs ys with | some b => some (cond a b false) | none => none)
      | none => none) = some r := h
    split at h'
    case h_2 => cases h'
    rename_i a ha
    split at h'
    case h_2 => cases h'
    rename_i b hb
    cases h'
    obtain ⟨f1, f2, f3⟩ := eq1A_sound ha hx1 hy1
    obtain ⟨g1, g2, g3⟩ := eqsA_sound hb hx2 hy2
    refine ⟨⟨f1, g1⟩, ⟨f2, g2⟩, ?_⟩
    simp only [eqs, f3, g3]
    cases a <;> rfl

/-- '==' at a flat type of several cells. -/
noncomputable def flat (P : Program) (t : TypeId) : Option (List CK) :=
  match layout P t with
  | some (true, n) => (match flatT P 12 t with | some ks => cond (Nat.beq n (llen ks)) (some ks) none | none => none)
  | _ => none
theorem flat_equal {P : Program} {W : World} {t : TypeId} {ks : List CK} (h : flat P t = some ks) {xs ys : List Value} (hx : fits ks xs) (hy : fits ks ys) :
    (Op.equal t (.agg xs.toArray) (.agg ys.toArray)).run P W = .ok (eqs xs ys) W := by
  unfold flat at h
  split at h
  case h_2 => cases h
  rename_i n hl
  split at h
  case h_2 => cases h
  rename_i ks' hk
  obtain ⟨h1, h⟩ := cond_some h
  cases h
  have hn := Nat.eq_of_beq_eq_true h1
  rw [llen_eq] at hn
  have := eq_flat (P := P) (W := W) 9988 12 t ks true n hk hl hn (by simp) xs ys hx hy
  simpa [mkV, Op.equal, Op.maxDepth] using this

/-! ### Operations on numbers -/
noncomputable def binI (op : BinOp) (k : IntKind) (a b : Int) : Option AV :=
  match op with
  | .add => some (.int k (wrapA k (Int.add a b)))
  | .sub => some (.int k (wrapA k (Int.sub a b)))
  | .mul => some (.int k (wrapA k (Int.mul a b)))
  | .quo => (match a with
    | .ofNat m => (match b with | .ofNat n => cond (Nat.beq n 0) none (some (.int k (wrapA k (.ofNat (Nat.div m n))))) | _ => none)
    | _ => none)
  | .rem => (match a with
    | .ofNat m => (match b with | .ofNat n => cond (Nat.beq n 0) none (some (.int k (.ofNat (Nat.mod m n)))) | _ => none)
    | _ => none)
  | .and => (match modOf k with
    | some M => (match a with | .ofNat m => (match b with | .ofNat n => some (.int k (.ofNat (Nat.land (Nat.mod m M) (Nat.mod n M)))) | _ => none) | _ => none)
    | none => none)
  | .or => (match modOf k with
    | some M => (match a with | .ofNat m => (match b with | .ofNat n => some (.int k (.ofNat (Nat.lor (Nat.mod m M) (Nat.mod n M)))) | _ => none) | _ => none)
    | none => none)
  | .xor => (match modOf k with
    | some M => (match a with | .ofNat m => (match b with | .ofNat n => some (.int k (.ofNat (Nat.xor (Nat.mod m M) (Nat.mod n M)))) | _ => none) | _ => none)
    | none => none)
  | .eql => some (.bool (ieq a b))
  | .neq => some (.bool (!ieq a b))
  | .lss => some (.bool (ilt a b))
  | .geq => some (.bool (!ilt a b))
  | .gtr => some (.bool (ilt b a))
  | .leq => some (.bool (!ilt b a))
  | _ => none

theorem modOf_bits {k : IntKind} {M : Nat} (h : modOf k = some M) : M = 2 ^ k.bits ∧ k.signed = false := by
  cases k <;> simp [modOf] at h <;> subst h <;> exact ⟨by decide, rfl⟩
theorem wrap_small {k : IntKind} {M r : Nat} (h : modOf k = some M) (hr : r < M) : k.wrap (r : Int) = r := by
  cases k <;> simp [modOf] at h <;> subst h <;> simp only [IntKind.wrap, IntKind.bits, IntKind.signed, Bool.false_and, Bool.false_eq_true, if_false] <;> omega

theorem bits_back {k : IntKind} {M m n : Nat} (h : modOf k = some M) :
    (BitVec.ofInt k.bits (m : Int)).toNat = m % M ∧ (BitVec.ofInt k.bits (n : Int)).toNat = n % M := by
  obtain ⟨e, _⟩ := modOf_bits h
  rw [e]
  have : ∀ q : Nat, BitVec.ofInt k.bits (q : Int) = BitVec.ofNat k.bits q := fun q => by simp
  rw [this, this]; simp

theorem binI_sound {P : Program} {W : World} {op : BinOp} {k : IntKind} {a b : Int} {v : AV} {t : TypeId} (h : binI op k a b = some v) :
    ∃ v', (∀ E, conc E v = some v') ∧ (binOp op t (.int k a) (.int k b)).run P W = .ok v' W := by
  cases op <;> simp only [binI] at h
  case add => cases h; exact ⟨_, fun _ => rfl, by rw [binOp_add, wrapA_eq]; rfl⟩
  case sub => cases h; exact ⟨_, fun _ => rfl, by rw [binOp_sub, wrapA_eq]; rfl⟩
  case mul => cases h; exact ⟨_, fun _ => rfl, by rw [binOp_mul, wrapA_eq]; rfl⟩
  case quo =>
    split at h
    case h_2 => cases h
    split at h
    case h_2 => cases h
    rename_i m n
    cases hz : Nat.beq n 0
    · rw [hz] at h; cases h
      have hn : n ≠ 0 := Nat.ne_of_beq_eq_false hz
      refine ⟨_, fun _ => rfl, ?_⟩
      rw [binOp_quo, wrapA_eq]
      simp only [Op.intDiv, Int.ofNat_eq_natCast]
      rw [if_neg (by omega)]
      rfl
    · rw [hz] at h; cases h
  case rem =>
    split at h
    case h_2 => cases h
    split at h
    case h_2 => cases h
    rename_i m n
    cases hz : Nat.beq n 0
    · rw [hz] at h; cases h
      have hn : n ≠ 0 := Nat.ne_of_beq_eq_false hz
      refine ⟨_, fun _ => rfl, ?_⟩
      rw [binOp_rem]
      simp only [Op.intDiv, Int.ofNat_eq_natCast]
      rw [if_neg (by omega)]
      rfl
    · rw [hz] at h; cases h
  case and =>
    split at h
    case h_2 => cases h
    rename_i M hM
    split at h
    case h_2 => cases h
    split at h
    case h_2 => cases h
    cases h
    rename_i _ m _ n
    obtain ⟨e1, e2⟩ := bits_back (m := m) (n := n) hM
    refine ⟨_, fun _ => rfl, ?_⟩
    rw [binOp_and]
    simp only [Op.intBits, Int.ofNat_eq_natCast, BitVec.toNat_and, e1, e2, Sem.run_pure]
    have hp : 0 < M := by rw [(modOf_bits hM).1]; exact Nat.two_pow_pos _
    have : m % M &&& n % M < M := Nat.lt_of_le_of_lt Nat.and_le_left (Nat.mod_lt _ hp)
    rw [wrap_small hM this]; rfl
  case or =>
    split at h
    case h_2 => cases h
    rename_i M hM
    split at h
    case h_2 => cases h
    split at h
    case h_2 => cases h
    cases h
    rename_i _ m _ n
    obtain ⟨e1, e2⟩ := bits_back (m := m) (n := n) hM
    refine ⟨_, fun _ => rfl, ?_⟩
    rw [binOp_or]
    simp only [Op.intBits, Int.ofNat_eq_natCast, BitVec.toNat_or, e1, e2, Sem.run_pure]
    have hp : 0 < M := by rw [(modOf_bits hM).1]; exact Nat.two_pow_pos _
    have : m % M ||| n % M < M := by
      have e := (modOf_bits hM).1
      rw [e] at hp ⊢
      exact Nat.or_lt_two_pow (Nat.mod_lt _ hp) (Nat.mod_lt _ hp)
    rw [wrap_small hM this]; rfl
  case xor =>
    split at h
    case h_2 => cases h
    rename_i M hM
    split at h
    case h_2 => cases h
    split at h
    case h_2 => cases h
    cases h
    rename_i _ m _ n
    obtain ⟨e1, e2⟩ := bits_back (m := m) (n := n) hM
    refine ⟨_, fun _ => rfl, ?_⟩
    rw [binOp_xor]
    simp only [Op.intBits, Int.ofNat_eq_natCast, BitVec.toNat_xor, e1, e2, Sem.run_pure]
    have hp : 0 < M := by rw [(modOf_bits hM).1]; exact Nat.two_pow_pos _
    have : m % M ^^^ n % M < M := by
      have e := (modOf_bits hM).1
      rw [e] at hp ⊢
      exact Nat.xor_lt_two_pow (Nat.mod_lt _ hp) (Nat.mod_lt _ hp)
    rw [wrap_small hM this]; rfl
  case eql => cases h; exact ⟨_, fun _ => rfl, by rw [binOp_eql, ieq_eq]; simp; rfl⟩
  case neq => cases h; exact ⟨_, fun _ => rfl, by rw [binOp_neq, ieq_eq]; simp; rfl⟩
  case lss => cases h; exact ⟨_, fun _ => rfl, by rw [binOp_lss, ilt_eq]; rfl⟩
  case geq => cases h; exact ⟨_, fun _ => rfl, by rw [binOp_geq, ilt_eq]; simp only [Sem.run_pure]; congr 2; rw [Bool.eq_iff_iff]; simp⟩
  case gtr => cases h; exact ⟨_, fun _ => rfl, by rw [binOp_gtr, ilt_eq]; rfl⟩
  case leq => cases h; exact ⟨_, fun _ => rfl, by rw [binOp_leq, ilt_eq]; simp only [Sem.run_pure]; congr 2; rw [Bool.eq_iff_iff]; simp⟩
  all_goals cases h

noncomputable def bitsOf (k : IntKind) : Nat := match k with
  | .i8 | .u8 => 8
  | .i16 | .u16 => 16
  | .i32 | .u32 => 32
  | .i64 | .u64 => 64
noncomputable def nmin (a b : Nat) : Nat := cond (Nat.ble a b) a b
theorem nmin_eq (a b : Nat) : nmin a b = min a b := by
  unfold nmin
  cases h : Nat.ble a b
  · have : ¬ a ≤ b := fun hl => by rw [Nat.ble_eq_true_of_le hl] at h; cases h
    simp; omega
  · have := Nat.le_of_ble_eq_true h
    simp; omega
noncomputable def shlA (k : IntKind) (a : Int) (b : Int) : Option AV :=
  match b with
  | .ofNat n => some (.int k (wrapA k (Int.mul a (.ofNat (Nat.pow 2 (nmin n (bitsOf k)))))))
  | _ => none
noncomputable def shrA (k : IntKind) (a : Int) (b : Int) : Option AV :=
  match b with
  | .ofNat n => (match a with
    | .ofNat m => some (.int k (.ofNat (Nat.div m (Nat.pow 2 (nmin n (bitsOf k))))))
    | .negSucc _ => none)
  | _ => none
theorem bitsOf_eq (k : IntKind) : bitsOf k = k.bits := by cases k <;> rfl
theorem shlA_sound {P : Program} {W : World} {k k' : IntKind} {a b : Int} {v : AV} {t : TypeId} (h : shlA k a b = some v) :
    ∃ v', (∀ E, conc E v = some v') ∧ (binOp .shl t (.int k a) (.int k' b)).run P W = .ok v' W := by
  unfold shlA at h
  split at h
  case h_2 => cases h
  rename_i n
  cases h
  refine ⟨_, fun _ => rfl, ?_⟩
  rw [binOp_shl, wrapA_eq, nmin_eq, bitsOf_eq]
  simp only [Op.shift, Int.ofNat_eq_natCast]
  rw [if_neg (by omega)]
  simp only [Int.toNat_natCast, Sem.run_pure]
  congr 3
theorem shrA_sound {P : Program} {W : World} {k k' : IntKind} {a b : Int} {v : AV} {t : TypeId} (h : shrA k a b = some v) :
    ∃ v', (∀ E, conc E v = some v') ∧ (binOp .shr t (.int k a) (.int k' b)).run P W = .ok v' W := by
  unfold shrA at h
  split at h
  case h_2 => cases h
  rename_i n
  split at h
  case h_2 => cases h
  cases h
  rename_i m
  refine ⟨_, fun _ => rfl, ?_⟩
  rw [binOp_shr, nmin_eq, bitsOf_eq]
  simp only [Op.shift, Int.ofNat_eq_natCast]
  rw [if_neg (by omega)]
  simp only [Int.toNat_natCast, Sem.run_pure]
  congr 2
  have e : ((2 : Int) ^ min n k.bits) = ((2 ^ min n k.bits : Nat) : Int) := by simp
  rw [e, Int.fdiv_eq_ediv_of_nonneg _ (Int.natCast_nonneg _)]
  rfl
