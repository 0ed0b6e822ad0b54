/-
  THE ENGINE, 5: operations that leave memory as it is, all of them.
-/
import Derived.Test.YtmnjpaholemebaaGreatDoorE4
namespace Go.PE
open Go

noncomputable def negB (o : Option Bool) (neq : Bool) : Option AV :=
  match o with
  | some b => some (.bool (cond neq (!b) b))
  | none => none

/-- '==' of values that are neither numbers nor strings. -/
noncomputable def eqX (P : Program) (t : TypeId) (x y : AV) : Option Bool :=
  match x with
  | .bool a => (match y with
    | .bool b => (match und P t with | some .bool => some (cond a b (!b)) | _ => none)
    | _ => none)
  | .nilptr => (match und P t with
    | some (.pointer _) => (match y with | .nilptr => some true | .ptr _ _ => some false | _ => none)
    | _ => none)
  | .ptr _ _ => (match und P t with
    | some (.pointer _) => (match y with | .nilptr => some false | _ => none)
    | _ => none)
  | .nilslice => (match und P t with
    | some (.slice _) => (match y with | .nilslice => some true | .slice _ _ _ _ => some false | _ => none)
    | _ => none)
  | .slice _ _ _ _ => (match und P t with
    | some (.slice _) => (match y with | .nilslice => some false | _ => none)
    | _ => none)
  | .nilmap => (match und P t with
    | some (.map _ _) => (match y with | .nilmap => some true | .map _ => some false | _ => none)
    | _ => none)
  | .map _ => (match und P t with
    | some (.map _ _) => (match y with | .nilmap => some false | _ => none)
    | _ => none)
  | .agg xs => (match y with
    | .agg ys => cond (P.eqGuardType P.depth t) none (match flat P t with | some ks => eqsA ks xs ys | none => none)
    | _ => none)
  | _ => none

noncomputable def binS (op : BinOp) (a b : List Nat) : Option AV :=
  match op with
  | .add => cond (Nat.ble (Nat.add (llen a) (llen b)) 1000000) (some (.str (lapp a b))) none
  | .eql => cond (lall small8 a) (cond (lall small8 b) (some (.bool (leqN a b))) none) none
  | .neq => cond (lall small8 a) (cond (lall small8 b) (some (.bool (!leqN a b))) none) none
  | .lss => cond (lall small8 a) (cond (lall small8 b) (some (.bool (lltN a b))) none) none
  | _ => none

/-! ### Numbers that are not known -/
noncomputable def Sy.bot (s : Sy) : Nat := Nat.add (Nat.mul s.k s.lo) s.c
noncomputable def Sy.top (s : Sy) : Nat := Nat.add (Nat.mul s.k s.hi) s.c
theorem blt_false {a b : Nat} (h : Nat.blt a b = false) : b ≤ a := by
  rcases Nat.lt_or_ge a b with h' | h'
  · have : Nat.blt a b = true := Nat.ble_eq_true_of_le h'
    rw [this] at h; cases h
  · exact h'
theorem cond_opt {c : Bool} {α : Type} {x y : Option α} {z : α} (h : cond c x y = some z) : (c = true ∧ x = some z) ∨ (c = false ∧ y = some z) := by cases c <;> simp_all
theorem Sy.nat {s : Sy} {sy : Nat → Int} (h : s.ok sy) : ∃ q : Nat, s.t sy = q ∧ s.lo ≤ q ∧ q ≤ s.hi ∧ s.val sy = ((s.k * q + s.c : Nat) : Int) ∧ s.bot ≤ s.k * q + s.c ∧ s.k * q + s.c ≤ s.top := by
  obtain ⟨h1, h2, _⟩ := h
  refine ⟨(s.t sy).toNat, by omega, by omega, by omega, ?_, ?_, ?_⟩
  · unfold Sy.val
    have : s.t sy = ((s.t sy).toNat : Int) := by omega
    rw [this]; simp
  · have : s.k * s.lo ≤ s.k * (s.t sy).toNat := Nat.mul_le_mul_left _ (by omega)
    show s.k * s.lo + s.c ≤ _
    omega
  · have : s.k * (s.t sy).toNat ≤ s.k * s.hi := Nat.mul_le_mul_left _ (by omega)
    show _ ≤ s.k * s.hi + s.c
    omega
noncomputable def ltSL (s : Sy) (b : Int) : Option Bool := match b with
  | .ofNat n => cond (Nat.blt s.top n) (some true) (cond (Nat.ble n s.bot) (some false) none)
  | .negSucc _ => some false
noncomputable def ltLS (a : Int) (s : Sy) : Option Bool := match a with
  | .ofNat n => cond (Nat.blt n s.bot) (some true) (cond (Nat.ble s.top n) (some false) none)
  | .negSucc _ => some true
noncomputable def eqSL (s : Sy) (b : Int) : Option Bool := match b with
  | .ofNat n => cond (Nat.blt s.top n) (some false) (cond (Nat.blt n s.bot) (some false) (cond (Nat.beq s.bot s.top) (some true) none))
  | .negSucc _ => some false
noncomputable def obool (o : Option Bool) (neg : Bool) : Option AV := match o with
  | some b => some (.bool (cond neg (!b) b))
  | none => none
def topOf (k : IntKind) : Nat := match k with
  | .i8 => 127 | .u8 => 255 | .i16 => 32767 | .u16 => 65535 | .i32 => 2147483647 | .u32 => 4294967295 | .i64 => 9223372036854775807 | .u64 => 18446744073709551615
/-- t itself. -/
noncomputable def Sy.bare (s : Sy) : Bool := cond (Nat.beq s.k 1) (cond (Nat.beq s.c 0) (Nat.beq s.md 0) false) false
noncomputable def remS (k : IntKind) (s : Sy) (n : Nat) : Option AV := cond (cond (Nat.beq n 0) false (Nat.beq (Nat.mod s.k n) 0)) (some (.int k (.ofNat (Nat.mod s.c n)))) (cond (Nat.ble n 4) (cond (Nat.beq s.k 1) (cond (Nat.beq s.c 0) (cond (Nat.beq s.m n) (cond (Nat.beq n 0) none (some (.int k (.ofNat s.r)))) none) none) none)
  (cond (Nat.blt s.top n) (some (.symi k s))
    (cond (cond (Nat.beq s.k 1) (cond (Nat.beq s.c 0) (Nat.beq s.m n) false) false) (some (.int k (.ofNat s.r)))
      (cond s.bare (some (.symi k ⟨s.name, 0, Nat.sub n 1, 0, 0, 0, 1, s.dv, n⟩)) none))))
noncomputable def unsK (k : IntKind) : Bool := match modOf k with | some _ => true | none => false
noncomputable def andS (k : IntKind) (s : Sy) (n : Nat) : Option AV := cond (Nat.beq n 1) (cond s.bare (cond (Nat.ble s.top (topOf k)) (cond (unsK k) (some (.symi k ⟨s.name, 0, 1, 0, 0, 0, 1, s.dv, 2⟩)) none) none) none) none
noncomputable def shrS (k : IntKind) (s : Sy) (b : Int) : Option AV := match b with
  | .ofNat n => cond s.bare (cond (Nat.ble n 7) (some (.symi k ⟨s.name, Nat.div s.lo (Nat.pow 2 n), Nat.div s.hi (Nat.pow 2 n), 0, 0, 0, 1, Nat.mul s.dv (Nat.pow 2 n), 0⟩)) none) none
  | .negSucc _ => none
noncomputable def binSL (op : BinOp) (k : IntKind) (s : Sy) (b : Int) : Option AV := match op with
  | .eql => obool (eqSL s b) false
  | .neq => obool (eqSL s b) true
  | .lss => obool (ltSL s b) false
  | .geq => obool (ltSL s b) true
  | .gtr => obool (ltLS b s) false
  | .leq => obool (ltLS b s) true
  | .rem => (match b with
    | .ofNat n => remS k s n
    | .negSucc _ => none)
  | .and => (match b with
    | .ofNat n => andS k s n
    | .negSucc _ => none)
  | .add => (match b with
    | .ofNat n => cond (Nat.ble (Nat.add s.top n) (topOf k)) (some (.symi k ⟨s.name, s.lo, s.hi, s.m, s.r, Nat.add s.c n, s.k, s.dv, s.md⟩)) none
    | .negSucc _ => none)
  | .mul => (match b with
    | .ofNat n => cond (Nat.ble (Nat.mul s.top n) (topOf k)) (some (.symi k ⟨s.name, s.lo, s.hi, s.m, s.r, Nat.mul s.c n, Nat.mul s.k n, s.dv, s.md⟩)) none
    | .negSucc _ => none)
  | _ => none
noncomputable def binLS (op : BinOp) (a : Int) (s : Sy) : Option AV := match op with
  | .eql => obool (eqSL s a) false
  | .neq => obool (eqSL s a) true
  | .lss => obool (ltLS a s) false
  | .geq => obool (ltLS a s) true
  | .gtr => obool (ltSL s a) false
  | .leq => obool (ltSL s a) true
  | _ => none
noncomputable def sameT (s t : Sy) : Bool := cond (Nat.beq s.name t.name) (cond (Nat.beq s.dv t.dv) (cond (Nat.beq s.md t.md) (Nat.beq s.k t.k) false) false) false
noncomputable def ltSS (s t : Sy) : Option Bool := cond (sameT s t) (some (Nat.blt s.c t.c))
  (cond (Nat.blt s.top t.bot) (some true) (cond (Nat.ble t.top s.bot) (some false) none))
noncomputable def eqSS (s t : Sy) : Option Bool := cond (sameT s t) (some (Nat.beq s.c t.c))
  (cond (Nat.blt s.top t.bot) (some false) (cond (Nat.blt t.top s.bot) (some false) none))
noncomputable def binSS (op : BinOp) (s t : Sy) : Option AV := match op with
  | .eql => obool (eqSS s t) false
  | .neq => obool (eqSS s t) true
  | .lss => obool (ltSS s t) false
  | .geq => obool (ltSS s t) true
  | .gtr => obool (ltSS t s) false
  | .leq => obool (ltSS t s) true
  | _ => none

theorem sameT_val {s t : Sy} {sy : Nat → Int} (h : sameT s t = true) : s.val sy - s.c = t.val sy - t.c := by
  unfold sameT at h
  obtain ⟨h1, h⟩ := cs2 h
  obtain ⟨h2, h⟩ := cs2 h
  obtain ⟨h3, h4⟩ := cs2 h
  have h1 := Nat.eq_of_beq_eq_true h1
  have h2 := Nat.eq_of_beq_eq_true h2
  have h3 := Nat.eq_of_beq_eq_true h3
  have h4 := Nat.eq_of_beq_eq_true h4
  unfold Sy.val Sy.t
  rw [h1, h2, h3, h4]
  omega
section
variable {s : Sy} {sy : Nat → Int} (hs : s.ok sy)
include hs
theorem ltSL_sound {b : Int} {r : Bool} (h : ltSL s b = some r) : decide (s.val sy < b) = r := by
  obtain ⟨q, _, _, _, e, h1, h2⟩ := Sy.nat hs
  rw [e]
  unfold ltSL at h
  split at h
  · rename_i n
    rcases cond_opt h with ⟨k1, k2⟩ | ⟨k1, k2⟩
    · cases k2
      have := blt_iff k1
      rw [decide_eq_true_eq, Int.ofNat_eq_natCast]; omega
    · rcases cond_opt k2 with ⟨k3, k4⟩ | ⟨k3, k4⟩
      · cases k4
        have := Nat.le_of_ble_eq_true k3
        rw [decide_eq_false_iff_not, Int.ofNat_eq_natCast]; omega
      · cases k4
  · rename_i n
    cases h
    rw [decide_eq_false_iff_not, Int.negSucc_eq]; omega
theorem ltLS_sound {b : Int} {r : Bool} (h : ltLS b s = some r) : decide (b < s.val sy) = r := by
  obtain ⟨q, _, _, _, e, h1, h2⟩ := Sy.nat hs
  rw [e]
  unfold ltLS at h
  split at h
  · rename_i n
    rcases cond_opt h with ⟨k1, k2⟩ | ⟨k1, k2⟩
    · cases k2
      have := blt_iff k1
      rw [decide_eq_true_eq, Int.ofNat_eq_natCast]; omega
    · rcases cond_opt k2 with ⟨k3, k4⟩ | ⟨k3, k4⟩
      · cases k4
        have := Nat.le_of_ble_eq_true k3
        rw [decide_eq_false_iff_not, Int.ofNat_eq_natCast]; omega
      · cases k4
  · rename_i n
    cases h
    rw [decide_eq_true_eq, Int.negSucc_eq]; omega
theorem eqSL_sound {b : Int} {r : Bool} (h : eqSL s b = some r) : decide (s.val sy = b) = r := by
  obtain ⟨q, _, _, _, e, h1, h2⟩ := Sy.nat hs
  rw [e]
  unfold eqSL at h
  split at h
  · rename_i n
    rcases cond_opt h with ⟨k1, k2⟩ | ⟨k1, k2⟩
    · cases k2
      have := blt_iff k1
      rw [decide_eq_false_iff_not, Int.ofNat_eq_natCast]; omega
    · have k1 := blt_false k1
      rcases cond_opt k2 with ⟨k3, k4⟩ | ⟨k3, k4⟩
      · cases k4
        have := blt_iff k3
        rw [decide_eq_false_iff_not, Int.ofNat_eq_natCast]; omega
      · have k3 := blt_false k3
        rcases cond_opt k4 with ⟨k5, k6⟩ | ⟨k5, k6⟩
        · cases k6
          have := Nat.eq_of_beq_eq_true k5
          rw [decide_eq_true_eq, Int.ofNat_eq_natCast]; omega
        · cases k6
  · rename_i n
    cases h
    rw [decide_eq_false_iff_not, Int.negSucc_eq]; omega
variable {t : Sy} (ht : t.ok sy)
include ht
theorem ltSS_sound {r : Bool} (h : ltSS s t = some r) : decide (s.val sy < t.val sy) = r := by
  unfold ltSS at h
  rcases cond_opt h with ⟨k1, k2⟩ | ⟨k1, k2⟩
  · have := sameT_val (sy := sy) k1
    cases k2
    cases hb : Nat.blt s.c t.c with
    | true => have := blt_iff hb; rw [decide_eq_true_eq]; omega
    | false => have := blt_false hb; rw [decide_eq_false_iff_not]; omega
  · obtain ⟨q, _, _, _, e, h1, h2⟩ := Sy.nat hs
    obtain ⟨q', _, _, _, e', h1', h2'⟩ := Sy.nat ht
    rw [e, e']
    rcases cond_opt k2 with ⟨k3, k4⟩ | ⟨k3, k4⟩
    · cases k4
      have := blt_iff k3
      rw [decide_eq_true_eq]; omega
    · rcases cond_opt k4 with ⟨k5, k6⟩ | ⟨k5, k6⟩
      · cases k6
        have := Nat.le_of_ble_eq_true k5
        rw [decide_eq_false_iff_not]; omega
      · cases k6
theorem eqSS_sound {r : Bool} (h : eqSS s t = some r) : decide (s.val sy = t.val sy) = r := by
  unfold eqSS at h
  rcases cond_opt h with ⟨k1, k2⟩ | ⟨k1, k2⟩
  · have := sameT_val (sy := sy) k1
    cases k2
    cases hb : Nat.beq s.c t.c with
    | true => have := Nat.eq_of_beq_eq_true hb; rw [decide_eq_true_eq]; omega
    | false => have := Nat.ne_of_beq_eq_false hb; rw [decide_eq_false_iff_not]; omega
  · obtain ⟨q, _, _, _, e, h1, h2⟩ := Sy.nat hs
    obtain ⟨q', _, _, _, e', h1', h2'⟩ := Sy.nat ht
    rw [e, e']
    rcases cond_opt k2 with ⟨k3, k4⟩ | ⟨k3, k4⟩
    · cases k4
      have := blt_iff k3
      rw [decide_eq_false_iff_not]; omega
    · rcases cond_opt k4 with ⟨k5, k6⟩ | ⟨k5, k6⟩
      · cases k6
        have := blt_iff k5
        rw [decide_eq_false_iff_not]; omega
      · cases k6
end
theorem obool_some {o : Option Bool} {neg : Bool} {v : AV} (h : obool o neg = some v) : ∃ b, o = some b ∧ v = .bool (cond neg (!b) b) := by
  cases o with
  | none => cases h
  | some b => cases h; exact ⟨b, rfl, rfl⟩
theorem top_wrap {k : IntKind} {n : Int} (h0 : 0 ≤ n) (h : n ≤ topOf k) : k.wrap n = n := by
  cases k <;> simp only [topOf] at h <;> simp only [IntKind.wrap, IntKind.bits, IntKind.signed] <;> simp <;> omega
theorem conc_symi {E : Env} {k : IntKind} {s : Sy} {x' : Value} (h : conc E (.symi k s) = some x') : s.ok E.sy ∧ x' = .int k (s.val E.sy) := by
  simp only [conc] at h
  split at h
  · rename_i hs; cases h; exact ⟨hs, rfl⟩
  · cases h
theorem conc_symi_mk {E : Env} {k : IntKind} {s : Sy} (h : s.ok E.sy) {x : Int} (hx : s.val E.sy = x) : conc E (.symi k s) = some (.int k x) := by
  simp only [conc]; rw [if_pos h, hx]
theorem bare_spec {s : Sy} (h : s.bare = true) (sy : Nat → Int) : s.val sy = s.t sy ∧ s.t sy = sy s.name / s.dv ∧ s.top = s.hi ∧ s.bot = s.lo := by
  unfold Sy.bare at h
  obtain ⟨h1, h⟩ := cs2 h
  obtain ⟨h2, h3⟩ := cs2 h
  have h1 := Nat.eq_of_beq_eq_true h1
  have h2 := Nat.eq_of_beq_eq_true h2
  have h3 := Nat.eq_of_beq_eq_true h3
  refine ⟨?_, ?_, ?_, ?_⟩
  · unfold Sy.val; rw [h1, h2]; simp
  · unfold Sy.t; rw [if_pos h3]
  · show s.k * s.hi + s.c = _; rw [h1, h2]; simp
  · show s.k * s.lo + s.c = _; rw [h1, h2]; simp
theorem rem_run {P : Program} {W : World} {t : TypeId} (k : IntKind) (a n : Nat) (hn : n ≠ 0) : (binOp .rem t (.int k a) (.int k (.ofNat n))).run P W = .ok (.int k ((a % n : Nat) : Int)) W := by
  rw [binOp_rem]
  simp only [Op.intDiv, Int.ofNat_eq_natCast]
  rw [if_neg (by omega)]
  rfl
theorem remS_sound {P : Program} {W : World} {E : Env} {k : IntKind} {s : Sy} {n : Nat} {v : AV} {t : TypeId} (hs : s.ok E.sy) (h : remS k s n = some v) :
    ∃ v', conc E v = some v' ∧ (binOp .rem t (.int k (s.val E.sy)) (.int k (.ofNat n))).run P W = .ok v' W := by
  obtain ⟨q, e0, e1, e2, e, h1, h2⟩ := Sy.nat hs
  have known : Nat.beq s.k 1 = true → Nat.beq s.c 0 = true → Nat.beq s.m n = true → n ≠ 0 → ∃ v', conc E (.int k (.ofNat s.r)) = some v' ∧ (binOp .rem t (.int k (s.val E.sy)) (.int k (.ofNat n))).run P W = .ok v' W := by
    intro k1 k2 k3 hn
    have k1 := Nat.eq_of_beq_eq_true k1
    have k2 := Nat.eq_of_beq_eq_true k2
    have k3 := Nat.eq_of_beq_eq_true k3
    refine ⟨_, rfl, ?_⟩
    rw [e, rem_run _ _ _ hn]
    have : s.t E.sy % (s.m : Int) = s.r := hs.2.2.resolve_left (by omega)
    rw [e0, k3] at this
    have h3 : q % n = s.r := by omega
    rw [k1, k2]
    simp only [Nat.one_mul, Nat.add_zero, h3]
    rfl
  unfold remS at h
  rcases cond_opt h with ⟨hm, h⟩ | ⟨_, h⟩
  · cases h
    cases hz : Nat.beq n 0 with
    | true => rw [hz] at hm; cases hm
    | false =>
      rw [hz, cond_false] at hm
      have hn := Nat.ne_of_beq_eq_false hz
      have hm : s.k % n = 0 := Nat.eq_of_beq_eq_true hm
      refine ⟨_, rfl, ?_⟩
      rw [e, rem_run _ _ _ hn]
      have : (s.k * q + s.c) % n = s.c % n := by rw [Nat.add_mod, Nat.mul_mod, hm, Nat.zero_mul, Nat.zero_mod, Nat.zero_add, Nat.mod_mod]
      rw [this]; rfl
  rcases cond_opt h with ⟨_, h⟩ | ⟨hn4, h⟩
  · obtain ⟨k1, h⟩ := cond_some h
    obtain ⟨k2, h⟩ := cond_some h
    obtain ⟨k3, h⟩ := cond_some h
    rcases cond_opt h with ⟨_, h⟩ | ⟨k4, h⟩
    · cases h
    · cases h; exact known k1 k2 k3 (Nat.ne_of_beq_eq_false k4)
  have hn0 : n ≠ 0 := fun e => by subst e; cases hn4
  rcases cond_opt h with ⟨k1, h⟩ | ⟨_, h⟩
  · cases h
    refine ⟨_, conc_symi_mk hs rfl, ?_⟩
    have := blt_iff k1
    rw [e, rem_run _ _ _ hn0, Nat.mod_eq_of_lt (by omega)]
  rcases cond_opt h with ⟨k1, h⟩ | ⟨_, h⟩
  · cases h
    obtain ⟨k1, k2⟩ := cs2 k1
    obtain ⟨k2, k3⟩ := cs2 k2
    exact known k1 k2 k3 hn0
  obtain ⟨k1, h⟩ := cond_some h
  cases h
  obtain ⟨b1, b2, b3, b4⟩ := bare_spec k1 E.sy
  have ht : Sy.t ⟨s.name, 0, Nat.sub n 1, 0, 0, 0, 1, s.dv, n⟩ E.sy = ((q % n : Nat) : Int) := by
    unfold Sy.t
    rw [if_neg hn0]
    show E.sy s.name / s.dv % n = _
    rw [← b2, e0]; rfl
  refine ⟨.int k ((q % n : Nat) : Int), conc_symi_mk ⟨?_, ?_, .inl rfl⟩ ?_, ?_⟩
  · rw [ht]; show ((0 : Nat) : Int) ≤ _; omega
  · rw [ht]
    have := Nat.mod_lt q (Nat.pos_of_ne_zero hn0)
    show _ ≤ ((n - 1 : Nat) : Int)
    omega
  · unfold Sy.val; rw [ht]; simp
  · rw [b1, e0, rem_run _ _ _ hn0]
theorem andS_sound {P : Program} {W : World} {E : Env} {k : IntKind} {s : Sy} {n : Nat} {v : AV} {t : TypeId} (hs : s.ok E.sy) (h : andS k s n = some v) :
    ∃ v', conc E v = some v' ∧ (binOp .and t (.int k (s.val E.sy)) (.int k (.ofNat n))).run P W = .ok v' W := by
  obtain ⟨q, e0, e1, e2, e, h1, h2⟩ := Sy.nat hs
  unfold andS at h
  obtain ⟨k0, g1⟩ := cond_some h
  obtain ⟨k1, g2⟩ := cond_some g1
  obtain ⟨k2, g3⟩ := cond_some g2
  obtain ⟨k3, g4⟩ := cond_some g3
  clear h g1 g2 g3
  have k0 := Nat.eq_of_beq_eq_true k0
  subst k0
  obtain ⟨b1, b2, b3, b4⟩ := bare_spec k1 E.sy
  have k2 := Nat.le_of_ble_eq_true k2
  cases g4
  obtain ⟨M, hM⟩ : ∃ M, modOf k = some M := by
    unfold unsK at k3
    split at k3
    · rename_i M hM; exact ⟨M, hM⟩
    · cases k3
  have hq : q < M := by
    have : q ≤ topOf k := by omega
    cases k <;> simp [modOf] at hM <;> subst hM <;> simp only [topOf] at this <;> omega
  have hM2 : 2 ≤ M := by cases k <;> simp [modOf] at hM <;> subst hM <;> omega
  have ht : Sy.t ⟨s.name, 0, 1, 0, 0, 0, 1, s.dv, 2⟩ E.sy = ((q % 2 : Nat) : Int) := by
    unfold Sy.t
    rw [if_neg (by simp)]
    show E.sy s.name / s.dv % ((2 : Nat) : Int) = _
    rw [← b2, e0]; rfl
  have run : (binOp .and t (.int k (s.val E.sy)) (.int k (.ofNat 1))).run P W = .ok (.int k ((q % 2 : Nat) : Int)) W := by
    have hb : binI .and k (.ofNat q) (.ofNat 1) = some (.int k (.ofNat (Nat.land (Nat.mod q M) (Nat.mod 1 M)))) := by simp only [binI, hM]
    obtain ⟨v', g1, g2⟩ := binI_sound (P := P) (W := W) (t := t) hb
    have g3 := g1 E
    simp only [conc, Option.some.injEq] at g3
    rw [b1, e0]
    have : Nat.land (Nat.mod q M) (Nat.mod 1 M) = q % 2 := by
      show (q % M) &&& (1 % M) = _
      rw [Nat.mod_eq_of_lt hq, Nat.mod_eq_of_lt (by omega)]
      exact Nat.and_one_is_mod q
    rw [this] at g3
    rw [← g3] at g2
    exact g2
  refine ⟨.int k ((q % 2 : Nat) : Int), conc_symi_mk ⟨?_, ?_, .inl rfl⟩ ?_, run⟩
  · rw [ht]; show ((0 : Nat) : Int) ≤ _; omega
  · rw [ht]; show _ ≤ ((1 : Nat) : Int); omega
  · unfold Sy.val; rw [ht]; simp
theorem shrS_sound {P : Program} {W : World} {E : Env} {k k' : IntKind} {s : Sy} {b : Int} {v : AV} {t : TypeId} (hs : s.ok E.sy) (h : shrS k s b = some v) :
    ∃ v', conc E v = some v' ∧ (binOp .shr t (.int k (s.val E.sy)) (.int k' b)).run P W = .ok v' W := by
  obtain ⟨q, e0, e1, e2, e, h1, h2⟩ := Sy.nat hs
  unfold shrS at h
  split at h
  case h_2 => cases h
  rename_i n
  obtain ⟨k1, h⟩ := cond_some h
  obtain ⟨k2, h⟩ := cond_some h
  cases h
  have k2 := Nat.le_of_ble_eq_true k2
  obtain ⟨b1, b2, b3, b4⟩ := bare_spec k1 E.sy
  have hmin : nmin n (bitsOf k) = n := by
    rw [nmin_eq]
    cases k <;> simp only [bitsOf] <;> omega
  have run : (binOp .shr t (.int k (s.val E.sy)) (.int k' (.ofNat n))).run P W = .ok (.int k ((q / 2 ^ n : Nat) : Int)) W := by
    have hb : shrA k (.ofNat q) (.ofNat n) = some (.int k (.ofNat (Nat.div q (Nat.pow 2 n)))) := by simp only [shrA, hmin]
    obtain ⟨v', g1, g2⟩ := shrA_sound (P := P) (W := W) (t := t) (k' := k') hb
    have g3 := g1 E
    simp only [conc, Option.some.injEq] at g3
    rw [b1, e0]
    rw [← g3] at g2
    exact g2
  have ht : Sy.t ⟨s.name, Nat.div s.lo (Nat.pow 2 n), Nat.div s.hi (Nat.pow 2 n), 0, 0, 0, 1, Nat.mul s.dv (Nat.pow 2 n), 0⟩ E.sy = ((q / 2 ^ n : Nat) : Int) := by
    unfold Sy.t
    rw [if_pos rfl]
    show E.sy s.name / ((s.dv * 2 ^ n : Nat) : Int) = _
    rw [Int.natCast_mul, ← Int.ediv_ediv_of_nonneg (by omega), ← b2, e0]
    rfl
  refine ⟨.int k ((q / 2 ^ n : Nat) : Int), conc_symi_mk ⟨?_, ?_, .inl rfl⟩ ?_, run⟩
  · rw [ht]
    have : s.lo / 2 ^ n ≤ q / 2 ^ n := Nat.div_le_div_right e1
    show ((s.lo / 2 ^ n : Nat) : Int) ≤ _
    omega
  · rw [ht]
    have : q / 2 ^ n ≤ s.hi / 2 ^ n := Nat.div_le_div_right e2
    show _ ≤ ((s.hi / 2 ^ n : Nat) : Int)
    omega
  · unfold Sy.val; rw [ht]; simp
theorem binSL_sound {P : Program} {W : World} {E : Env} {op : BinOp} {k : IntKind} {s : Sy} {b : Int} {v : AV} {t : TypeId} (hs : s.ok E.sy) (h : binSL op k s b = some v) :
    ∃ v', conc E v = some v' ∧ (binOp op t (.int k (s.val E.sy)) (.int k b)).run P W = .ok v' W := by
  cases op <;> simp only [binSL] at h
  case eql => obtain ⟨r, h1, rfl⟩ := obool_some h; exact ⟨_, rfl, by rw [binOp_eql, ← eqSL_sound hs h1]; simp; rw [Bool.eq_iff_iff]; simp⟩
  case neq => obtain ⟨r, h1, rfl⟩ := obool_some h; exact ⟨_, rfl, by rw [binOp_neq, ← eqSL_sound hs h1]; simp; rw [Bool.eq_iff_iff]; simp⟩
  case lss => obtain ⟨r, h1, rfl⟩ := obool_some h; exact ⟨_, rfl, by rw [binOp_lss, ← ltSL_sound hs h1]; rfl⟩
  case geq => obtain ⟨r, h1, rfl⟩ := obool_some h; exact ⟨_, rfl, by rw [binOp_geq, ← ltSL_sound hs h1]; simp only [Sem.run_pure]; congr 2; rw [Bool.eq_iff_iff]; simp⟩
  case gtr => obtain ⟨r, h1, rfl⟩ := obool_some h; exact ⟨_, rfl, by rw [binOp_gtr, ← ltLS_sound hs h1]; rfl⟩
  case leq => obtain ⟨r, h1, rfl⟩ := obool_some h; exact ⟨_, rfl, by rw [binOp_leq, ← ltLS_sound hs h1]; simp only [Sem.run_pure]; congr 2; rw [Bool.eq_iff_iff]; simp⟩
  case rem =>
    split at h
    case h_2 => cases h
    exact remS_sound hs h
  case and =>
    split at h
    case h_2 => cases h
    exact andS_sound hs h
  case add =>
    split at h
    case h_2 => cases h
    rename_i n
    obtain ⟨h1, h⟩ := cond_some h
    cases h
    have h1 : s.top + n ≤ topOf k := Nat.le_of_ble_eq_true h1
    obtain ⟨q, e0, e1, e2, e, b1, b2⟩ := Sy.nat hs
    refine ⟨.int k (s.val E.sy + n), conc_symi_mk (show Sy.ok ⟨s.name, s.lo, s.hi, s.m, s.r, Nat.add s.c n, s.k, s.dv, s.md⟩ E.sy from hs) ?_, ?_⟩
    · show (s.k : Int) * s.t E.sy + ((s.c + n : Nat) : Int) = (s.k : Int) * s.t E.sy + s.c + n
      omega
    · have e2 : k.wrap (s.val E.sy + n) = s.val E.sy + n := top_wrap (by omega) (by omega)
      rw [binOp_add, Int.ofNat_eq_natCast]
      show Result.ok (Value.int k (k.wrap (s.val E.sy + n))) W = _
      rw [e2]
  case mul =>
    split at h
    case h_2 => cases h
    rename_i n
    obtain ⟨h1, h⟩ := cond_some h
    cases h
    have h1 : s.top * n ≤ topOf k := Nat.le_of_ble_eq_true h1
    obtain ⟨q, e0, e1, e2, e, b1, b2⟩ := Sy.nat hs
    have hle : (s.k * q + s.c) * n ≤ s.top * n := Nat.mul_le_mul_right _ b2
    refine ⟨.int k (s.val E.sy * n), conc_symi_mk (show Sy.ok ⟨s.name, s.lo, s.hi, s.m, s.r, Nat.mul s.c n, Nat.mul s.k n, s.dv, s.md⟩ E.sy from hs) ?_, ?_⟩
    · show ((s.k * n : Nat) : Int) * s.t E.sy + ((s.c * n : Nat) : Int) = ((s.k : Int) * s.t E.sy + s.c) * n
      rw [Int.natCast_mul, Int.natCast_mul, Int.add_mul, Int.mul_assoc, Int.mul_assoc, Int.mul_comm (n : Int)]
    · have e3 : s.val E.sy * n = (((s.k * q + s.c) * n : Nat) : Int) := by rw [e]; simp
      have e2 : k.wrap (s.val E.sy * n) = s.val E.sy * n := top_wrap (by omega) (by omega)
      rw [binOp_mul, Int.ofNat_eq_natCast]
      show Result.ok (Value.int k (k.wrap (s.val E.sy * n))) W = _
      rw [e2]
  all_goals cases h
theorem binLS_sound {P : Program} {W : World} {E : Env} {op : BinOp} {k : IntKind} {s : Sy} {a : Int} {v : AV} {t : TypeId} (hs : s.ok E.sy) (h : binLS op a s = some v) :
    ∃ v', conc E v = some v' ∧ (binOp op t (.int k a) (.int k (s.val E.sy))).run P W = .ok v' W := by
  cases op <;> simp only [binLS] at h
  case eql => obtain ⟨r, h1, rfl⟩ := obool_some h; exact ⟨_, rfl, by rw [binOp_eql, ← eqSL_sound hs h1]; simp; rw [Bool.eq_iff_iff]; simp; exact eq_comm⟩
  case neq => obtain ⟨r, h1, rfl⟩ := obool_some h; exact ⟨_, rfl, by rw [binOp_neq, ← eqSL_sound hs h1]; simp; rw [Bool.eq_iff_iff]; simp; exact not_congr eq_comm⟩
  case lss => obtain ⟨r, h1, rfl⟩ := obool_some h; exact ⟨_, rfl, by rw [binOp_lss, ← ltLS_sound hs h1]; rfl⟩
  case geq => obtain ⟨r, h1, rfl⟩ := obool_some h; exact ⟨_, rfl, by rw [binOp_geq, ← ltLS_sound hs h1]; simp only [Sem.run_pure]; congr 2; rw [Bool.eq_iff_iff]; simp⟩
  case gtr => obtain ⟨r, h1, rfl⟩ := obool_some h; exact ⟨_, rfl, by rw [binOp_gtr, ← ltSL_sound hs h1]; rfl⟩
  case leq => obtain ⟨r, h1, rfl⟩ := obool_some h; exact ⟨_, rfl, by rw [binOp_leq, ← ltSL_sound hs h1]; simp only [Sem.run_pure]; congr 2; rw [Bool.eq_iff_iff]; simp⟩
  all_goals cases h
theorem binSS_sound {P : Program} {W : World} {E : Env} {op : BinOp} {k : IntKind} {s u : Sy} {v : AV} {t : TypeId} (hs : s.ok E.sy) (hu : u.ok E.sy) (h : binSS op s u = some v) :
    ∃ v', conc E v = some v' ∧ (binOp op t (.int k (s.val E.sy)) (.int k (u.val E.sy))).run P W = .ok v' W := by
  cases op <;> simp only [binSS] at h
  case eql => obtain ⟨r, h1, rfl⟩ := obool_some h; exact ⟨_, rfl, by rw [binOp_eql, ← eqSS_sound hs hu h1]; simp; rw [Bool.eq_iff_iff]; simp⟩
  case neq => obtain ⟨r, h1, rfl⟩ := obool_some h; exact ⟨_, rfl, by rw [binOp_neq, ← eqSS_sound hs hu h1]; simp; rw [Bool.eq_iff_iff]; simp⟩
  case lss => obtain ⟨r, h1, rfl⟩ := obool_some h; exact ⟨_, rfl, by rw [binOp_lss, ← ltSS_sound hs hu h1]; rfl⟩
  case geq => obtain ⟨r, h1, rfl⟩ := obool_some h; exact ⟨_, rfl, by rw [binOp_geq, ← ltSS_sound hs hu h1]; simp only [Sem.run_pure]; congr 2; rw [Bool.eq_iff_iff]; simp⟩
  case gtr => obtain ⟨r, h1, rfl⟩ := obool_some h; exact ⟨_, rfl, by rw [binOp_gtr, ← ltSS_sound hu hs h1]; rfl⟩
  case leq => obtain ⟨r, h1, rfl⟩ := obool_some h; exact ⟨_, rfl, by rw [binOp_leq, ← ltSS_sound hu hs h1]; simp only [Sem.run_pure]; congr 2; rw [Bool.eq_iff_iff]; simp⟩
  all_goals cases h

noncomputable def binA (P : Program) (op : BinOp) (t : TypeId) (x y : AV) : Option AV :=
  match x with
  | .symi k s => (match y with
    | .int k' b => (match op with
      | .shr => shrS k s b
      | .shl => none
      | op => cond (kq k k') (binSL op k s b) none)
    | .symi k' u => cond (kq k k') (binSS op s u) none
    | _ => none)
  | .int k a => (match y with
    | .symi k' s => cond (kq k k') (binLS op a s) none
    | .int k' b => (match op with
      | .shl => shlA k a b
      | .shr => shrA k a b
      | op => cond (kq k k') (binI op k a b) none)
    | _ => none)
  | .str a => (match y with
    | .str b => binS op a b
    | _ => none)
  | x => (match op with
    | .eql => negB (eqX P t x y) false
    | .neq => negB (eqX P t x y) true
    | _ => none)

theorem bytesLess_eq : ∀ (a b : List Nat), (∀ x ∈ a, small8 x = true) → (∀ x ∈ b, small8 x = true) → Op.bytesLess (a.map UInt8.ofNat) (b.map UInt8.ofNat) = lltN a b
  | a, [], _, _ => by cases a <;> rfl
  | [], y :: b, _, _ => rfl
  | x :: a, y :: b, ha, hb => by
    have ih := bytesLess_eq a b (fun z hz => ha z (by simp [hz])) (fun z hz => hb z (by simp [hz]))
    have hx := blt_iff (ha x (by simp))
    have hy := blt_iff (hb y (by simp))
    show (decide (UInt8.ofNat x < UInt8.ofNat y) || (UInt8.ofNat x == UInt8.ofNat y && Op.bytesLess (a.map UInt8.ofNat) (b.map UInt8.ofNat))) = cond (Nat.blt x y) true (cond (Nat.beq x y) (lltN a b) false)
    rw [ih, blt_eq, beq_eq]
    have e1 : (UInt8.ofNat x < UInt8.ofNat y) ↔ x < y := by
      rw [UInt8.lt_iff_toNat_lt]; simp; omega
    have e2 : (UInt8.ofNat x == UInt8.ofNat y) = decide (x = y) := by
      rw [Bool.eq_iff_iff, beq_iff_eq, decide_eq_true_eq]
      constructor
      · intro h
        have := congrArg UInt8.toNat h
        simp at this; omega
      · intro h; rw [h]
    rw [e2]
    by_cases h1 : x < y <;> by_cases h2 : x = y <;> simp [h1, h2, e1]

section
variable {P : Program} {W : World} {E : Env}

theorem binS_sound {op : BinOp} {a b : List Nat} {v : AV} {t : TypeId} (h : binS op a b = some v) :
    ∃ v', (∀ E, conc E v = some v') ∧ (binOp op t (.string (strOf a)) (.string (strOf b))).run P W = .ok v' W := by
  cases op <;> simp only [binS] at h
  case add =>
    obtain ⟨h1, h⟩ := cond_some h
    cases h
    have h1 := Nat.le_of_ble_eq_true h1
    have h1 : llen a + llen b ≤ 1000000 := h1
    rw [llen_eq, llen_eq] at h1
    refine ⟨_, fun _ => rfl, ?_⟩
    have sz : ∀ l : List Nat, (strOf l).size = l.length := fun l => by simp [strOf, ByteArray.size]
    simp only [binOp, Op.stringOp, sz]
    rw [if_neg (by simp only [IntKind.max, IntKind.signed, IntKind.bits]; simp; omega)]
    simp only [Sem.run_pure]
    congr 2
    rw [lapp_eq]
    cases hh : strOf a ++ strOf b
    have hd : (strOf a ++ strOf b).data = (strOf a).data ++ (strOf b).data := ByteArray.data_append
    rw [hh] at hd
    simp only at hd
    subst hd
    simp [strOf]
  case eql =>
    obtain ⟨h1, h⟩ := cond_some h
    obtain ⟨h2, h⟩ := cond_some h
    cases h
    refine ⟨_, fun _ => rfl, ?_⟩
    simp only [binOp, Op.stringOp, Sem.run_pure, ByteArray.toList_eq, str_eq h1 h2]
  case neq =>
    obtain ⟨h1, h⟩ := cond_some h
    obtain ⟨h2, h⟩ := cond_some h
    cases h
    refine ⟨_, fun _ => rfl, ?_⟩
    simp only [binOp, Op.stringOp, Sem.run_pure, ByteArray.toList_eq, str_eq h1 h2]
  case lss =>
    obtain ⟨h1, h⟩ := cond_some h
    obtain ⟨h2, h⟩ := cond_some h
    cases h
    refine ⟨_, fun _ => rfl, ?_⟩
    simp only [binOp, Op.stringOp, Sem.run_pure, ByteArray.toList_eq, strOf_data, bytesLess_eq a b (lall_eq _ _ h1) (lall_eq _ _ h2)]
  all_goals cases h

theorem conc_ptr {b off : Nat} {x' : Value} (h : conc E (.ptr b off) = some x') : ∃ x, E.blk b = some x ∧ x' = .pointer (some ⟨x.1, x.2.1 + off, none⟩) := by
  simp only [conc, Option.map_eq_some_iff] at h
  obtain ⟨x, hx, rfl⟩ := h; exact ⟨x, hx, rfl⟩
theorem conc_map {b : Nat} {x' : Value} (h : conc E (.map b) = some x') : ∃ x, E.blk b = some x ∧ x' = .map (some x.1) := by
  simp only [conc, Option.map_eq_some_iff] at h
  obtain ⟨x, hx, rfl⟩ := h; exact ⟨x, hx, rfl⟩
theorem conc_agg {l : List AV} {x' : Value} (h : conc E (.agg l) = some x') : ∃ xs, concs E l = some xs ∧ x' = .agg xs.toArray := by
  simp only [conc, Option.map_eq_some_iff] at h
  obtain ⟨x, hx, rfl⟩ := h; exact ⟨x, hx, rfl⟩
theorem conc_tuple {l : List AV} {x' : Value} (h : conc E (.tuple l) = some x') : ∃ xs, concs E l = some xs ∧ x' = .tuple xs.toArray := by
  simp only [conc, Option.map_eq_some_iff] at h
  obtain ⟨x, hx, rfl⟩ := h; exact ⟨x, hx, rfl⟩
/-- What a slice that is not nil stands for. -/
def CapSays (x : Nat × Nat × Nat) (off len c : Nat) : Cap → Prop
  | .exact n => c = n
  | .upto sz => off + len * sz ≤ x.2.2 ∧ 0 < sz ∧ c = (x.2.2 - off) / sz
  | .empty _ _ => False
theorem conc_slice {b off len : Nat} {cap : Cap} {x' : Value} (h : conc E (.slice b off len cap) = some x') :
    ∃ x a c, E.blk b = some x ∧ x' = .slice (some a) len c ∧ ((a = ⟨x.1, x.2.1 + off, none⟩ ∧ CapSays x off len c cap) ∨ (len = 0 ∧ ∃ lo sz, cap = .empty lo sz)) := by
  cases cap with
  | empty lo sz =>
    simp only [conc, Option.bind_eq_some_iff] at h
    obtain ⟨x, hx, h⟩ := h
    split at h
    · rename_i hh; cases h; exact ⟨x, _, _, hx, by rw [hh.1], .inr ⟨hh.1, lo, sz, rfl⟩⟩
    · cases h
  | exact n =>
    simp only [conc, Option.map_eq_some_iff] at h
    obtain ⟨x, hx, rfl⟩ := h; exact ⟨x, _, n, hx, rfl, .inl ⟨rfl, rfl⟩⟩
  | upto sz =>
    simp only [conc, Option.bind_eq_some_iff] at h
    obtain ⟨x, hx, h⟩ := h
    split at h
    · rename_i hh; cases h; exact ⟨x, _, _, hx, rfl, .inl ⟨rfl, hh.1, hh.2, rfl⟩⟩
    · cases h

section
variable {t : TypeId} (d : Nat)
theorem equal_d (x y : Value) : Op.equal t x y = Op.equalIn (9999 + 1) t x y := rfl
theorem eqp1 {e : TypeId} (hu : und P t = some (.pointer e)) (b : Option Addr) : (Op.equalIn (d + 1) t (.pointer none) (.pointer b)).run P W = .ok b.isNone W := by
  simp [Op.equalIn, run_und hu]
theorem eqp2 {e : TypeId} (hu : und P t = some (.pointer e)) (a : Addr) : (Op.equalIn (d + 1) t (.pointer (some a)) (.pointer none)).run P W = .ok false W := by
  simp [Op.equalIn, run_und hu]
theorem eqs1 {e : TypeId} (hu : und P t = some (.slice e)) (b : Option Addr) (n c : Nat) : (Op.equalIn (d + 1) t (.slice none 0 0) (.slice b n c)).run P W = .ok b.isNone W := by
  simp [Op.equalIn, run_und hu]
theorem eqs2 {e : TypeId} (hu : und P t = some (.slice e)) (a : Addr) (n c : Nat) : (Op.equalIn (d + 1) t (.slice (some a) n c) (.slice none 0 0)).run P W = .ok false W := by
  simp [Op.equalIn, run_und hu]
theorem eqm1 {k e : TypeId} (hu : und P t = some (.map k e)) (b : Option Nat) : (Op.equalIn (d + 1) t (.map none) (.map b)).run P W = .ok b.isNone W := by
  simp [Op.equalIn, run_und hu]
theorem eqm2 {k e : TypeId} (hu : und P t = some (.map k e)) (a : Nat) : (Op.equalIn (d + 1) t (.map (some a)) (.map none)).run P W = .ok false W := by
  simp [Op.equalIn, run_und hu]
end
theorem eqX_sound {t : TypeId} {x y : AV} {x' y' : Value} {r : Bool} (h : eqX P t x y = some r) (hx : conc E x = some x') (hy : conc E y = some y') :
    (Op.equal t x' y').run P W = .ok r W ∧ ∀ op a b, (eqGuard op t a b x' y').run P W = .ok () W := by
  unfold eqX at h
  split at h
  · -- bools
    split at h
    case h_2 => cases h
    split at h
    case h_2 => cases h
    rename_i hu
    simp only [conc, Option.some.injEq] at hx hy h
    subst hx; subst hy; subst h
    rename_i a _ b _ 
    refine ⟨?_, fun op p q => by rw [eqGuard_at_bool]; rfl⟩
    have := run_equal_bool (P := P) W t a b (und_eq hu)
    rw [this]; cases a <;> cases b <;> rfl
  · split at h
    case h_2 => cases h
    rename_i e hu
    simp only [conc, Option.some.injEq] at hx
    subst hx
    refine ⟨?_, fun op p q => by rw [eqGuard_at_pointer]; rfl⟩
    split at h
    · simp only [conc, Option.some.injEq] at hy h
      subst hy; subst h
      rw [equal_d]; exact eqp1 _ hu _
    · obtain ⟨z, _, rfl⟩ := conc_ptr hy
      cases h
      rw [equal_d]; exact eqp1 _ hu _
    · cases h
  · split at h
    case h_2 => cases h
    rename_i e hu
    obtain ⟨z, _, rfl⟩ := conc_ptr hx
    refine ⟨?_, fun op p q => by rw [eqGuard_at_pointer]; rfl⟩
    split at h
    · simp only [conc, Option.some.injEq] at hy h
      subst hy; subst h
      rw [equal_d]; exact eqp2 _ hu _
    · cases h
  · split at h
    case h_2 => cases h
    rename_i e hu
    simp only [conc, Option.some.injEq] at hx
    subst hx
    refine ⟨?_, fun op p q => by rw [eqGuard_at_slice]; rfl⟩
    split at h
    · simp only [conc, Option.some.injEq] at hy h
      subst hy; subst h
      rw [equal_d]; exact eqs1 _ hu _ _ _
    · obtain ⟨z, a0, c, _, rfl, _⟩ := conc_slice hy
      cases h
      rw [equal_d]; exact eqs1 _ hu _ _ _
    · cases h
  · split at h
    case h_2 => cases h
    rename_i e hu
    obtain ⟨z, a0, c, _, rfl, _⟩ := conc_slice hx
    refine ⟨?_, fun op p q => by rw [eqGuard_at_slice]; rfl⟩
    split at h
    · simp only [conc, Option.some.injEq] at hy h
      subst hy; subst h
      rw [equal_d]; exact eqs2 _ hu _ _ _
    · cases h
  · split at h
    case h_2 => cases h
    rename_i e hu
    simp only [conc, Option.some.injEq] at hx
    subst hx
    refine ⟨?_, fun op p q => by rw [eqGuard_at_map]; rfl⟩
    split at h
    · simp only [conc, Option.some.injEq] at hy h
      subst hy; subst h
      rw [equal_d]; exact eqm1 _ hu _
    · obtain ⟨z, _, rfl⟩ := conc_map hy
      cases h
      rw [equal_d]; exact eqm1 _ hu _
    · cases h
  · split at h
    case h_2 => cases h
    rename_i e hu
    obtain ⟨z, _, rfl⟩ := conc_map hx
    refine ⟨?_, fun op p q => by rw [eqGuard_at_map]; rfl⟩
    split at h
    · simp only [conc, Option.some.injEq] at hy h
      subst hy; subst h
      rw [equal_d]; exact eqm2 _ hu _
    · cases h
  · split at h
    case h_2 => cases h
    cases hg : P.eqGuardType P.depth t
    · rw [hg] at h
      simp only [cond_false] at h
      split at h
      case h_2 => cases h
      rename_i ks hk
      obtain ⟨xs, hxs, rfl⟩ := conc_agg hx
      obtain ⟨ys, hys, rfl⟩ := conc_agg hy
      obtain ⟨f1, f2, f3⟩ := eqsA_sound h hxs hys
      refine ⟨by rw [flat_equal hk f1 f2, f3], fun op p q => ?_⟩
      cases op <;> simp [eqGuard, hg]
    · rw [hg] at h; cases h
  · cases h

theorem binOp_eq_of {t : TypeId} {x' y' : Value} {r : Bool} (he : (Op.equal t x' y').run P W = .ok r W) (hn : ∀ k n, x' ≠ .int k n) (hs : ∀ s, x' ≠ .string s) (hf : ∀ k n, x' ≠ .float k n) (hc : ∀ k n m, x' ≠ .complex k n m) :
    (binOp .eql t x' y').run P W = .ok (.bool r) W ∧ (binOp .neq t x' y').run P W = .ok (.bool !r) W := by
  cases x' <;> first
    | exact absurd rfl (hn _ _) | exact absurd rfl (hs _) | exact absurd rfl (hf _ _) | exact absurd rfl (hc _ _ _)
    | (cases y' <;> simp [binOp, he])

theorem eqX_kind {t : TypeId} {x y : AV} {r : Bool} {x' : Value} (h : eqX P t x y = some r) (hx : conc E x = some x') : (∀ k n, x' ≠ .int k n) ∧ (∀ s, x' ≠ .string s) ∧ (∀ k n, x' ≠ .float k n) ∧ (∀ k n m, x' ≠ .complex k n m) := by
  unfold eqX at h
  split at h
  · simp only [conc, Option.some.injEq] at hx; subst hx; simp
  · simp only [conc, Option.some.injEq] at hx; subst hx; simp
  · obtain ⟨z, _, rfl⟩ := conc_ptr hx; simp
  · simp only [conc, Option.some.injEq] at hx; subst hx; simp
  · obtain ⟨z, a0, c, _, rfl, _⟩ := conc_slice hx; simp
  · simp only [conc, Option.some.injEq] at hx; subst hx; simp
  · obtain ⟨z, _, rfl⟩ := conc_map hx; simp
  · obtain ⟨xs, _, rfl⟩ := conc_agg hx; simp
  · cases h

theorem binA_sound {op : BinOp} {t u : TypeId} {x y : AV} {x' y' : Value} {v : AV} {p q : Operand} (h : binA P op t x y = some v) (hx : conc E x = some x') (hy : conc E y = some y') :
    ∃ v', conc E v = some v' ∧ (do eqGuard op t p q x' y'; binOp op t x' y' : Sem Value).run P W = .ok v' W := by
  unfold binA at h
  split at h
  · split at h
    case h_3 => cases h
    case h_2 =>
      obtain ⟨h0, h1⟩ := cond_some h
      clear h
      have := kq_eq h0; subst this
      obtain ⟨hs, rfl⟩ := conc_symi hx
      obtain ⟨hu, rfl⟩ := conc_symi hy
      simp only [Sem.run_bind, eqGuard_at_int, Sem.run_pure, Result.andThen_ok]
      exact binSS_sound hs hu h1
    obtain ⟨hs, rfl⟩ := conc_symi hx
    simp only [conc, Option.some.injEq] at hy
    subst hy
    simp only [Sem.run_bind, eqGuard_at_int, Sem.run_pure, Result.andThen_ok]
    split at h
    · exact shrS_sound hs h
    · cases h
    · obtain ⟨h0, h1⟩ := cond_some h
      have := kq_eq h0; subst this
      exact binSL_sound hs h1
  · split at h
    case h_3 => cases h
    case h_1 =>
      obtain ⟨h0, h1⟩ := cond_some h
      clear h
      have := kq_eq h0; subst this
      obtain ⟨hs, rfl⟩ := conc_symi hy
      simp only [conc, Option.some.injEq] at hx
      subst hx
      simp only [Sem.run_bind, eqGuard_at_int, Sem.run_pure, Result.andThen_ok]
      exact binLS_sound hs h1
    rename_i k a _ k' b
    simp only [conc, Option.some.injEq] at hx hy
    subst hx; subst hy
    simp only [Sem.run_bind, eqGuard_at_int, Sem.run_pure, Result.andThen_ok]
    split at h
    · obtain ⟨v', h1, h2⟩ := shlA_sound (P := P) (W := W) (k' := k') (t := t) h; exact ⟨v', h1 E, h2⟩
    · obtain ⟨v', h1, h2⟩ := shrA_sound (P := P) (W := W) (k' := k') (t := t) h; exact ⟨v', h1 E, h2⟩
    · obtain ⟨h0, h5⟩ := cond_some h
      have := kq_eq h0; subst this
      obtain ⟨v', h1, h2⟩ := binI_sound (P := P) (W := W) (t := t) h5; exact ⟨v', h1 E, h2⟩
  · split at h
    case h_2 => cases h
    simp only [conc, Option.some.injEq] at hx hy
    subst hx; subst hy
    simp only [Sem.run_bind, eqGuard_at_string, Sem.run_pure, Result.andThen_ok]
    obtain ⟨v', h1, h2⟩ := binS_sound (P := P) (W := W) (t := t) h; exact ⟨v', h1 E, h2⟩
  · have main : ∀ r, eqX P t x y = some r → (∀ a b, (eqGuard op t a b x' y').run P W = .ok () W) ∧ (binOp .eql t x' y').run P W = .ok (.bool r) W ∧ (binOp .neq t x' y').run P W = .ok (.bool !r) W := by
      intro r hr
      obtain ⟨h1, h2⟩ := eqX_sound (W := W) hr hx hy
      obtain ⟨k1, k2, k3, k4⟩ := eqX_kind hr hx
      exact ⟨fun a b => h2 op a b, binOp_eq_of h1 k1 k2 k3 k4⟩
    split at h
    · cases hr : eqX P t x y with
      | none => rw [hr] at h; cases h
      | some r =>
        rw [hr] at h; cases h
        obtain ⟨m1, m2, m3⟩ := main r hr
        exact ⟨_, rfl, by simp [m1, m2]⟩
    · cases hr : eqX P t x y with
      | none => rw [hr] at h; cases h
      | some r =>
        rw [hr] at h; cases h
        obtain ⟨m1, m2, m3⟩ := main r hr
        exact ⟨_, rfl, by simp [m1, m3]⟩
    · cases h
end
end Go.PE
