/-
  THE ENGINE, 17: a region that may run in any order its edges allow.
  What is quiet is looked up as soon as it may be, and looked up again behind each effect that it need not wait for.
-/
import Derived.Test.YtmnjpaholemebaaGreatDoorE16
namespace Go.PE
open Go

/-! ### Masks -/
noncomputable def bit (m i : Nat) : Bool := Nat.beq (Nat.land (Nat.shiftRight m i) 1) 1
theorem bit_eq (m i : Nat) : bit m i = m.testBit i := by
  unfold bit
  rw [beq_eq]
  have e1 : Nat.land (Nat.shiftRight m i) 1 = (m >>> i) % 2 := Nat.and_one_is_mod _
  rw [e1, Nat.testBit_eq_decide_div_mod_eq, Nat.shiftRight_eq_div_pow]
noncomputable def mor (m i : Nat) : Nat := Nat.lor m (Nat.shiftLeft 1 i)
theorem bit_mor (m i j : Nat) : bit (mor m i) j = (bit m j || decide (i = j)) := by
  rw [bit_eq, bit_eq]
  show (m ||| (1 <<< i)).testBit j = _
  rw [Nat.testBit_or, Nat.one_shiftLeft, Nat.testBit_two_pow]
theorem bit_lor (m k j : Nat) : bit (Nat.lor m k) j = (bit m j || bit k j) := by
  rw [bit_eq, bit_eq, bit_eq]
  exact Nat.testBit_or m k j
noncomputable def subm (m k : Nat) : Bool := Nat.beq (Nat.land m k) m
theorem sub_bit {m k : Nat} (h : subm m k = true) {i : Nat} (hi : bit m i = true) : bit k i = true := by
  have := Nat.eq_of_beq_eq_true h
  rw [bit_eq] at *
  have h2 : (m &&& k).testBit i = true := by show (Nat.land m k).testBit i = true; rw [this]; exact hi
  rw [Nat.testBit_and, Bool.and_eq_true] at h2
  exact h2.2
theorem bit_zero (i : Nat) : bit 0 i = false := by rw [bit_eq]; exact Nat.zero_testBit i

noncomputable def mg (M : T Nat) (j : Nat) : Nat := match M.get j with | some m => m | none => 0

def bindsA (e : Edge) : Bool := match e.ground with
  | .textOnly _ => false
  | .gcOnly _ => false
  | _ => true
theorem bindsA_eq (e : Edge) : bindsA e = Region.binds .any e := by
  unfold bindsA Region.binds
  split <;> simp_all

noncomputable def maskOf (M : T Nat) (l : List Edge) : Nat := List.rec (motive := fun _ => Nat) 0 (fun e _ ih => cond (bindsA e) (Nat.lor (mor ih e.on) (mg M e.on)) ih) l
theorem maskOf_bit {M : T Nat} {l : List Edge} {i : Nat} (h : bit (maskOf M l) i = true) : ∃ e ∈ l, Region.binds .any e = true ∧ (e.on = i ∨ bit (mg M e.on) i = true) := by
  induction l with
  | nil => rw [show maskOf M [] = 0 from rfl, bit_zero] at h; cases h
  | cons e l ih =>
    rw [show maskOf M (e :: l) = cond (bindsA e) (Nat.lor (mor (maskOf M l) e.on) (mg M e.on)) (maskOf M l) from rfl] at h
    cases hb : bindsA e with
    | false =>
      rw [hb] at h
      obtain ⟨e', h1, h2⟩ := ih h
      exact ⟨e', List.mem_cons_of_mem _ h1, h2⟩
    | true =>
      rw [hb, cond_true, bit_lor, bit_mor, Bool.or_eq_true, Bool.or_eq_true, decide_eq_true_eq] at h
      rcases h with (h | h) | h
      · obtain ⟨e', h1, h2⟩ := ih h
        exact ⟨e', List.mem_cons_of_mem _ h1, h2⟩
      · exact ⟨e, List.mem_cons_self, by rw [← bindsA_eq]; exact hb, .inl h⟩
      · exact ⟨e, List.mem_cons_self, by rw [← bindsA_eq]; exact hb, .inr h⟩

/-! ### What an operation looks at -/
noncomputable def optL (x : Option Operand) : List Operand := match x with | some y => [y] | none => []
noncomputable def calL (c : Call) : List Operand := match c.callee with
  | .value f => f :: c.args.toList
  | .invoke r _ => r :: c.args.toList
  | .builtin _ => c.args.toList
noncomputable def opL (op : Op) : List Operand := match op with
  | .alloc _ | .ready _ | .waits _ => []
  | .move x | .assign x | .box _ x | .load _ x | .nilCheck x | .unOp _ _ x | .convert _ _ x | .sliceToArrayPointer _ x | .makeInterface _ x
  | .makeChan _ x | .fieldAddr _ x _ | .field _ x _ | .range _ x | .next x _ | .entry x | .typeAssert x _ _ _ | .extract x _ | .panic x | .recv _ x _ => [x]
  | .pick c a b => [c, a, b]
  | .build _ ps | .buildSlice _ _ ps => lmap (fun p => p.2) ps.toList
  | .store _ a v | .binOp _ _ a v _ | .makeSlice _ a v | .indexAddr _ a v | .index _ a v | .lookup _ a v _ | .mapEntry _ a v | .send a v => [a, v]
  | .makeFunc _ first captured => lapp first.toList captured.toList
  | .makeMap _ r => optL r
  | .slice _ x l h m => x :: lapp (optL l) (lapp (optL h) (optL m))
  | .mapUpdate _ m k v | .entryStore _ m k v | .insert _ m k v => [m, k, v]
  | .call c | .go c | .defer c => calL c
  | .select _ _ => []
noncomputable def isSelect (op : Op) : Bool := match op with | .select _ _ => true | _ => false

theorem optL_mem {x : Operand} {o : Option Operand} (h : x ∈ o.toArray) : x ∈ optL o := by cases o <;> simp_all [optL]
theorem calL_mem {x : Operand} {c : Call} (h : x ∈ c.operands) : x ∈ calL c := by
  unfold Call.operands at h
  unfold calL
  split at h <;> simp_all
theorem opL_mem {op : Op} {x : Operand} (hs : isSelect op = false) (h : x ∈ op.operands) : x ∈ opL op := by
  cases op <;> simp only [Op.operands] at h <;> simp only [opL]
  case select => cases hs
  case call => exact calL_mem h
  case go => exact calL_mem h
  case defer => exact calL_mem h
  case makeMap => exact optL_mem h
  case build => rw [lmap_eq]; simpa using h
  case buildSlice => rw [lmap_eq]; simpa using h
  case makeFunc => rw [lapp_eq]; simpa using h
  case slice =>
    rw [lapp_eq, lapp_eq]
    simp only [List.mem_cons, List.mem_append]
    simp only [Array.mem_append] at h
    rcases h with ((h | h) | h) | h
    · exact .inl (by simpa using h)
    · exact .inr (.inl (optL_mem h))
    · exact .inr (.inr (.inl (optL_mem h)))
    · exact .inr (.inr (.inr (optL_mem h)))
  all_goals first | (simp at h; done) | simpa using h

noncomputable def gtmp (l : List Oper) (g : Option (Nat × Bool)) (q : Nat → Bool) : Bool := match g with
  | some p => (match lget p.1 l with
    | some x => (match x.dst with | some d => q d | none => true)
    | none => true)
  | none => true
/-- Every temporary that an operation looks at passes. -/
noncomputable def looksAll (l : List Oper) (o : Oper) (q : Nat → Bool) : Bool :=
  cond (lall (fun x => match x with | .tmp t => q t | _ => true) (opL o.op)) (gtmp l o.guard q) false
theorem looksAll_spec {ops : Array Oper} {o : Oper} {q : Nat → Bool} (hs : isSelect o.op = false) (h : looksAll ops.toList o q = true) : ∀ t ∈ o.looksAt ops, q t = true := by
  obtain ⟨h1, h2⟩ := cond_some' h
  intro t ht
  unfold Oper.looksAt at ht
  rcases List.mem_append.1 ht with ht | ht
  · rw [List.mem_filterMap] at ht
    obtain ⟨x, hx, hxt⟩ := ht
    have hm := opL_mem hs (by simpa using hx)
    have := lall_eq _ _ h1 _ hm
    split at hxt
    · cases hxt; exact this
    · cases hxt
  · unfold gtmp at h2
    cases hg : o.guard with
    | none => rw [hg] at ht; simp at ht
    | some p =>
      rw [hg] at ht h2
      simp only [lget_eq, Array.getElem?_toList] at h2
      cases hx : ops[p.1]? with
      | none => simp [hx] at ht
      | some x =>
        simp only [hx, Option.bind_some, Option.mem_toList] at ht
        rw [hx] at h2
        simp only [ht] at h2
        exact h2

/-! ### The static check -/
noncomputable def wrGo (l : List Oper) (j : Nat) (acc : T Nat) : T Nat := List.rec (motive := fun _ => Nat → T Nat → T Nat) (fun _ acc => acc)
  (fun o _ ih j acc => match o.dst with | some d => ih (Nat.succ j) (acc.set d j) | none => ih (Nat.succ j) acc) l j acc
theorem wrGo_get : ∀ (l : List Oper) (j : Nat) (acc : T Nat) (t i : Nat), (wrGo l j acc).get t = some i → acc.get t = some i ∨ ∃ m o, l[m]? = some o ∧ i = j + m ∧ o.dst = some t := by
  intro l
  induction l with
  | nil => intro j acc t i h; exact .inl h
  | cons o l ih =>
    intro j acc t i h
    have h' : (match o.dst with | some d => wrGo l (j + 1) (acc.set d j) | none => wrGo l (j + 1) acc).get t = some i := h
    cases hd : o.dst with
    | none =>
      rw [hd] at h'
      rcases ih _ _ _ _ h' with h1 | ⟨m, x, h1, h2, h3⟩
      · exact .inl h1
      · exact .inr ⟨m + 1, x, by simpa using h1, by omega, h3⟩
    | some d =>
      rw [hd] at h'
      rcases ih _ _ _ _ h' with h1 | ⟨m, x, h1, h2, h3⟩
      · rw [T.get_set] at h1
        split at h1
        · rename_i he; cases h1; subst he; exact .inr ⟨0, o, rfl, rfl, hd⟩
        · exact .inl h1
      · exact .inr ⟨m + 1, x, by simpa using h1, by omega, h3⟩

noncomputable def dstOk (wr : T Nat) (j : Nat) (d : Option Tmp) : Bool := match d with
  | some t => (match wr.get t with | some i => Nat.beq i j | none => false)
  | none => true
noncomputable def rdOk (M wr : T Nat) (j t : Nat) : Bool := match wr.get t with
  | some i => cond (bit (mg M j) i) true (bit (mg M i) j)
  | none => true
noncomputable def opOk (M wr : T Nat) (l : List Oper) (j : Nat) (o : Oper) : Bool :=
  cond (isSelect o.op) false (cond (Nat.beq (mg M j) (maskOf M o.after.toList)) (cond (lall (fun e => cond (bindsA e) (Nat.blt e.on j) true) o.after.toList)
    (cond (dstOk wr j o.dst) (looksAll l o fun t => rdOk M wr j t) false) false) false)
noncomputable def opsOk (M wr : T Nat) (l : List Oper) (r : List Oper) (j : Nat) : Bool := List.rec (motive := fun _ => Nat → Bool) (fun _ => true)
  (fun o _ ih j => cond (opOk M wr l j o) (ih (Nat.succ j)) false) r j

structure OkR (ops : Array Oper) (M wr : T Nat) : Prop where
  mask : ∀ j o, ops[j]? = some o → ∀ i, bit (mg M j) i = true → ∃ e ∈ o.after, Region.binds .any e = true ∧ (e.on = i ∨ bit (mg M e.on) i = true)
  back : ∀ j o, ops[j]? = some o → ∀ e ∈ o.after, Region.binds .any e = true → e.on < j
  sel : ∀ (j : Nat) (o : Oper), ops[j]? = some o → isSelect o.op = false
  wr1 : ∀ j o d, ops[j]? = some o → o.dst = some d → wr.get d = some j
  wr2 : ∀ t i, wr.get t = some i → ∃ o, ops[i]? = some o ∧ o.dst = some t
  rd : ∀ j o, ops[j]? = some o → ∀ t ∈ o.looksAt ops, ∀ i, wr.get t = some i → bit (mg M j) i = true ∨ bit (mg M i) j = true

theorem opsOk_at {M wr : T Nat} {l : List Oper} : ∀ (r : List Oper) (j : Nat), opsOk M wr l r j = true → ∀ m o, r[m]? = some o → opOk M wr l (j + m) o = true := by
  intro r
  induction r with
  | nil => intro j _ m o h; simp at h
  | cons x r ih =>
    intro j h m o hm
    have h' : cond (opOk M wr l j x) (opsOk M wr l r (j + 1)) false = true := h
    obtain ⟨h1, h2⟩ := cond_some' h'
    cases m with
    | zero => simp at hm; subst hm; exact h1
    | succ m =>
      have := ih (j + 1) h2 m o (by simpa using hm)
      rwa [Nat.add_assoc, Nat.add_comm 1 m] at this

theorem okR_of {ops : Array Oper} {M : T Nat} (h : opsOk M (wrGo ops.toList 0 .e) ops.toList ops.toList 0 = true) : OkR ops M (wrGo ops.toList 0 .e) := by
  have key : ∀ (j : Nat) (o : Oper), ops[j]? = some o → opOk M (wrGo ops.toList 0 .e) ops.toList j o = true := by
    intro j o hj
    have := opsOk_at _ _ h j o (by rw [Array.getElem?_toList]; exact hj)
    rwa [Nat.zero_add] at this
  have parts : ∀ (j : Nat) (o : Oper), ops[j]? = some o → isSelect o.op = false ∧ mg M j = maskOf M o.after.toList ∧ lall (fun e => cond (bindsA e) (Nat.blt e.on j) true) o.after.toList = true ∧
      dstOk (wrGo ops.toList 0 .e) j o.dst = true ∧ looksAll ops.toList o (fun t => rdOk M (wrGo ops.toList 0 .e) j t) = true := by
    intro j o hj
    have h0 := key j o hj
    unfold opOk at h0
    cases hs : isSelect o.op with
    | true => rw [hs] at h0; cases h0
    | false =>
      rw [hs, cond_false] at h0
      obtain ⟨h1, h2⟩ := cond_some' h0
      obtain ⟨h2, h3⟩ := cond_some' h2
      obtain ⟨h3, h4⟩ := cond_some' h3
      exact ⟨rfl, Nat.eq_of_beq_eq_true h1, h2, h3, h4⟩
  refine ⟨fun j o hj i hi => ?_, fun j o hj e he hb => ?_, fun j o hj => (parts j o hj).1, fun j o d hj hd => ?_, fun t i ht => ?_, fun j o hj t ht i hi => ?_⟩
  · rw [(parts j o hj).2.1] at hi
    obtain ⟨e, h1, h2⟩ := maskOf_bit hi
    exact ⟨e, by simpa using h1, h2⟩
  · have := lall_eq _ _ (parts j o hj).2.2.1 e (by simpa using he)
    rw [bindsA_eq, hb, cond_true] at this
    exact Nat.blt_eq ▸ this
  · have h0 := (parts j o hj).2.2.2.1
    rw [hd] at h0
    unfold dstOk at h0
    simp only at h0
    split at h0
    · rename_i i hi; rw [hi, Nat.eq_of_beq_eq_true h0]
    · cases h0
  · rcases wrGo_get _ _ _ _ _ ht with h0 | ⟨m, o, h1, h2, h3⟩
    · rw [T.get_e] at h0; cases h0
    · rw [Nat.zero_add] at h2; subst h2
      exact ⟨o, by rw [← Array.getElem?_toList]; exact h1, h3⟩
  · have h0 := looksAll_spec (parts j o hj).1 (parts j o hj).2.2.2.2 t ht
    unfold rdOk at h0
    rw [hi] at h0
    simp only at h0
    cases hb : bit (mg M j) i with
    | true => exact .inl rfl
    | false => rw [hb, cond_false] at h0; exact .inr h0

/-! ### The plan -/
noncomputable def isE (op : Op) : Bool := match op with
  | .alloc _ | .box _ _ | .buildSlice _ _ _ | .makeSlice _ _ _ | .makeMap _ _ | .store _ _ _ | .mapUpdate _ _ _ _ | .insert _ _ _ _ | .range _ _ | .next _ _ | .entry _ => true
  | .call c => (match c.callee with
    | .builtin b => (match b with | .append | .copy | .delete | .clear => true | _ => false)
    | _ => true)
  | _ => false

/-- A new variable, unguarded: it may be laid at whatever time. -/
noncomputable def isA (o : Oper) : Bool := match o.op with
  | .alloc _ => (match o.guard with | none => true | some _ => false)
  | _ => false
theorem isA_isE {o : Oper} (h : isA o = true) : isE o.op = true := by
  unfold isA at h
  split at h
  · rename_i he; rw [he]; rfl
  · cases h

noncomputable def chkP (M : T Nat) (l : List Oper) (n : Nat) (plan : List Nat) (D eff : Nat) : Bool := List.rec (motive := fun _ => Nat → Nat → Bool)
  (fun D _ => Nat.beq D (Nat.pred (Nat.shiftLeft 1 n)))
  (fun j _ ih D eff => match lget j l with
    | some o => cond (cond (isA o) true (subm eff (mg M j))) (cond (subm (mg M j) D) (cond (bit D j) false (ih (mor D j) (cond (isE o.op) (mor eff j) eff))) false) false
    | none => false) plan D eff

section
variable {M : T Nat} {ops : Array Oper}
theorem chkP_cons {j : Nat} {r : List Nat} {n D eff : Nat} (h : chkP M ops.toList n (j :: r) D eff = true) : ∃ o, ops[j]? = some o ∧ (isA o = false → ∀ i, bit eff i = true → bit (mg M j) i = true) ∧
    (∀ i, bit (mg M j) i = true → bit D i = true) ∧ bit D j = false ∧ chkP M ops.toList n r (mor D j) (cond (isE o.op) (mor eff j) eff) = true := by
  have h' : (match lget j ops.toList with
    | some o => cond (cond (isA o) true (subm eff (mg M j))) (cond (subm (mg M j) D) (cond (bit D j) false (chkP M ops.toList n r (mor D j) (cond (isE o.op) (mor eff j) eff))) false) false
    | none => false) = true := h
  rw [lget_eq, Array.getElem?_toList] at h'
  cases ho : ops[j]? with
  | none => rw [ho] at h'; cases h'
  | some o =>
    rw [ho] at h'
    simp only at h'
    obtain ⟨h1, h2⟩ := cond_some' h'
    obtain ⟨h2, h3⟩ := cond_some' h2
    cases hb : bit D j with
    | true => rw [hb] at h3; cases h3
    | false => rw [hb] at h3; exact ⟨o, rfl, fun ha i hi => by rw [ha, cond_false] at h1; exact sub_bit h1 hi, fun i hi => sub_bit h2 hi, rfl, h3⟩

theorem chkP_mem {n : Nat} : ∀ (r : List Nat) (D eff : Nat), chkP M ops.toList n r D eff = true → ∀ j ∈ r, ∀ oj, ops[j]? = some oj → isA oj = false → ∀ i, bit eff i = true → bit (mg M j) i = true := by
  intro r
  induction r with
  | nil => intro _ _ _ j hj; cases hj
  | cons x r ih =>
    intro D eff h j hj oj hoj ha i hi
    obtain ⟨o, ho, h1, _, _, h2⟩ := chkP_cons h
    cases hj with
    | head => rw [ho] at hoj; cases hoj; exact h1 ha i hi
    | tail _ hj =>
      refine ih _ _ h2 j hj oj hoj ha i ?_
      cases isE o.op
      · exact hi
      · rw [cond_true, bit_mor, hi]; rfl

theorem chkP_all {n : Nat} : ∀ (r : List Nat) (D eff : Nat), chkP M ops.toList n r D eff = true → ∀ j, j < n → bit D j = true ∨ j ∈ r := by
  intro r
  induction r with
  | nil =>
    intro D eff h j hj
    have h' : D = Nat.pred (Nat.shiftLeft 1 n) := Nat.eq_of_beq_eq_true h
    left
    subst h'
    rw [bit_eq]
    have : Nat.pred (Nat.shiftLeft 1 n) = 2 ^ n - 1 := by
      show Nat.pred (1 <<< n) = _
      rw [Nat.one_shiftLeft]; rfl
    rw [this, Nat.testBit_two_pow_sub_one]
    exact decide_eq_true hj
  | cons x r ih =>
    intro D eff h j hj
    obtain ⟨o, _, _, _, _, h2⟩ := chkP_cons h
    rcases ih _ _ h2 j hj with h3 | h3
    · rw [bit_mor, Bool.or_eq_true, decide_eq_true_eq] at h3
      rcases h3 with h3 | h3
      · exact .inl h3
      · exact .inr (h3 ▸ List.mem_cons_self)
    · exact .inr (List.mem_cons_of_mem _ h3)
end
end Go.PE
