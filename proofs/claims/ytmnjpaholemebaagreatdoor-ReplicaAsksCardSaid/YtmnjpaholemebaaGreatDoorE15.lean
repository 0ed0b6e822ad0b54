/-
  THE ENGINE, 15: one operation, whichever it is, with what goes on behind it.
-/
import Derived.Test.YtmnjpaholemebaaGreatDoorE14
import Derived.OrdersIn
import Derived.RangeFuncLeaves
import Derived.RangeFuncRecord
import Derived.Sort.LoopGhostIn
namespace Go.PE
open Go

/-- What a call may come to: the abstract function says what is asked behind it. -/
abbrev CF := FuncId → List AV → AH → (AV → AH → Bool) → Bool

/-- Behind a step: some abstract state of which the continuation is true tells of the world. -/
def Post [Amb] (E : Env) (A : AH) (W : World) (k : AV → AH → Bool) (v : Value) (W' : World) : Prop :=
  ∃ (av : AV) (A' : AH) (E' : Env), k av A' = true ∧ conc E' av = some v ∧ Rel E' A' W' ∧ Step E A W E' A' W'

def CallOk [Amb] (P : Program) (cf : CF) : Prop := ∀ f args A k, cf f args A k = true → ∀ E W args', Rel E A W → concs E args = some args' →
  (∃ fn : Func, P.funcs[f]? = some fn ∧ fn.body.isNone = false) ∧ Calls P f args'.toArray W fun e W' => ∃ v, e = .returned v ∧ Post E A W k v W'

/-- What a round of a range over a function may come to. -/
abbrev RD := Nat → List AV → AH → (AV → AH → Bool) → Bool
structure HK where
  cf : CF
  rd : RD

def RdOk [Amb] (P : Program) (rd : RD) : Prop := ∀ id args A k, rd id args A k = true → ∀ E W args' x, Rel E A W → concs E args = some args' → E.blk id = some x →
  ∃ r : Loop, W.heap[x.1]? = some (.loop r) ∧ args'.length = r.params.size ∧
    RoundIn Fence.wide 0 P x.1 r.fn ((r.params.zip args'.toArray).foldl (fun tmps (t, a) => tmps.setIfInBounds t a) r.tmps) r.assign r.body W fun e W' => ∃ v, e = .returned v ∧ Post E A W k v W'

structure HkOk [Amb] (P : Program) (h : HK) : Prop where
  cf : CallOk P h.cf
  rd : RdOk P h.rd

/-- A fence that lets everything in. -/
structure Wide (F : Fence) : Prop where
  fn : ∀ f, F.fn f
  depth : F.depth = none
  calls : ∀ (P : Program) f args W R, CallsIn Fence.wide 0 P f args W R → CallsIn F 0 P f args W R
  rounds : ∀ (P : Program) l f tmps (as bd : Code) W R, RoundIn Fence.wide 0 P l f tmps as bd W R → RoundIn F 0 P l f tmps as bd W R
theorem Wide.wide : Wide Fence.wide := ⟨fun _ => trivial, rfl, fun _ _ _ _ _ h => h, fun _ _ _ _ _ _ _ _ h => h⟩
theorem Wide.inRound (l : Nat) : Wide (Fence.wide.inRound l) := ⟨fun _ => trivial, rfl, fun _ _ _ _ _ h => h, fun _ _ _ _ _ _ _ _ h => h⟩

/-- What an operation comes to. -/
def OpOk (P : Program) (o : Oper) (ρc : Operand → Value) (W : World) (R : Value → World → Prop) : Prop :=
  match (execOp ρc o).run P W with
  | .ok (.value v) W' => R v W'
  | .ok .skip W' => R undef W'
  | .ok (.enter f args) W' => Calls P f args W' fun e W'' => ∃ v, e = .returned v ∧ R v W''
  | .ok (.round l f tmps as bd) W' => RoundIn Fence.wide 0 P l f tmps as bd W' fun e W'' => ∃ v, e = .returned v ∧ R v W''
  | _ => False

theorem OpOk.noDefer {P : Program} {o : Oper} {ρc : Operand → Value} {W : World} {R : Value → World → Prop} (h : OpOk P o ρc W R) (c : Call) : o.op ≠ .defer c := by
  intro he
  unfold OpOk at h
  have e : execOp ρc o = (do pure (.defer (← resolve ρc c o.type))) := by unfold execOp; rw [he]
  rw [e, Sem.run_bind] at h
  cases hq : (resolve ρc c o.type).run P W with
  | ok d w => rw [hq] at h; simp at h
  | halt x w => rw [hq] at h; simp at h

theorem OpOk.wp {P : Program} {F : Fence} (hF : Wide F) {o : Oper} {a : Act} {W : World} {R : Value → World → Prop} {next : Act → World → Prop} {Q : Exit → Act → World → Prop}
    (h : OpOk P o a.eval W R) (hn : ∀ v W', R v W' → next (a.put o.dst v) W') : o.wpIn F 0 P a W next Q := by
  have hd := h.noDefer
  refine ⟨fun f _ => hF.fn f, ?_⟩
  rw [Oper.semAt_eq _ _ _ hd]
  unfold OpOk at h
  have dn : F.depth.isSome = true → 1 ≤ 0 := fun h => by rw [hF.depth] at h; cases h
  generalize (execOp a.eval o).run P W = r at *
  cases r with
  | halt x w => exact h.elim
  | ok x w =>
    cases x <;> simp only at h <;> simp only [Oper.uponIn] <;> first
      | exact hn _ _ h
      | exact h.elim
      | (refine ⟨dn, hF.calls _ _ _ _ _ (callsIn_wide.2 (Calls.mono h fun e W' he => ?_))⟩
         obtain ⟨v, rfl, hv⟩ := he
         exact hn _ _ hv)
      | (refine ⟨dn, hF.rounds _ _ _ _ _ _ _ _ (RoundIn.mono h fun e W' he => ?_)⟩
         obtain ⟨v, rfl, hv⟩ := he
         exact hn _ _ hv)

/-! ### The steps -/
noncomputable def madeK (m : Option Made) (A : AH) (k : AV → AH → Bool) : Bool := match m with
  | some m => k (m.val A.next) (newObjA A m.obj)
  | none => false
noncomputable def skipK (r : Option AH) (k : AV → AH → Bool) : Bool := match r with
  | some A => k (.tuple []) A
  | none => false
noncomputable def pairK (r : Option (AV × AH)) (k : AV → AH → Bool) : Bool := match r with
  | some p => k p.1 p.2
  | none => false
noncomputable def altsK (r : Option (List (AV × AH))) (k : AV → AH → Bool) : Bool := match r with
  | some l => lall (fun p => k p.1 p.2) l
  | none => false
noncomputable def valK (r : Option AV) (A : AH) (k : AV → AH → Bool) : Bool := match r with
  | some v => k v A
  | none => false

noncomputable def two (l : Option (List AV)) : Option (AV × AV) := match l with
  | some [a, b] => some (a, b)
  | _ => none
noncomputable def one (l : Option (List AV)) : Option AV := match l with
  | some [a] => some a
  | _ => none
/-- The zero value that append may want must be there. -/
noncomputable def zeroOk (P : Program) (t : TypeId) : Bool := match elemA P t with
  | some (e, i) => (match zeroA P e with | some z => Nat.beq (llen (cellsA z)) i.size | none => false)
  | none => false
/-- Numbers that are not both known, held against one another: either answer. -/
noncomputable def forkV (x y : AV) : Bool := match x with
  | .int k _ => (match y with | .symi l _ => kq k l | _ => false)
  | .symi k _ => (match y with | .symi l _ => kq k l | .int l _ => kq k l | _ => false)
  | _ => false
/-- The greater one of two: either. -/
noncomputable def maxK (q : Option AV) (xs : Option (List AV)) (A : AH) (k : AV → AH → Bool) : Bool := match q with
  | some v => k v A
  | none => (match two xs with
    | some p => cond (forkV p.1 p.2) (cond (k p.1 A) (k p.2 A) false) false
    | none => false)
noncomputable def biK (P : Program) (b : Builtin) (ts : List TypeId) (xs : Option (List AV)) (A : AH) (q : Option AV) (k : AV → AH → Bool) : Bool := match b with
  | .append => (match ts with
    | [st, xt] => cond (zeroOk P st) (match two xs with | some p => pairK (appendA P st xt p.1 p.2 A) k | none => false) false
    | _ => false)
  | .copy => (match ts with
    | t :: _ => (match two xs with | some p => pairK (copyA P t p.1 p.2 A) k | none => false)
    | _ => false)
  | .delete => (match ts with
    | t :: _ => (match two xs with | some p => skipK (deleteA P t p.1 p.2 A) k | none => false)
    | _ => false)
  | .clear => (match ts with
    | t :: _ => (match one xs with | some x => skipK (clearA P t x A) k | none => false)
    | _ => false)
  | .max => maxK q xs A k
  | _ => valK q A k
noncomputable def callK (cf : HK) (f : Option AV) (xs : Option (List AV)) (A : AH) (k : AV → AH → Bool) : Bool := match f with
  | some (.func (.func g) first cap) => (match xs with
    | some l => cf.cf g (lapp (lapp first l) cap) A k
    | none => false)
  | some (.yld id) => (match xs with
    | some l => cf.rd id l A k
    | none => false)
  | _ => false
noncomputable def storeK (P : Program) (t : TypeId) (a v : Option AV) (A : AH) (k : AV → AH → Bool) : Bool := match a with
  | some x => (match v with | some y => skipK (storeA P t x y A) k | none => false)
  | none => false
noncomputable def updK (P : Program) (t : TypeId) (m q v : Option AV) (A : AH) (k : AV → AH → Bool) : Bool := match m with
  | some m => (match q with | some q => (match v with | some v => skipK (mapUpdateA P t m q v A) k | none => false) | none => false)
  | none => false

noncomputable def isCmp (op : BinOp) : Bool := match op with
  | .eql => true | .neq => true | .lss => true | .leq => true | .gtr => true | .geq => true
  | _ => false
noncomputable def uptoK (k : IntKind) (n : Nat) : List AV := Nat.rec (motive := fun _ => List AV) [] (fun j ih => .int k (.ofNat j) :: ih) n
noncomputable def remV (op : BinOp) (v w : AV) : List AV := match op with
  | .rem => (match v with
    | .symi k _ => (match w with
      | .int k' n => (match n with
        | .ofNat n => cond (kq k k') (cond (Nat.beq n 0) [] (cond (Nat.ble n 4) (uptoK k n) [])) []
        | _ => [])
      | _ => [])
    | _ => [])
  | _ => []
noncomputable def altQ (op : Op) (ρ : Operand → Option AV) : List AV := match op with
  | .binOp op _ x y _ => (match ρ x with
    | some v => (match ρ y with
      | some w => cond (isCmp op) (cond (forkV v w) [.bool true, .bool false] []) (remV op v w)
      | none => [])
    | none => [])
  | _ => []
noncomputable def lastK (r : Option AV) (l : List AV) (A : AH) (k : AV → AH → Bool) : Bool := match r with
  | some v => k v A
  | none => (match l with
    | [] => false
    | x :: l => lall (fun v => k v A) (x :: l))

noncomputable def execK (P : Program) (cf : HK) (op : Op) (ρ : Operand → Option AV) (A : AH) (k : AV → AH → Bool) : Bool := match op with
  | .alloc t => madeK (allocA P t) A k
  | .box _ x => madeK (match ρ x with | some v => boxA v | none => none) A k
  | .buildSlice t n ps => madeK (match partsA ρ ps.toList with | some l => buildSliceA P t n l | none => none) A k
  | .makeSlice t l c => madeK (match ρ l with | some x => (match ρ c with | some y => makeSliceA P t x y | none => none) | none => none) A k
  | .makeMap t r => madeK (makeMapA P t (optA ρ r)) A k
  | .store t a v => storeK P t (ρ a) (ρ v) A k
  | .mapUpdate t m q v => updK P t (ρ m) (ρ q) (ρ v) A k
  | .insert t m q v => updK P t (ρ m) (ρ q) (ρ v) A k
  | .range t x => pairK (match ρ x with | some v => rangeA P t v A | none => none) k
  | .next it s => cond s false (altsK (match ρ it with | some v => nextA v A | none => none) k)
  | .entry it => valK (match ρ it with | some v => entryA v A | none => none) A k
  | .call c => (match c.callee with
    | .builtin b => biK P b c.argTypes.toList (mapO ρ c.args.toList) A (callQ P c ρ A) k
    | .value f => callK cf (ρ f) (mapO ρ c.args.toList) A k
    | .invoke _ _ => false)
  | op => lastK (evQ P op ρ A) (altQ op ρ) A k

/-- The program's functions: none of those that the model steps in for. -/
structure PWF (P : Program) : Prop where
  mixed : P.follows .mixedOrders = true
  names : ∀ (f : FuncId) (fn : Func), P.funcs[f]? = some fn → (fn.name == "runtime.NumGoroutine") = false

theorem cond_some' {c : Bool} {x : Bool} (h : cond c x false = true) : c = true ∧ x = true := by cases c <;> simp_all

section
variable {P : Program} {W : World} {E : Env} {A : AH} {ρ : Operand → Option AV} {ρc : Operand → Value} {k : AV → AH → Bool}

theorem madeK_post [Amb] {m : Option Made} (hr : Rel E A W) (h : madeK m A k = true) {s : Sem Value} (hm : ∀ m', m = some m' → MadeOk P E m' W s) :
    ∃ v' W', s.run P W = .ok v' W' ∧ Post E A W k v' W' := by
  unfold madeK at h
  split at h
  case h_2 => cases h
  rename_i m'
  obtain ⟨b, v', kappa, k1, k2, k3⟩ := hm m' rfl
  obtain ⟨g1, g2⟩ := hr.new (o := m'.obj) (b := b) kappa (k2 _ (Env.bind_le (hr.fresh _ (Nat.le_refl _))))
  exact ⟨v', _, k1, _, _, _, h, k3 _ _ Env.bind_same, g1, g2⟩

theorem two_some {l : Option (List AV)} {p : AV × AV} (h : two l = some p) : l = some [p.1, p.2] := by
  unfold two at h
  split at h
  · cases h; rfl
  · cases h
theorem one_some {l : Option (List AV)} {p : AV} (h : one l = some p) : l = some [p] := by
  unfold one at h
  split at h
  · cases h; rfl
  · cases h
theorem args_two (hρ : Opnds E ρ ρc) {l : Array Operand} {a b : AV} (h : mapO ρ l.toList = some [a, b]) : ∃ a' b', conc E a = some a' ∧ conc E b = some b' ∧ l.map ρc = #[a', b'] := by
  have := mapO_ops hρ _ _ h
  obtain ⟨a', _, h1, h2, e1⟩ := concs_cons this
  obtain ⟨b', _, h3, h4, e2⟩ := concs_cons h2
  have := concs_nil h4; subst this
  subst e2
  refine ⟨a', b', h1, h3, ?_⟩
  apply Array.toList_inj.1; simpa using e1
theorem args_one (hρ : Opnds E ρ ρc) {l : Array Operand} {a : AV} (h : mapO ρ l.toList = some [a]) : ∃ a', conc E a = some a' ∧ l.map ρc = #[a'] := by
  have := mapO_ops hρ _ _ h
  obtain ⟨a', _, h1, h2, e1⟩ := concs_cons this
  have := concs_nil h2; subst this
  refine ⟨a', h1, ?_⟩
  apply Array.toList_inj.1; simpa using e1

theorem zeroOk_spec {t : TypeId} (h : zeroOk P t = true) : ∃ z, zeroA P (match elemA P t with | some (e, _) => e | none => 0) = some z ∧
      llen (cellsA z) = (match elemA P t with | some (_, i) => i.size | none => 0) := by
  unfold zeroOk at h
  split at h
  case h_2 => cases h
  rename_i e i he
  split at h
  case h_2 => cases h
  rename_i z hz
  exact ⟨z, hz, Nat.eq_of_beq_eq_true h⟩

theorem valK_ok [Amb] {o : Oper} {q : Option AV} (hr : Rel E A W) (h : valK q A k = true) (hq : ∀ v, q = some v → ∃ v', conc E v = some v' ∧ (execOp ρc o).run P W = .ok (.value v') W) : OpOk P o ρc W (Post E A W k) := by
  unfold valK at h
  split at h
  case h_2 => cases h
  rename_i v
  obtain ⟨v', h1, h2⟩ := hq v rfl
  unfold OpOk
  rw [h2]
  exact ⟨v, A, E, h, h1, hr, Step.refl _ _ _⟩

theorem forkV_int {x y : AV} (h : forkV x y = true) {x' y' : Value} (hx : conc E x = some x') (hy : conc E y = some y') : ∃ k a b, x' = .int k a ∧ y' = .int k b := by
  unfold forkV at h
  split at h
  · split at h
    case h_2 => cases h
    have := kq_eq h; subst this
    obtain ⟨_, rfl⟩ := conc_symi hy
    simp only [conc, Option.some.injEq] at hx
    exact ⟨_, _, _, hx.symm, rfl⟩
  · split at h
    case h_3 => cases h
    · have := kq_eq h; subst this
      obtain ⟨_, rfl⟩ := conc_symi hx
      obtain ⟨_, rfl⟩ := conc_symi hy
      exact ⟨_, _, _, rfl, rfl⟩
    · have := kq_eq h; subst this
      obtain ⟨_, rfl⟩ := conc_symi hx
      simp only [conc, Option.some.injEq] at hy
      exact ⟨_, _, _, rfl, hy.symm⟩
  · cases h
theorem cmp_run {op : BinOp} (h : isCmp op = true) (t : TypeId) (k : IntKind) (a b : Int) : ∃ r : Bool, (binOp op t (.int k a) (.int k b)).run P W = .ok (.bool r) W := by
  cases op <;> first
    | (exact absurd (show false = true from h) (by decide))
    | (exact ⟨_, by rw [binOp_eql]; rfl⟩)
    | (exact ⟨_, by rw [binOp_neq]; rfl⟩)
    | (exact ⟨_, by rw [binOp_lss]; rfl⟩)
    | (exact ⟨_, by rw [binOp_leq]; rfl⟩)
    | (exact ⟨_, by rw [binOp_gtr]; rfl⟩)
    | (exact ⟨_, by rw [binOp_geq]; rfl⟩)
theorem uptoK_mem {k : IntKind} {j : Nat} : ∀ {n : Nat}, j < n → AV.int k (.ofNat j) ∈ uptoK k n := by
  intro n
  induction n with
  | zero => intro h; omega
  | succ n ih =>
    intro h
    show _ ∈ AV.int k (.ofNat n) :: uptoK k n
    by_cases e : j = n
    · subst e; exact List.mem_cons_self
    · exact List.mem_cons_of_mem _ (ih (by omega))
theorem altQ_ok {o : Oper} (hρ : Opnds E ρ ρc) {x : AV} {l : List AV} (h : altQ o.op ρ = x :: l) : ∃ v ∈ altQ o.op ρ, ∃ v', conc E v = some v' ∧ (execOp ρc o).run P W = .ok (.value v') W := by
  have h0 := h
  unfold altQ at h0
  split at h0
  case h_2 => cases h0
  rename_i op t a b u he
  split at h0
  case h_2 => cases h0
  rename_i v hv
  split at h0
  case h_2 => cases h0
  rename_i w hw
  have eq : altQ o.op ρ = cond (isCmp op) (cond (forkV v w) [.bool true, .bool false] []) (remV op v w) := by
    unfold altQ; simp only [he, hv, hw]
  rw [eq]
  have run : ∀ {k : IntKind} {p q : Int} {r : Value}, ρc a = .int k p → ρc b = .int k q → (binOp op t (.int k p) (.int k q)).run P W = .ok r W → (execOp ρc o).run P W = .ok (.value r) W := by
    intro k p q r e1 e2 hrun
    unfold execOp
    rw [he]
    simp [e1, e2, eqGuard_at_int, hrun]
  cases hc : isCmp op with
  | true =>
    rw [hc, cond_true] at h0
    cases hf : forkV v w with
    | false => rw [hf] at h0; cases h0
    | true =>
      obtain ⟨k', p, q, e1, e2⟩ := forkV_int hf (hρ _ _ hv) (hρ _ _ hw)
      obtain ⟨r, hrun⟩ := cmp_run (P := P) (W := W) hc t k' p q
      refine ⟨.bool r, ?_, .bool r, rfl, run e1 e2 hrun⟩
      cases r <;> simp
  | false =>
    rw [hc, cond_false] at h0
    rw [cond_false]
    unfold remV at h0
    split at h0
    case h_2 => cases h0
    split at h0
    case h_2 => cases h0
    rename_i k s
    split at h0
    case h_2 => cases h0
    rename_i k' n0
    split at h0
    case h_2 => cases h0
    rename_i n
    cases hk : kq k k' with
    | false => rw [hk] at h0; cases h0
    | true =>
      have := kq_eq hk; subst this
      rw [hk, cond_true] at h0
      cases hz : Nat.beq n 0 with
      | true => rw [hz] at h0; cases h0
      | false =>
        rw [hz, cond_false] at h0
        cases h4 : Nat.ble n 4 with
        | false => rw [h4] at h0; cases h0
        | true =>
          have hn := Nat.ne_of_beq_eq_false hz
          obtain ⟨hs, e1⟩ := conc_symi (hρ _ _ hv)
          obtain ⟨q, _, _, _, e, _, _⟩ := Sy.nat hs
          have e2 := hρ _ _ hw
          simp only [conc, Option.some.injEq] at e2
          rw [e] at e1
          refine ⟨.int k (.ofNat ((s.k * q + s.c) % n)), ?_, _, rfl, run e1 e2.symm (rem_run _ _ _ hn)⟩
          show _ ∈ remV .rem (.symi k s) (.int k (.ofNat n))
          unfold remV
          simp only [hk, cond_true, hz, cond_false, h4]
          exact uptoK_mem (Nat.mod_lt _ (by omega))
theorem lastK_ok [Amb] {o : Oper} {q : Option AV} (hr : Rel E A W) (hρ : Opnds E ρ ρc) (h : lastK q (altQ o.op ρ) A k = true) (hq : ∀ v, q = some v → ∃ v', conc E v = some v' ∧ (execOp ρc o).run P W = .ok (.value v') W) : OpOk P o ρc W (Post E A W k) := by
  unfold lastK at h
  split at h
  · rename_i v
    obtain ⟨v', h1, h2⟩ := hq v rfl
    unfold OpOk
    rw [h2]
    exact ⟨v, A, E, h, h1, hr, Step.refl _ _ _⟩
  · split at h
    · cases h
    · rename_i x l hl
      obtain ⟨v, h1, v', h2, h3⟩ := altQ_ok (P := P) (W := W) hρ hl
      rw [hl] at h1
      unfold OpOk
      rw [h3]
      exact ⟨v, A, E, lall_eq _ _ h v h1, h2, hr, Step.refl _ _ _⟩

theorem execK_sound [Amb] (hw : PWF P) {cf : HK} (hcf : HkOk P cf) (hr : Rel E A W) (hρ : Opnds E ρ ρc) {o : Oper} (h : execK P cf o.op ρ A k = true) : OpOk P o ρc W (Post E A W k) := by
  have made : ∀ {m : Option Made} {s : Sem Value}, madeK m A k = true → (execOp ρc o = (do pure (.value (← s)))) → (∀ m', m = some m' → MadeOk P E m' W s) → OpOk P o ρc W (Post E A W k) := by
    intro m s h1 h2 h3
    obtain ⟨v', W', k1, k2⟩ := madeK_post hr h1 h3
    unfold OpOk
    rw [h2]
    simp only [Sem.run_bind, k1, Result.andThen_ok, Sem.run_pure]
    exact k2
  have upd : ∀ {t : TypeId} {m q v : Operand}, updK P t (ρ m) (ρ q) (ρ v) A k = true → (execOp ρc o = (do Instr.mapUpdate t (ρc m) (ρc q) (ρc v); pure .skip)) → OpOk P o ρc W (Post E A W k) := by
    intro t m q v h1 h2
    unfold updK at h1
    split at h1
    case h_2 => cases h1
    rename_i m1 hm1
    split at h1
    case h_2 => cases h1
    rename_i q1 hq1
    split at h1
    case h_2 => cases h1
    rename_i v1 hv1
    unfold skipK at h1
    split at h1
    case h_2 => cases h1
    rename_i A1 hA1
    obtain ⟨W', g1, g2, g3⟩ := mapUpdateA_sound hr hA1 (hρ _ _ hm1) (hρ _ _ hq1) (hρ _ _ hv1)
    unfold OpOk
    rw [h2]
    simp only [Sem.run_bind, g1, Result.andThen_ok, Sem.run_pure]
    exact ⟨_, A1, E, h1, rfl, g2, g3⟩
  unfold execK at h
  split at h
  · rename_i t he
    exact made h (by unfold execOp; rw [he]) fun m' hm => allocA_ok hm
  · rename_i t x he
    refine made h (by unfold execOp; rw [he]) fun m' hm => ?_
    split at hm
    · rename_i v hv; exact boxA_ok hm (hρ _ _ hv)
    · cases hm
  · rename_i t n ps he
    refine made h (by unfold execOp; rw [he]) fun m' hm => ?_
    split at hm
    · rename_i l hl
      refine buildSliceA_ok hm ?_
      simpa using partsA_sound hρ _ _ hl
    · cases hm
  · rename_i t l c he
    refine made h (by unfold execOp; rw [he]) fun m' hm => ?_
    split at hm
    case h_2 => cases hm
    rename_i x hx
    split at hm
    case h_2 => cases hm
    rename_i y hy
    exact makeSliceA_ok hm (hρ _ _ hx) (hρ _ _ hy)
  · rename_i t r he
    refine made h (by unfold execOp; rw [he]) fun m' hm => ?_
    cases hro : optA ρ r with
    | none => rw [hro] at hm; cases hm
    | some r' => rw [hro] at hm; exact makeMapA_ok hm (optA_rel hρ hro)
  · rename_i t a v he
    unfold storeK at h
    split at h
    case h_2 => cases h
    rename_i x hx
    split at h
    case h_2 => cases h
    rename_i y hy
    unfold skipK at h
    split at h
    case h_2 => cases h
    rename_i A1 hA1
    obtain ⟨W', g1, g2, g3⟩ := storeA_sound (P := P) hr hA1 (hρ _ _ hx) (hρ _ _ hy)
    unfold OpOk
    have e : execOp ρc o = (do Instr.storeAt t (ρc a) (ρc v); pure .skip) := by unfold execOp; rw [he]
    rw [e]
    simp only [Sem.run_bind, g1, Result.andThen_ok, Sem.run_pure]
    exact ⟨_, A1, E, h, rfl, g2, g3⟩
  · rename_i t m q v he
    exact upd h (by unfold execOp; rw [he])
  · rename_i t m q v he
    exact upd h (by unfold execOp; rw [he])
  · rename_i t x he
    unfold pairK at h
    split at h
    case h_2 => cases h
    rename_i p hp
    split at hp
    case h_2 => cases hp
    rename_i v hv
    obtain ⟨v', W', E', g1, g2, g3, g4⟩ := rangeA_sound (P := P) hr (v := p.1) (A' := p.2) (by rw [hp]) (hρ _ _ hv)
    unfold OpOk
    have e : execOp ρc o = (do pure (.value (← Instr.range t (ρc x)))) := by unfold execOp; rw [he]
    rw [e]
    simp only [Sem.run_bind, g1, Result.andThen_ok, Sem.run_pure]
    exact ⟨_, _, E', h, g2, g3, g4⟩
  · rename_i it s he
    cases s with
    | true => cases h
    | false =>
      simp only [cond_false] at h
      unfold altsK at h
      split at h
      case h_2 => cases h
      rename_i l hl
      split at hl
      case h_2 => cases hl
      rename_i v hv
      obtain ⟨v1, A1, v', W', g0, g1, g2, g3, g4⟩ := nextA_sound (P := P) hr hl (hρ _ _ hv) o.type
      unfold OpOk
      have e : execOp ρc o = (do pure (.value (← Instr.next (ρc it) false o.type))) := by unfold execOp; rw [he]
      rw [e]
      simp only [Sem.run_bind, g1, Result.andThen_ok, Sem.run_pure]
      exact ⟨v1, A1, E, lall_eq _ _ h _ g0, g2, g3, g4⟩
  · rename_i it he
    refine valK_ok hr h fun v hv => ?_
    split at hv
    case h_2 => cases hv
    rename_i x hx
    obtain ⟨v', g1, g2⟩ := entryA_sound (P := P) hr hv (hρ _ _ hx)
    have e : execOp ρc o = (do pure (.value (← Instr.entry (ρc it)))) := by unfold execOp; rw [he]
    exact ⟨v', g1, by rw [e]; simp [g2]⟩
  · rename_i c he
    split at h
    · rename_i b hb
      have eo : execOp ρc o = (do let d ← resolve ρc c o.type; invoke d.target d.args) := by unfold execOp; rw [he]
      have e : (execOp ρc o).run P W = (builtin b c.argTypes o.type (c.args.map fun | .const _ => true | _ => false) (c.args.map ρc)).run P W := by
        rw [eo]; simp [resolve, hb, invoke]; rfl
      unfold biK at h
      split at h
      · split at h
        case h_2 => cases h
        rename_i st xt hts
        obtain ⟨hz, h⟩ := cond_some' h
        split at h
        case h_2 => cases h
        rename_i p hp
        unfold pairK at h
        split at h
        case h_2 => cases h
        rename_i r hrr
        obtain ⟨a', b', g1, g2, g3⟩ := args_two hρ (two_some hp)
        obtain ⟨v', W', E', k1, k2, k3, k4⟩ := appendA_sound (P := P) (ty := o.type) hr (v := r.1) (A' := r.2) (by rw [hrr]) (zeroOk_spec hz) g1 g2
        have e1 : c.argTypes = #[st, xt] := by apply Array.toList_inj.1; simpa using hts
        unfold OpOk
        rw [e, g3, e1]
        simp only [builtin, Sem.run_bind, k1, Result.andThen_ok, Sem.run_pure]
        exact ⟨_, _, E', h, k2, k3, k4⟩
      · split at h
        case h_2 => cases h
        rename_i t ts hts
        split at h
        case h_2 => cases h
        rename_i p hp
        unfold pairK at h
        split at h
        case h_2 => cases h
        rename_i r hrr
        obtain ⟨a', b', g1, g2, g3⟩ := args_two hρ (two_some hp)
        have e1 : c.argTypes[0]? = some t := by rw [← Array.getElem?_toList, hts]; rfl
        obtain ⟨v', W', k1, k2, k3, k4⟩ := copyA_sound (P := P) (ty := o.type) hr (v := r.1) (A' := r.2) (by rw [hrr]) g1 g2 e1
        unfold OpOk
        rw [e, g3]
        simp only [builtin, Sem.run_bind, k1, Result.andThen_ok, Sem.run_pure]
        exact ⟨_, _, E, h, k2, k3, k4⟩
      · split at h
        case h_2 => cases h
        rename_i t ts hts
        split at h
        case h_2 => cases h
        rename_i p hp
        unfold skipK at h
        split at h
        case h_2 => cases h
        rename_i A1 hA1
        obtain ⟨a', b', g1, g2, g3⟩ := args_two hρ (two_some hp)
        have e1 : c.argTypes[0]? = some t := by rw [← Array.getElem?_toList, hts]; rfl
        obtain ⟨W', k1, k3, k4⟩ := deleteA_sound (P := P) (ty := o.type) hr hA1 g1 g2 e1
        unfold OpOk
        rw [e, g3]
        simp only [builtin, Sem.run_bind, k1, Result.andThen_ok, Sem.run_pure]
        exact ⟨_, _, E, h, rfl, k3, k4⟩
      · split at h
        case h_2 => cases h
        rename_i t ts hts
        split at h
        case h_2 => cases h
        rename_i x hx
        unfold skipK at h
        split at h
        case h_2 => cases h
        rename_i A1 hA1
        obtain ⟨a', g1, g3⟩ := args_one hρ (one_some hx)
        have e1 : c.argTypes[0]? = some t := by rw [← Array.getElem?_toList, hts]; rfl
        obtain ⟨W', k1, k3, k4⟩ := clearA_sound (P := P) (ty := o.type) hr hA1 g1 e1
        unfold OpOk
        rw [e, g3]
        simp only [builtin, Sem.run_bind, k1, Result.andThen_ok, Sem.run_pure]
        exact ⟨_, _, E, h, rfl, k3, k4⟩
      · unfold maxK at h
        split at h
        · rename_i v hv
          obtain ⟨v', h1, h2⟩ := evQ_sound (P := P) hr hρ (o := o) (v := v) (by rw [he]; exact hv)
          unfold OpOk
          rw [h2]
          exact ⟨v, A, E, h, h1, hr, Step.refl _ _ _⟩
        · split at h
          case h_2 => cases h
          rename_i p hp
          obtain ⟨hf, h1⟩ := cond_some' h
          obtain ⟨h2, h3⟩ := cond_some' h1
          obtain ⟨a', b', g1, g2, g3⟩ := args_two hρ (two_some hp)
          obtain ⟨kk, x, y, rfl, rfl⟩ := forkV_int hf g1 g2
          unfold OpOk
          rw [e, g3]
          by_cases hxy : x < y
          · simp only [builtin, Builtin.max_, Builtin.max2, hxy]
            simp
            exact ⟨_, A, E, h3, by rw [if_pos (show y > x from hxy)]; exact g2, hr, Step.refl _ _ _⟩
          · simp only [builtin, Builtin.max_, Builtin.max2, hxy]
            simp
            exact ⟨_, A, E, h2, by rw [if_neg (show ¬ y > x from hxy)]; exact g1, hr, Step.refl _ _ _⟩
      · refine valK_ok hr h fun v hv => ?_
        refine evQ_sound hr hρ (o := o) ?_
        rw [he]
        exact hv
    · rename_i f hf
      unfold callK at h
      split at h
      case h_3 => cases h
      case h_2 id hfv =>
        split at h
        case h_2 => cases h
        rename_i l hl
        have hfc := hρ _ _ hfv
        simp only [conc, Option.map_eq_some_iff] at hfc
        obtain ⟨x, hx, hval⟩ := hfc
        have hargs := mapO_ops hρ _ _ hl
        obtain ⟨r, k1, k2, k3⟩ := hcf.rd _ _ _ _ h E W _ x hr hargs hx
        have eo : execOp ρc o = (do let d ← resolve ρc c o.type; invoke d.target d.args) := by unfold execOp; rw [he]
        have e : (execOp ρc o).run P W = .ok (.round x.1 r.fn ((r.params.zip (c.args.map ρc)).foldl (fun tmps (t, a) => tmps.setIfInBounds t a) r.tmps) r.assign r.body) W := by
          have hsz : c.args.size = r.params.size := by simpa using k2
          rw [eo]
          simp [resolve, hf, ← hval, Deferred.ofValue, invoke, Instr.yield, Instr.getLoop, run_getObj_loop k1, hsz]
        have e2 : (c.args.toList.map ρc).toArray = c.args.map ρc := by apply Array.toList_inj.1; simp
        unfold OpOk
        rw [e, ← e2]
        exact k3
      rename_i g first cap hfv
      split at h
      case h_2 => cases h
      rename_i l hl
      have hfc := hρ _ _ hfv
      simp only [conc, Option.bind_eq_some_iff, Option.map_eq_some_iff] at hfc
      obtain ⟨fs, hfs, cs, hcs, hval⟩ := hfc
      have hargs := mapO_ops hρ _ _ hl
      have hall : concs E (lapp (lapp first l) cap) = some (fs ++ c.args.toList.map ρc ++ cs) := by
        rw [lapp_eq, lapp_eq]
        exact concs_append (concs_append hfs hargs) hcs
      have ⟨⟨fn, hfn, hbody⟩, hc⟩ := hcf.cf _ _ _ _ h E W _ hr hall
      -- the model's way into the call
      have eo : execOp ρc o = (do let d ← resolve ρc c o.type; invoke d.target d.args) := by unfold execOp; rw [he]
      have earr : (fs ++ c.args.toList.map ρc ++ cs).toArray = fs.toArray ++ c.args.map ρc ++ cs.toArray := by apply Array.toList_inj.1; simp
      have e : (execOp ρc o).run P W = .ok (.enter g (fs.toArray ++ c.args.map ρc ++ cs.toArray)) W := by
        have hne : fn.name ≠ "runtime.NumGoroutine" := by simpa using hw.names _ _ hfn
        have hbn : fn.body ≠ none := by intro hx; rw [hx] at hbody; cases hbody
        rw [eo]
        simp [resolve, hf, ← hval, Deferred.ofValue, invoke, callFunc, hfn, hne, hbn]
      unfold OpOk
      rw [e, ← earr]
      exact hc
    · cases h
  · refine lastK_ok hr hρ h fun v hv => evQ_sound hr hρ hv
end
end Go.PE
