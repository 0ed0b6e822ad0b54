/-
  THE ENGINE, 10: maps looked up; every quiet operation in one function.
-/
import Derived.Test.YtmnjpaholemebaaGreatDoorE9
namespace Go.PE
open Go

section
variable {P : Program} {W : World} {E : Env} {A : AH}

theorem bytes_beq (a b : ByteArray) : (a == b) = (a.data.toList == b.data.toList) := by
  cases a with | mk x => cases b with | mk y =>
  show (x == y) = _
  rw [Bool.eq_iff_iff, beq_iff_eq, beq_iff_eq]
  exact ⟨fun h => by rw [h], fun h => Array.toList_inj.1 h⟩

/-- The cells of a key, and whether its type is of several. -/
theorem key_cells {ag : Bool} {ks : List CK} {x : Value} (hf : fits ks x.cells.toList) (hag : ag = false → ks.length = 1) (hx : ag = (match x with | .agg _ => true | _ => false)) : x = mkV ag x.cells.toList := by
  cases x <;> simp only at hx <;> subst hx <;> simp [mkV, Value.cells]

theorem sameNow_one {t : TypeId} {k : CK} {d : TypeDesc} (hk : keyKs P t = some (false, [k])) (hu : und P t = some d) {x y : Value} (hx : fit1 k x) (hy : fit1 k y) : Instr.sameNow d x y = some (eq1 x y) := by
  unfold keyKs at hk
  rw [hu] at hk
  cases d <;> simp only at hk
  case bool => cases hk; cases x <;> simp only [fit1] at hx; cases y <;> simp only [fit1] at hy; rfl
  case int q =>
    cases hk; cases x <;> simp only [fit1] at hx; cases y <;> simp only [fit1] at hy
    subst hx; subst hy
    simp [Instr.sameNow, eq1]
  case string => cases hk; cases x <;> simp only [fit1] at hx; cases y <;> simp only [fit1] at hy; simp [Instr.sameNow, eq1, bytes_beq]
  all_goals (split at hk <;> cases hk)

/-- What a search comes to: the place and the value. -/
def FoundRel (E : Env) (a : Option (Nat × AV)) (b : Option (Nat × Value)) : Prop :=
  match a, b with
  | none, none => True
  | some (i, v), some (j, x) => i = j ∧ conc E v = some x
  | _, _ => False

theorem findA_cons (ks : List CK) (k : List AV) (e : AV × AV × Nat) (es : List (AV × AV × Nat)) (i : Nat) :
    findA ks k (e :: es) i = (match eqsA ks k (cellsA e.1) with
    | some b => cond b (some (some (i, e.2.1))) (findA ks k es (Nat.succ i))
    | none => none) := rfl

/-- A fitting value is written by its cells. -/
def Shape (ag : Bool) (x : Value) : Prop := x = mkV ag x.cells.toList

theorem find_sound {t : TypeId} {ag : Bool} {ks : List CK} (hk : keyKs P t = some (ag, ks)) {k : AV} {k' : Value} (hck : conc E k = some k') (hsk : Shape ag k') :
    ∀ (es : List (AV × AV × Nat)) (ces : List MapEntry) (i : Nat) (r : Option (Nat × AV)), F2 (EntryRel E) es ces → (∀ e ∈ ces, Shape ag e.key) → findA ks (cellsA k) es i = some r →
      ∃ r', FoundRel E r r' ∧ (Instr.findAsking t k' ces i).run P W = .ok r' W ∧ (∀ d, und P t = some d → Instr.findNow d k' ces i = some r' ∨ Instr.findNow d k' ces i = none)
  | [], _, i, r, .nil, _, h => by
    cases h
    exact ⟨none, trivial, rfl, fun d _ => .inl rfl⟩
  | e :: es, _, i, r, .cons (b := ce) he hes, hs, h => by
    rw [findA_cons] at h
    split at h
    case h_2 => cases h
    rename_i b hb
    obtain ⟨g1, g2, g3, g4⟩ := keyKs_facts (P := P) (W := W) hk
    obtain ⟨f1, f2, f3⟩ := eqsA_sound hb (cellsA_conc hck) (cellsA_conc he.1)
    have heq := g2 _ _ f1 f2
    rw [← hsk, ← hs ce (by simp), f3] at heq
    have hnow : ∀ d, und P t = some d → Instr.sameNow d k' ce.key = some b ∨ Instr.sameNow d k' ce.key = none := by
      intro d hd
      cases ag with
      | false =>
        left
        have hl := g3 rfl
        match ks, hl, f1, f2, hk with
        | [k0], _, f1, f2, hk =>
          obtain ⟨x, hx, h1⟩ := fits_one f1
          obtain ⟨y, hy, h2⟩ := fits_one f2
          have ex : k' = x := by rw [hsk, hx]; rfl
          have ey : ce.key = y := by rw [hs ce (by simp), hy]; rfl
          rw [ex, ey, sameNow_one hk hd h1 h2, ← f3, hx, hy]
          simp [eqs]
      | true =>
        right
        have ex : k' = .agg k'.cells.toList.toArray := hsk
        rw [ex]
        cases d <;> rfl
    cases b with
    | true =>
      simp only [cond_true, Option.some.injEq] at h
      subst h
      refine ⟨some (i, ce.val), ⟨rfl, he.2.1⟩, ?_, ?_⟩
      · simp [Instr.findAsking, heq]
      · intro d hd
        rcases hnow d hd with h1 | h1 <;> simp [Instr.findNow, h1]
    | false =>
      simp only [cond_false] at h
      obtain ⟨r', k1, k2, k3⟩ := find_sound hk hck hsk es _ (i + 1) r hes (fun e he => hs e (by simp [he])) h
      refine ⟨r', k1, ?_, ?_⟩
      · simp [Instr.findAsking, heq, k2]
      · intro d hd
        rcases hnow d hd with h1 | h1
        · simp only [Instr.findNow, h1]; exact k3 d hd
        · right; simp [Instr.findNow, h1]

theorem findKey_sound {t : TypeId} {ag : Bool} {ks : List CK} (hk : keyKs P t = some (ag, ks)) {k : AV} {k' : Value} (hck : conc E k = some k') (hsk : Shape ag k')
    {es : List (AV × AV × Nat)} {ces : List MapEntry} {r : Option (Nat × AV)} (hes : F2 (EntryRel E) es ces) (hs : ∀ e ∈ ces, Shape ag e.key) (h : findA ks (cellsA k) es 0 = some r) :
      ∃ r', FoundRel E r r' ∧ (Instr.findKey t k' ces).run P W = .ok r' W := by
  obtain ⟨r', k1, k2, k3⟩ := find_sound (W := W) hk hck hsk es ces 0 r hes hs h
  obtain ⟨_, _, _, d, hd⟩ := keyKs_facts (P := P) (W := W) hk
  refine ⟨r', k1, ?_⟩
  simp only [Instr.findKey, Sem.run_bind, run_und hd, Result.andThen_ok]
  rcases k3 d hd with h1 | h1
  · rw [h1]; rfl
  · rw [h1]; exact k2

/-- Is an abstract value of several cells just if it is wanted so? -/
noncomputable def shapeA (ag : Bool) (v : AV) : Bool := match v with
  | .agg _ => ag
  | .bool _ => !ag
  | .int _ _ => !ag
  | .str _ => !ag
  | .symi _ _ => !ag
  | _ => false
theorem shapeA_sound {ag : Bool} {v : AV} (h : shapeA ag v = true) {x : Value} (hx : conc E v = some x) : Shape ag x := by
  unfold shapeA at h
  split at h
  · subst h; obtain ⟨xs, _, rfl⟩ := conc_agg hx; rfl
  all_goals first
    | (simp only [conc, Option.some.injEq] at hx; subst hx; cases ag <;> first | rfl | cases h)
    | (simp only [conc] at hx; split at hx <;> cases hx; cases ag <;> first | rfl | cases h)
    | cases h

noncomputable def lookupA (P : Program) (t : TypeId) (m k : AV) (ok : Bool) (A : AH) : Option AV :=
  match und P t with
  | some (.map kt et) => (match keyKs P kt with
    | some (ag, ks) => cond (shapeA ag k) (cond (keyOk ks (cellsA k)) (match m with
      | .nilmap => (match zeroA P et with | some z => some (cond ok (.tuple [z, .bool false]) z) | none => none)
      | .map b => (match A.heap.get b with
        | some (.map es _) => cond (lall (fun e => shapeA ag e.1) es) (match findA ks (cellsA k) es 0 with
          | some (some (_, v)) => some (cond ok (.tuple [v, .bool true]) v)
          | some none => (match zeroA P et with | some z => some (cond ok (.tuple [z, .bool false]) z) | none => none)
          | none => none) none
        | _ => none)
      | _ => none) none) none
    | none => none)
  | _ => none

theorem keyOk_fits {ks : List CK} {k : AV} {k' : Value} (h : keyOk ks (cellsA k) = true) (hc : conc E k = some k') : fits ks k'.cells.toList := by
  unfold keyOk at h
  split at h
  · rename_i b hb
    exact (eqsA_sound hb (cellsA_conc hc) (cellsA_conc hc)).1
  · cases h

theorem shapes_of' {ag : Bool} : ∀ {es : List (AV × AV × Nat)} {ces : List MapEntry}, (∀ e ∈ es, shapeA ag e.1 = true) → F2 (EntryRel E) es ces → ∀ e ∈ ces, Shape ag e.key
  | _, _, _, .nil => by simp
  | _, _, h, .cons r t => by
    intro e he
    rcases List.mem_cons.1 he with rfl | he
    · exact shapeA_sound (h _ (by simp)) r.1
    · exact shapes_of' (fun x hx => h x (by simp [hx])) t e he
theorem shapes_of {ag : Bool} {es : List (AV × AV × Nat)} {ces : List MapEntry} (h : lall (fun e => shapeA ag e.1) es = true) (hes : F2 (EntryRel E) es ces) : ∀ e ∈ ces, Shape ag e.key :=
  shapes_of' (lall_eq _ _ h) hes

theorem lookupA_sound [Amb] (hr : Rel E A W) {t : TypeId} {m k : AV} {ok : Bool} {v : AV} (h : lookupA P t m k ok A = some v) {m' k' : Value} (hm : conc E m = some m') (hk : conc E k = some k') :
    ∃ v', conc E v = some v' ∧ (Instr.lookup t m' k' ok).run P W = .ok v' W := by
  unfold lookupA at h
  split at h
  case h_2 => cases h
  rename_i kt et hu
  split at h
  case h_2 => cases h
  rename_i ag ks hks
  obtain ⟨hsh, h⟩ := cond_some h
  obtain ⟨hok, h⟩ := cond_some h
  have hS := shapeA_sound hsh hk
  have hF := keyOk_fits hok hk
  obtain ⟨g1, _, _, _⟩ := keyKs_facts (P := P) (W := W) hks
  have hck : ∀ em, (Instr.checkKey em 10000 kt k').run P W = .ok () W := fun em => by
    have := g1 em _ hF
    rw [← hS] at this; exact this
  have zero : ∀ z, zeroA P et = some z → v = cond ok (.tuple [z, .bool false]) z → ∃ z', (zeroValue et).run P W = .ok z' W ∧ conc E v = some (if ok then .tuple #[z', .bool false] else z') := by
    intro z hz hv
    obtain ⟨z', h1, h2⟩ := zeroA_run (W := W) hz
    refine ⟨z', h2, ?_⟩
    subst hv
    cases ok <;> simp [conc, concs, h1]
  split at h
  · split at h
    case h_2 => cases h
    rename_i z hz
    cases h
    obtain ⟨z', h2, h3⟩ := zero z hz rfl
    simp only [conc, Option.some.injEq] at hm
    subst hm
    refine ⟨_, h3, ?_⟩
    simp only [Instr.lookup, Sem.run_bind, run_und hu, Result.andThen_ok, Sem.run_pure, hck]
    have : (Instr.findKey kt k' (#[] : Array MapEntry).toList).run P W = .ok none W := by
      obtain ⟨_, _, _, d, hd⟩ := keyKs_facts (P := P) (W := W) hks
      simp [Instr.findKey, run_und hd, Instr.findNow]
    rw [this]
    simp [h2]
  · split at h
    case h_2 => cases h
    rename_i es clock hg
    obtain ⟨hall, h⟩ := cond_some h
    obtain ⟨y, hy, rfl⟩ := conc_map hm
    obtain ⟨o, ho, hrel⟩ := hr.obj _ _ y hg hy
    cases o <;> simp only [ObjRel] at hrel
    rename_i ces clk
    obtain ⟨_, hes⟩ := hrel
    have hgo : (getObj y.1).run P W = .ok (.map ces clk) W := by simp [getObj, Sem.run, ho]
    have hss := shapes_of hall hes
    split at h
    · rename_i i v0 hf
      cases h
      obtain ⟨r', k1, k2⟩ := findKey_sound (P := P) (W := W) hks hk hS hes hss hf
      cases r' with
      | none => exact k1.elim
      | some q =>
        obtain ⟨j, x⟩ := q
        obtain ⟨_, k1⟩ := k1
        refine ⟨if ok then .tuple #[x, .bool true] else x, ?_, ?_⟩
        · cases ok <;> simp [conc, concs, k1]
        · simp only [Instr.lookup, Sem.run_bind, run_und hu, Result.andThen_ok, Sem.run_pure, hgo, hck, k2]
    · rename_i hf
      obtain ⟨r', k1, k2⟩ := findKey_sound (P := P) (W := W) hks hk hS hes hss hf
      cases r' with
      | some q => exact k1.elim
      | none =>
        split at h
        case h_2 => cases h
        rename_i z hz
        cases h
        obtain ⟨z', h2, h3⟩ := zero z hz rfl
        refine ⟨_, h3, ?_⟩
        simp only [Instr.lookup, Sem.run_bind, run_und hu, Result.andThen_ok, Sem.run_pure, hgo, hck, k2, h2]
    · cases h
  · cases h


/-! ### Every quiet operation -/
noncomputable def optA (ρ : Operand → Option AV) (x : Option Operand) : Option (Option AV) := match x with
  | none => some none
  | some o => (match ρ o with | some v => some (some v) | none => none)
noncomputable def nilA (v : AV) : Option AV := match v with
  | .ptr b off => some (.ptr b off)
  | .func (.func f) a c => some (.func (.func f) a c)
  | _ => none
noncomputable def biQ (P : Program) (b : Builtin) (ts : List TypeId) (xs : List AV) (A : AH) : Option AV := match b with
  | .len => (match ts with
    | [t] => (match xs with | [x] => lenA P t x A | _ => none)
    | _ => none)
  | .cap => (match ts with
    | [t] => (match xs with | [x] => capA P t x | _ => none)
    | _ => none)
  | .max => mmA true xs
  | .min => mmA false xs
  | _ => none
noncomputable def ap1 (o : Option AV) (f : AV → Option AV) : Option AV := match o with
  | some v => f v
  | none => none
noncomputable def ap2 (o q : Option AV) (f : AV → AV → Option AV) : Option AV := match o with
  | some v => (match q with | some w => f v w | none => none)
  | none => none
noncomputable def pickA (c a b : Option AV) : Option AV := match c with
  | some (.bool t) => cond t a b
  | _ => none
noncomputable def sliceQ (P : Program) (A : AH) (t : TypeId) (x : Option AV) (lo hi mx : Option (Option AV)) : Option AV := match x with
  | some v => (match lo with
    | some l => (match hi with
      | some h => (match mx with
        | some m => cond (cond m.isSome h.isSome true) (sliceA P A t v l h m) none
        | none => none)
      | none => none)
    | none => none)
  | none => none
noncomputable def funcQ (fn : Fn) (a c : Option (List AV)) : Option AV := match a with
  | some a => (match c with | some c => some (.func fn a c) | none => none)
  | none => none
noncomputable def callQ (P : Program) (c : Call) (ρ : Operand → Option AV) (A : AH) : Option AV := match c.callee with
  | .builtin b => (match mapO ρ c.args.toList with | some xs => biQ P b c.argTypes.toList xs A | none => none)
  | _ => none

noncomputable def evQ (P : Program) (op : Op) (ρ : Operand → Option AV) (A : AH) : Option AV :=
  match op with
  | .move x => ρ x
  | .assign x => ρ x
  | .pick c a b => pickA (ρ c) (ρ a) (ρ b)
  | .load t a => ap1 (ρ a) fun x => loadA P t x A
  | .nilCheck x => ap1 (ρ x) nilA
  | .binOp op t x y _ => ap2 (ρ x) (ρ y) (binA P op t)
  | .unOp op _ x => ap1 (ρ x) (unA op)
  | .convert s d x => ap1 (ρ x) fun v => convA P s d v A
  | .makeFunc fn a c => funcQ fn (mapO ρ a.toList) (mapO ρ c.toList)
  | .slice t x lo hi mx => sliceQ P A t (ρ x) (optA ρ lo) (optA ρ hi) (optA ρ mx)
  | .fieldAddr t x f => ap1 (ρ x) fun v => fieldAddrA P t v f
  | .field t x f => ap1 (ρ x) fun v => fieldA P t v f
  | .indexAddr t x i => ap2 (ρ x) (ρ i) (indexAddrA P t)
  | .index t x i => ap2 (ρ x) (ρ i) (indexA P t)
  | .lookup t m k ok => ap2 (ρ m) (ρ k) fun a b => lookupA P t a b ok A
  | .extract x n => ap1 (ρ x) fun v => extractA v n
  | .build t ps => (match partsA ρ ps.toList with | some l => buildA P t l | none => none)
  | .call c => callQ P c ρ A
  | _ => none

theorem ap1_some {o : Option AV} {f : AV → Option AV} {v : AV} (h : ap1 o f = some v) : ∃ x, o = some x ∧ f x = some v := by
  cases o with
  | none => cases h
  | some x => exact ⟨x, rfl, h⟩
theorem ap2_some {o q : Option AV} {f : AV → AV → Option AV} {v : AV} (h : ap2 o q f = some v) : ∃ x y, o = some x ∧ q = some y ∧ f x y = some v := by
  cases o with
  | none => cases h
  | some x => cases q with
    | none => cases h
    | some y => exact ⟨x, y, rfl, rfl, h⟩
theorem optA_rel {ρ : Operand → Option AV} {ρc : Operand → Value} (hρ : Opnds E ρ ρc) {x : Option Operand} {r : Option AV} (h : optA ρ x = some r) : OptRel E r (x.map ρc) := by
  unfold optA at h
  split at h
  · cases h; trivial
  · split at h
    · rename_i hv; cases h; exact hρ _ _ hv
    · cases h

theorem evQ_sound [Amb] (hr : Rel E A W) {o : Oper} {ρ : Operand → Option AV} {ρc : Operand → Value} (hρ : Opnds E ρ ρc) {v : AV} (h : evQ P o.op ρ A = some v) :
    ∃ v', conc E v = some v' ∧ (execOp ρc o).run P W = .ok (.value v') W := by
  unfold evQ at h
  unfold execOp
  split at h
  · rename_i x he; rw [he]; exact ⟨_, hρ _ _ h, rfl⟩
  · rename_i x he; rw [he]; exact ⟨_, hρ _ _ h, rfl⟩
  · rename_i c a b he; rw [he]
    unfold pickA at h
    split at h
    case h_2 => cases h
    rename_i t ht
    have := hρ _ _ ht
    simp only [conc, Option.some.injEq] at this
    cases t
    · exact ⟨_, hρ _ _ h, by simp [← this, asBool]⟩
    · exact ⟨_, hρ _ _ h, by simp [← this, asBool]⟩
  · rename_i t a he; rw [he]
    obtain ⟨x, hx, h⟩ := ap1_some h
    obtain ⟨a', v', e, h1, h2⟩ := loadVar_run (P := P) hr h (hρ _ _ hx)
    exact ⟨v', h1, by simp [e, Instr.loadAt, Instr.sureAddr, h2]⟩
  · rename_i x he; rw [he]
    obtain ⟨y, hx, h⟩ := ap1_some h
    have hx := hρ _ _ hx
    unfold nilA at h
    split at h
    · cases h
      obtain ⟨z, hz, e⟩ := conc_ptr hx
      exact ⟨_, hx, by simp [e]⟩
    · cases h
      have hx2 := hx
      simp only [conc, Option.bind_eq_some_iff, Option.map_eq_some_iff] at hx2
      obtain ⟨a', _, c', _, e⟩ := hx2
      exact ⟨_, hx, by simp [← e]⟩
    · cases h
  · rename_i op t x y u he; rw [he]
    obtain ⟨a, b, ha, hb, h⟩ := ap2_some h
    obtain ⟨v', h1, h2⟩ := binA_sound (P := P) (W := W) (u := u) (p := x) (q := y) h (hρ _ _ ha) (hρ _ _ hb)
    exact ⟨v', h1, by simp only [Sem.run_bind] at h2 ⊢; rw [h2]; rfl⟩
  · rename_i op t x he; rw [he]
    obtain ⟨a, ha, h⟩ := ap1_some h
    obtain ⟨v', h1, h2⟩ := unA_sound (P := P) (W := W) h (hρ _ _ ha)
    exact ⟨v', h1, by simp [h2]⟩
  · rename_i s d x he; rw [he]
    obtain ⟨a, ha, h⟩ := ap1_some h
    obtain ⟨v', h1, h2⟩ := convA_sound (P := P) hr h (hρ _ _ ha)
    exact ⟨v', h1, by simp [h2]⟩
  · rename_i fn a c he; rw [he]
    unfold funcQ at h
    split at h
    case h_2 => cases h
    rename_i a' ha
    split at h
    case h_2 => cases h
    rename_i c' hc
    cases h
    refine ⟨.func fn (a.map ρc) (c.map ρc), ?_, by simp [Instr.makeFunc]⟩
    simp only [conc, mapO_ops hρ _ _ ha, mapO_ops hρ _ _ hc]
    have e : ∀ q : Array Operand, (q.toList.map ρc).toArray = q.map ρc := fun q => by apply Array.toList_inj.1; simp
    simp [e]
  · rename_i t x lo hi mx he; rw [he]
    unfold sliceQ at h
    split at h
    case h_2 => cases h
    rename_i v1 hv1
    split at h
    case h_2 => cases h
    rename_i l hl
    split at h
    case h_2 => cases h
    rename_i hh hhh
    split at h
    case h_2 => cases h
    rename_i m hm
    obtain ⟨hc, h⟩ := cond_some h
    have hmm : m.isSome = true → hh.isSome = true := by
      intro e; rw [e] at hc; exact hc
    obtain ⟨v', h1, h2⟩ := sliceA_sound (P := P) hr h (hρ _ _ hv1) hmm (optA_rel hρ hl) (optA_rel hρ hhh) (optA_rel hρ hm)
    exact ⟨v', h1, by simp [h2]⟩
  · rename_i t x f he; rw [he]
    obtain ⟨a, ha, h⟩ := ap1_some h
    obtain ⟨v', h1, h2⟩ := fieldAddrA_sound (P := P) (W := W) h (hρ _ _ ha)
    exact ⟨v', h1, by simp [h2]⟩
  · rename_i t x f he; rw [he]
    obtain ⟨a, ha, h⟩ := ap1_some h
    obtain ⟨v', h1, h2⟩ := fieldA_sound (P := P) (W := W) h (hρ _ _ ha)
    exact ⟨v', h1, by simp [h2]⟩
  · rename_i t x i he; rw [he]
    obtain ⟨a, b, ha, hb, h⟩ := ap2_some h
    obtain ⟨v', h1, h2⟩ := indexAddrA_sound (P := P) (W := W) h (hρ _ _ ha) (hρ _ _ hb)
    exact ⟨v', h1, by simp [h2]⟩
  · rename_i t x i he; rw [he]
    obtain ⟨a, b, ha, hb, h⟩ := ap2_some h
    obtain ⟨v', h1, h2⟩ := indexA_sound (P := P) (W := W) h (hρ _ _ ha) (hρ _ _ hb)
    exact ⟨v', h1, by simp [h2]⟩
  · rename_i t m k ok he; rw [he]
    obtain ⟨a, b, ha, hb, h⟩ := ap2_some h
    obtain ⟨v', h1, h2⟩ := lookupA_sound (P := P) hr h (hρ _ _ ha) (hρ _ _ hb)
    exact ⟨v', h1, by simp [h2]⟩
  · rename_i x n he; rw [he]
    obtain ⟨a, ha, h⟩ := ap1_some h
    obtain ⟨v', h1, h2⟩ := extractA_sound (P := P) (W := W) h (hρ _ _ ha)
    exact ⟨v', h1, by simp [h2]⟩
  · rename_i t ps he; rw [he]
    split at h
    case h_2 => cases h
    rename_i l hl
    have hp := partsA_sound hρ _ _ hl
    obtain ⟨v', h1, h2⟩ := buildA_sound (P := P) (W := W) (ps := ps.map fun (i, x) => (i, ρc x)) h (by simpa using hp)
    exact ⟨v', h1, by simp [h2]⟩
  · rename_i c he; rw [he]
    unfold callQ at h
    split at h
    case h_2 => cases h
    rename_i b hb
    split at h
    case h_2 => cases h
    rename_i xs hxs
    have hargs := mapO_ops hρ _ _ hxs
    simp only [resolve, hb, Sem.run_bind, Sem.run_pure, Result.andThen_ok, invoke]
    unfold biQ at h
    split at h
    · split at h
      case h_2 => cases h
      rename_i t hts
      split at h
      case h_2 => cases h
      rename_i x
      obtain ⟨x', _, k1, k2, k3⟩ := concs_cons hargs
      have := concs_nil k2; subst this
      obtain ⟨v', h1, h2⟩ := lenA_sound (P := P) (ty := o.type) hr h k1
      have e1 : c.argTypes = #[t] := by apply Array.toList_inj.1; simpa using hts
      have e2 : c.args.map ρc = #[x'] := by apply Array.toList_inj.1; simpa using k3
      exact ⟨v', h1, by rw [e1, e2]; simp [builtin, h2]⟩
    · split at h
      case h_2 => cases h
      rename_i t hts
      split at h
      case h_2 => cases h
      rename_i x
      obtain ⟨x', _, k1, k2, k3⟩ := concs_cons hargs
      have := concs_nil k2; subst this
      obtain ⟨v', h1, h2⟩ := capA_sound (P := P) (W := W) (ty := o.type) h k1
      have e1 : c.argTypes = #[t] := by apply Array.toList_inj.1; simpa using hts
      have e2 : c.args.map ρc = #[x'] := by apply Array.toList_inj.1; simpa using k3
      exact ⟨v', h1, by rw [e1, e2]; simp [builtin, h2]⟩
    · obtain ⟨v', h1, h2⟩ := mmA_sound (P := P) (W := W) h hargs c.argTypes o.type
      have e2 : (c.args.toList.map ρc).toArray = c.args.map ρc := by apply Array.toList_inj.1; simp
      rw [e2] at h2
      have h3 : (Builtin.max_ c.argTypes o.type (c.args.map ρc)).run P W = .ok v' W := h2
      exact ⟨v', h1, by simp [builtin, h3]⟩
    · obtain ⟨v', h1, h2⟩ := mmA_sound (P := P) (W := W) h hargs c.argTypes o.type
      have e2 : (c.args.toList.map ρc).toArray = c.args.map ρc := by apply Array.toList_inj.1; simp
      rw [e2] at h2
      have h3 : (Builtin.min_ c.argTypes o.type (c.args.map ρc)).run P W = .ok v' W := h2
      exact ⟨v', h1, by simp [builtin, h3]⟩
    · cases h
  · cases h
end
end Go.PE
