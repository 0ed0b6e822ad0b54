/-
  THE ENGINE, 12: operations that write.
-/
import Derived.Test.YtmnjpaholemebaaGreatDoorE11
namespace Go.PE
open Go

section
variable {P : Program} {W : World} {E : Env} {A : AH}

/-- An effect: some value, in a later state. -/
def EffOk [Amb] (P : Program) (E : Env) (A : AH) (W : World) (s : Sem Next) (skip : Bool) (v : AV) (A' : AH) : Prop :=
  ∃ (v' : Value) (W' : World) (E' : Env), s.run P W = .ok (if skip then .skip else .value v') W' ∧ (skip = true → v' = undef) ∧ conc E' v = some v' ∧ Rel E' A' W' ∧ Step E A W E' A' W'

/-! ### Stores -/
noncomputable def storeA (P : Program) (t : TypeId) (x v : AV) (A : AH) : Option AH := match x with
  | .ptr b off => (match ti P t with
    | some i => cond (Nat.beq (llen (cellsA v)) i.size) (stRow A b off (cellsA v)) none
    | none => none)
  | _ => none
theorem storeA_sound [Amb] (hr : Rel E A W) {t : TypeId} {x v : AV} {A' : AH} (h : storeA P t x v A = some A') {x' v' : Value} (hx : conc E x = some x') (hv : conc E v = some v') :
    ∃ W', (Instr.storeAt t x' v').run P W = .ok () W' ∧ Rel E A' W' ∧ Step E A W E A' W' := by
  unfold storeA at h
  split at h
  case h_2 => cases h
  split at h
  case h_2 => cases h
  rename_i i hi
  obtain ⟨h1, h⟩ := cond_some h
  have h1 := Nat.eq_of_beq_eq_true h1
  rw [llen_eq] at h1
  obtain ⟨y, hy, rfl⟩ := conc_ptr hx
  have hc := cellsA_conc hv
  have hl := concs_length hc
  simp only [Array.length_toList] at hl
  obtain ⟨W', k1, k2, k3⟩ := stRow_sound (P := P) hr hy h hc
  refine ⟨W', ?_, k2, k3⟩
  simp only [Instr.storeAt, Sem.run_bind, Instr.sureAddr, Sem.run_pure, Result.andThen_ok, storeVar, run_size hi]
  rw [if_neg (by omega)]
  exact k1

/-! ### Stores of several rows -/
noncomputable def putRows (sz : Nat) (n : Nat) : Nat → List AV → T (List AV) → T (List AV) := Nat.rec (motive := fun _ => Nat → List AV → T (List AV) → T (List AV)) (fun _ _ t => t)
  (fun _ ih r l t => ih (Nat.succ r) (ldrop sz l) (T.set t r (ltake sz l))) n
theorem putRows_get (sz : Nat) : ∀ (n r : Nat) (l : List AV) (t : T (List AV)) (q : Nat), (putRows sz n r l t).get q = if r ≤ q ∧ q < r + n then some ((l.drop ((q - r) * sz)).take sz) else t.get q
  | 0, r, l, t, q => by rw [if_neg (by omega)]; rfl
  | n + 1, r, l, t, q => by
    show (putRows sz n (r + 1) (ldrop sz l) (T.set t r (ltake sz l))).get q = _
    rw [putRows_get sz n, T.get_set]
    by_cases h1 : r + 1 ≤ q ∧ q < r + 1 + n
    · rw [if_pos h1, if_pos (by omega), ldrop_eq, List.drop_drop]
      congr 3
      have : q - r = (q - (r + 1)) + 1 := by omega
      rw [this, Nat.add_mul, Nat.one_mul]; omega
    · rw [if_neg h1]
      by_cases h2 : r = q
      · subst h2; rw [if_pos rfl, if_pos (by omega), ltake_eq]; simp
      · rw [if_neg h2, if_neg (by omega)]

noncomputable def stCells (A : AH) (b off : Nat) (vs : List AV) : Option AH :=
  match vs with
  | [] => some A
  | _ => match A.heap.get b with
  | some (.cells esz nr rows) =>
    cond (Nat.ble (Nat.add (Nat.mod off esz) (llen vs)) esz) (stRow A b off vs)
      (cond (Nat.beq (Nat.mod off esz) 0) (cond (Nat.beq (Nat.mod (llen vs) esz) 0) (cond (Nat.ble (Nat.add (Nat.div off esz) (Nat.div (llen vs) esz)) nr)
        (cond (lall isCellA vs) (some ⟨A.heap.set b (.cells esz nr (putRows esz (Nat.div (llen vs) esz) (Nat.div off esz) vs rows)), A.next⟩) none) none) none) none)
  | _ => none

theorem stCells_sound [Amb] (hr : Rel E A W) {b off : Nat} {x : Nat × Nat × Nat} {vs : List AV} {xs : List Value} {A' : AH} (hx : E.blk b = some x)
    (h : stCells A b off vs = some A') (hc : concs E vs = some xs) :
    ∃ W', (storeCells ⟨x.1, x.2.1 + off, none⟩ xs).run P W = .ok () W' ∧ Rel E A' W' ∧ Step E A W E A' W' := by
  unfold stCells at h
  split at h
  · cases h
    have := concs_nil hc; subst this
    exact ⟨W, by simp [storeCells], hr, Step.refl _ _ _⟩
  split at h
  case h_2 => cases h
  rename_i esz nr rows hg
  cases hcc : Nat.ble (Nat.add (Nat.mod off esz) (llen vs)) esz
  case true => rw [hcc] at h; exact stRow_sound hr hx h hc
  rw [hcc] at h
  simp only [cond_false] at h
  obtain ⟨h1, h⟩ := cond_some h
  obtain ⟨h2, h⟩ := cond_some h
  obtain ⟨h3, h⟩ := cond_some h
  obtain ⟨h4, h⟩ := cond_some h
  have h1 : off % esz = 0 := Nat.eq_of_beq_eq_true h1
  have h2 : llen vs % esz = 0 := Nat.eq_of_beq_eq_true h2
  have h3 : off / esz + llen vs / esz ≤ nr := ble_iff h3
  have h4 := isCell_all (lall_eq _ _ h4) hc
  cases h
  rw [llen_eq] at *
  have hlen := concs_length hc
  have e1 : off / esz * esz = off := by have := Nat.div_add_mod off esz; rw [Nat.mul_comm]; omega
  have e2 : vs.length / esz * esz = vs.length := by have := Nat.div_add_mod vs.length esz; rw [Nat.mul_comm]; omega
  obtain ⟨o, ho, hrel⟩ := hr.obj b _ x hg hx
  cases o <;> simp only [ObjRel] at hrel
  rename_i cs e fr
  obtain ⟨hrows, hsz, hn, hfr⟩ := hrel
  have hle : (off / esz + vs.length / esz) * esz ≤ nr * esz := Nat.mul_le_mul_right _ h3
  rw [Nat.add_mul, e1, e2] at hle
  obtain ⟨W', cs', k1, k2, k3, k4, k5, k6, k7, k8, k9, k10⟩ := run_storeCells (P := P) (off := x.2.1 + off) xs 0 W cs ho (by omega)
    (fun k q1 q2 => hfr k (by omega) (by omega)) h4
  refine ⟨W', k1, hr.write hg hx k2 ?_ k5 k6, Step.write hx k5 k6 k7 k8 k9⟩
  simp only [ObjRel]
  refine ⟨?_, by omega, hn, hfr⟩
  intro r hr'
  have hpg : (putRows esz (Nat.div vs.length esz) (Nat.div off esz) vs rows).get r = _ := putRows_get esz (vs.length / esz) (off / esz) vs rows r
  by_cases hin : off / esz ≤ r ∧ r < off / esz + vs.length / esz
  · rw [if_pos hin] at hpg
    obtain ⟨q, rfl⟩ : ∃ q, r = off / esz + q := ⟨r - off / esz, by omega⟩
    have hq : (q + 1) * esz ≤ vs.length := by
      have : (q + 1) * esz ≤ vs.length / esz * esz := Nat.mul_le_mul_right _ (by omega)
      omega
    rw [Nat.add_mul, Nat.one_mul] at hq
    rw [show off / esz + q - off / esz = q from by omega] at hpg
    refine ⟨_, (xs.drop (q * esz)).take esz, hpg, concs_take _ (concs_drop _ hc), ?_, ?_, ?_⟩
    · rw [List.length_take, List.length_drop]; omega
    · intro y hy; exact h4 y (List.mem_of_mem_drop (List.mem_of_mem_take hy))
    · intro j hj
      have ea : (off / esz + q) * esz = off + q * esz := by rw [Nat.add_mul, e1]
      rw [k4, ea, if_pos (by omega), List.getElem?_take, if_pos hj, List.getElem?_drop]
      congr 1; omega
  · rw [if_neg hin] at hpg
    obtain ⟨row', zs, q1, q2, q3, q4, q5⟩ := hrows r hr'
    refine ⟨row', zs, hpg.trans q1, q2, q3, q4, ?_⟩
    intro j hj
    rw [k4, if_neg, q5 j hj]
    rintro ⟨a1, a2⟩
    by_cases lt : r < off / esz
    · have := Nat.mul_le_mul_right esz (show r + 1 ≤ off / esz from lt)
      rw [Nat.add_mul, Nat.one_mul, e1] at this; omega
    · have hge : off / esz + vs.length / esz ≤ r := by omega
      have := Nat.mul_le_mul_right esz hge
      rw [Nat.add_mul, e1, e2] at this; omega

/-! ### Maps -/
theorem sameBits_flat (n : Nat) : ∀ (ks : List CK) (xs ys : List Value), fits ks xs → fits ks ys → eqs xs ys = true → xs.length = ys.length ∧ (xs.zip ys).all (fun (x, y) => Instr.sameBits n x y) = true
  | [], [], [], _, _, _ => ⟨rfl, rfl⟩
  | k :: ks, x :: xs, y :: ys, h1, h2, h3 => by
    simp only [eqs, Bool.and_eq_true] at h3
    obtain ⟨i1, i2⟩ := sameBits_flat n ks xs ys h1.2 h2.2 h3.2
    refine ⟨by simp [i1], ?_⟩
    simp only [List.zip_cons_cons, List.all_cons, i2, Bool.and_true]
    have a := h1.1
    have b := h2.1
    have c := h3.1
    cases k <;> cases x <;> simp only [fit1] at a <;> cases y <;> simp only [fit1] at b <;> simp only [eq1] at c
    · unfold Instr.sameBits; exact c
    · unfold Instr.sameBits; subst a; subst b; simp; simpa using c
    · unfold Instr.sameBits; rw [bytes_beq]; exact c
  | [], _ :: _, _, h, _, _ => h.elim
  | [], [], _ :: _, _, h, _ => h.elim
  | _ :: _, [], _, h, _, _ => h.elim
  | _ :: _, _ :: _, [], _, h, _ => h.elim

theorem keyStays {ag : Bool} {ks : List CK} {x y : Value} (hag : ag = false → ks.length = 1) (sx : Shape ag x) (sy : Shape ag y) (h1 : fits ks x.cells.toList) (h2 : fits ks y.cells.toList) (h3 : eqs x.cells.toList y.cells.toList = true) :
    (Instr.keyThatStays x y).run P W = .ok y W := by
  have hb : Instr.sameBits 10000 x y = true := by
    cases ag with
    | true =>
      rw [sx, sy]
      obtain ⟨i1, i2⟩ := sameBits_flat 9999 ks _ _ h1 h2 h3
      simp only [mkV, if_true]
      unfold Instr.sameBits
      simp only [List.size_toArray, i1, beq_self_eq_true, Bool.true_and]
      exact i2
    | false =>
      have hl := hag rfl
      match ks, hl, h1, h2 with
      | [k], _, h1, h2 =>
        obtain ⟨a, ea, fa⟩ := fits_one h1
        obtain ⟨b, eb, fb⟩ := fits_one h2
        have exa : x = a := by rw [sx, ea]; rfl
        have exb : y = b := by rw [sy, eb]; rfl
        rw [ea, eb] at h3
        have := (sameBits_flat 10000 [k] [a] [b] ⟨fa, trivial⟩ ⟨fb, trivial⟩ h3).2
        rw [exa, exb]
        simpa using this
  simp [Instr.keyThatStays, hb]

noncomputable def lmod (n : Nat) (x : AV × AV × Nat) : List (AV × AV × Nat) → List (AV × AV × Nat) := Nat.rec (motive := fun _ => List (AV × AV × Nat) → List (AV × AV × Nat))
  (fun l => List.rec (motive := fun _ => List (AV × AV × Nat)) [] (fun _ t _ => x :: t) l)
  (fun _ ih l => List.rec (motive := fun _ => List (AV × AV × Nat)) [] (fun y t _ => y :: ih t) l) n
noncomputable def ldel {α : Type} (n : Nat) : List α → List α := Nat.rec (motive := fun _ => List α → List α)
  (fun l => List.rec (motive := fun _ => List α) [] (fun _ t _ => t) l)
  (fun _ ih l => List.rec (motive := fun _ => List α) [] (fun y t _ => y :: ih t) l) n
noncomputable def bornAt (n : Nat) (l : List (AV × AV × Nat)) : Nat := match lget n l with
  | some e => e.2.2
  | none => 0

theorem F2.lmod {e : AV × AV × Nat} : ∀ (n : Nat) {l : List (AV × AV × Nat)} {m : List MapEntry} (f : MapEntry → MapEntry), F2 (EntryRel E) l m → (∀ c, m[n]? = some c → EntryRel E e (f c)) →
    F2 (EntryRel E) (lmod n e l) (m.modify n f)
  | 0, _, _, f, .nil, _ => by simp only [List.modify_nil]; exact .nil
  | 0, _, _, f, .cons (b := c) r t, h => by
    have := h c rfl
    exact .cons this t
  | n + 1, _, _, f, .nil, _ => by simp only [List.modify_nil]; exact .nil
  | n + 1, _, _, f, .cons r t, h => by
    have := F2.lmod n f t (fun c hc => h c (by simpa using hc))
    exact .cons r this
theorem F2.ldel : ∀ (n : Nat) {l : List (AV × AV × Nat)} {m : List MapEntry}, F2 (EntryRel E) l m → F2 (EntryRel E) (ldel n l) (m.eraseIdx n)
  | 0, _, _, .nil => .nil
  | 0, _, _, .cons _ t => t
  | n + 1, _, _, .nil => .nil
  | n + 1, _, _, .cons r t => .cons r (F2.ldel n t)
theorem F2.append {α β : Type} {R : α → β → Prop} : ∀ {l : List α} {m : List β} {l' : List α} {m' : List β}, F2 R l m → F2 R l' m' → F2 R (l ++ l') (m ++ m')
  | _, _, _, _, .nil, h => h
  | _, _, _, _, .cons r t, h => .cons r (F2.append t h)
theorem F2.get {α β : Type} {R : α → β → Prop} : ∀ {l : List α} {m : List β} (_ : F2 R l m) {n : Nat} {x : α}, l[n]? = some x → ∃ y, m[n]? = some y ∧ R x y
  | _, _, .nil, _, _, h => by simp at h
  | _, _, .cons r t, 0, _, h => by simp at h; subst h; exact ⟨_, rfl, r⟩
  | _, _, .cons r t, n + 1, _, h => by simpa using F2.get t (by simpa using h)

/-- Where a key is found, it is equal there. -/
theorem findA_at {ks : List CK} {k : List AV} : ∀ (es : List (AV × AV × Nat)) (i j : Nat) (v : AV), findA ks k es i = some (some (j, v)) → ∃ e, i ≤ j ∧ es[j - i]? = some e ∧ eqsA ks k (cellsA e.1) = some true
  | [], i, j, v, h => by cases h
  | e :: es, i, j, v, h => by
    rw [findA_cons] at h
    split at h
    case h_2 => cases h
    rename_i b hb
    cases b with
    | true =>
      simp only [cond_true, Option.some.injEq, Prod.mk.injEq] at h
      obtain ⟨rfl, _⟩ := h
      exact ⟨e, Nat.le_refl _, by simp, hb⟩
    | false =>
      simp only [cond_false] at h
      obtain ⟨e', h1, h2, h3⟩ := findA_at es (i + 1) j v h
      refine ⟨e', by omega, ?_, h3⟩
      have : j - i = (j - (i + 1)) + 1 := by omega
      rw [this, List.getElem?_cons_succ]; exact h2

theorem eq1_comm (a b : Value) : eq1 a b = eq1 b a := by
  cases a <;> cases b <;> simp only [eq1]
  · exact Bool.beq_comm
  · rename_i a _ b; rw [Bool.eq_iff_iff, beq_iff_eq, beq_iff_eq]; exact ⟨fun h => h.symm, fun h => h.symm⟩
  · rw [Bool.eq_iff_iff, beq_iff_eq, beq_iff_eq]; exact ⟨fun h => h.symm, fun h => h.symm⟩
theorem eqs_comm : ∀ (a b : List Value), eqs a b = eqs b a
  | [], [] => rfl
  | [], _ :: _ => rfl
  | _ :: _, [] => rfl
  | x :: a, y :: b => by simp only [eqs, eq1_comm x y, eqs_comm a b]

noncomputable def mapUpdateA (P : Program) (t : TypeId) (m k v : AV) (A : AH) : Option AH := match und P t with
  | some (.map kt _) => (match keyKs P kt with
    | some (ag, ks) => cond (shapeA ag k) (cond (keyOk ks (cellsA k)) (match m with
      | .map b => (match A.heap.get b with
        | some (.map es clock) => cond (lall (fun e => shapeA ag e.1) es) (match findA ks (cellsA k) es 0 with
          | some (some (i, _)) => some ⟨A.heap.set b (.map (lmod i (k, v, bornAt i es) es) clock), A.next⟩
          | some none => some ⟨A.heap.set b (.map (lapp es [(k, v, clock)]) (Nat.succ clock)), A.next⟩
          | none => none) none
        | _ => none)
      | _ => none) none) none
    | none => none)
  | _ => none

theorem writeObj [Amb] (hr : Rel E A W) {b : Nat} {o o' : AObj} {y : Nat × Nat × Nat} {c' : Obj} (hg : A.heap.get b = some o) (hy : E.blk b = some y) {c : Obj} (hb : W.heap[y.1]? = some c) (hrel : ObjRel E o' y c') :
    Rel E ⟨A.heap.set b o', A.next⟩ { W with heap := W.heap.setIfInBounds y.1 c' } ∧ Step E A W E ⟨A.heap.set b o', A.next⟩ { W with heap := W.heap.setIfInBounds y.1 c' } := by
  have hlt := hr.bound b y hy
  have h1 : (W.heap.setIfInBounds y.1 c')[y.1]? = some c' := by rw [Array.getElem?_setIfInBounds_self_of_lt hlt]
  have h2 : ∀ k, k ≠ y.1 → (W.heap.setIfInBounds y.1 c')[k]? = W.heap[k]? := fun k hk => Array.getElem?_setIfInBounds_ne (by omega)
  exact ⟨hr.write hg hy h1 hrel h2 (by simp), Step.write hy h2 (by simp) rfl rfl rfl⟩

theorem mapUpdateA_sound [Amb] (hr : Rel E A W) {t : TypeId} {m k v : AV} {A' : AH} (h : mapUpdateA P t m k v A = some A') {m' k' v' : Value} (hm : conc E m = some m') (hk : conc E k = some k') (hv : conc E v = some v') :
    ∃ W', (Instr.mapUpdate t m' k' v').run P W = .ok () W' ∧ Rel E A' W' ∧ Step E A W E A' W' := by
  unfold mapUpdateA at h
  split at h
  case h_2 => cases h
  rename_i kt et hu
  split at h
  case h_2 => cases h
  rename_i ag ks hks
  obtain ⟨hsh, h⟩ := cond_some h
  obtain ⟨hok, h⟩ := cond_some h
  have hS := shapeA_sound hsh hk
  have hF := keyOk_fits hok hk
  obtain ⟨g1, _, g3, _⟩ := keyKs_facts (P := P) (W := W) hks
  have hck : ∀ em, (Instr.checkKey em 10000 kt k').run P W = .ok () W := fun em => by
    have := g1 em _ hF
    rw [← hS] at this; exact this
  split at h
  case h_2 => cases h
  split at h
  case h_2 => cases h
  rename_i es clock hg
  obtain ⟨hall, h⟩ := cond_some h
  obtain ⟨y, hy, rfl⟩ := conc_map hm
  obtain ⟨o, ho, hrel⟩ := hr.obj _ _ y hg hy
  cases o <;> simp only [ObjRel] at hrel
  rename_i ces clk
  obtain ⟨rfl, hes⟩ := hrel
  have hgo : (getObj y.1).run P W = .ok (.map ces clk) W := by simp [getObj, Sem.run, ho]
  have hss := shapes_of hall hes
  have hset : ∀ c : Obj, (setObj y.1 c).run P W = .ok () { W with heap := W.heap.setIfInBounds y.1 c } := fun c => by simp [setObj, Sem.run, ho]
  split at h
  · rename_i i v0 hf
    cases h
    obtain ⟨r', k1, k2⟩ := findKey_sound (P := P) (W := W) hks hk hS hes hss hf
    cases r' with
    | none => exact k1.elim
    | some q =>
      obtain ⟨j, x⟩ := q
      obtain ⟨rfl, k1⟩ := k1
      obtain ⟨e, _, e2, e3⟩ := findA_at es 0 i v0 hf
      rw [Nat.sub_zero] at e2
      obtain ⟨ce, c1, c2⟩ := F2.get hes e2
      obtain ⟨f1, f2, f3⟩ := eqsA_sound e3 (cellsA_conc hk) (cellsA_conc c2.1)
      have hce : ces[i]? = some ce := by simpa using c1
      have hmem : ce ∈ ces.toList := List.mem_of_getElem? c1
      have hfs : eqs ce.key.cells.toList k'.cells.toList = true := by
        rw [← f3]
        exact eqs_comm _ _
      have hst := keyStays (P := P) (W := W) g3 (hss ce hmem) hS f2 f1 hfs
      obtain ⟨w1, w2⟩ := writeObj hr hg hy ho (o' := .map (lmod i (k, v, bornAt i es) es) clk) (c' := .map (ces.modify i fun e => { e with key := k', val := v' }) clk) (by
        simp only [ObjRel]
        refine ⟨trivial, ?_⟩
        rw [Array.toList_modify]
        refine F2.lmod i _ hes (fun c hc => ?_)
        rw [c1] at hc; cases hc
        refine ⟨hk, hv, ?_⟩
        simp only [bornAt, lget_eq, e2]
        exact c2.2.2)
      refine ⟨_, ?_, w1, w2⟩
      simp only [Instr.mapUpdate, Sem.run_bind, run_und hu, Result.andThen_ok, hgo, hck, k2]
      rw [hce]
      simp only [Option.map_some, Option.getD_some, hst, Result.andThen_ok, hset]
  · rename_i hf
    cases h
    obtain ⟨r', k1, k2⟩ := findKey_sound (P := P) (W := W) hks hk hS hes hss hf
    cases r' with
    | some q => exact k1.elim
    | none =>
      obtain ⟨w1, w2⟩ := writeObj hr hg hy ho (o' := .map (lapp es [(k, v, clk)]) (Nat.succ clk)) (c' := .map (ces.push { key := k', val := v', born := clk }) (clk + 1)) (by
        simp only [ObjRel]
        refine ⟨trivial, ?_⟩
        rw [lapp_eq, Array.toList_push]
        exact F2.append hes (.cons ⟨hk, hv, rfl⟩ .nil))
      refine ⟨_, ?_, w1, w2⟩
      simp only [Instr.mapUpdate, Sem.run_bind, run_und hu, Result.andThen_ok, hgo, hck, k2, hset]
  · cases h
end
end Go.PE
