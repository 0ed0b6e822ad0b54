/-
  THE ENGINE, 11: operations that make a new block, and no more.
-/
import Derived.Test.YtmnjpaholemebaaGreatDoorE10
namespace Go.PE
open Go

/-- What a new block is made of, and the value that points to it: by its id. -/
noncomputable def newCells (esz n : Nat) (rows : T (List AV)) : AObj := .cells esz n rows
noncomputable def rowOf (cs : List AV) : T (List AV) := T.set .e 0 cs
/-- Rows of equal length, out of all cells. -/
noncomputable def chop (sz : Nat) (n : Nat) : List AV → Nat → T (List AV) := Nat.rec (motive := fun _ => List AV → Nat → T (List AV)) (fun _ _ => .e)
  (fun _ ih l i => T.set (ih (ldrop sz l) (Nat.succ i)) i (ltake sz l)) n
/-- The same row again and again. -/
noncomputable def reps (row : List AV) (n : Nat) : Nat → T (List AV) := Nat.rec (motive := fun _ => Nat → T (List AV)) (fun _ => .e)
  (fun _ ih i => T.set (ih (Nat.succ i)) i row) n

section
variable {P : Program} {W : World} {E : Env} {A : AH}

theorem rowsRel_one {cs : List AV} {xs : List Value} (h : concs E cs = some xs) (hc : ∀ x ∈ xs, isCell x = true) : RowsRel E xs.toArray 0 xs.length 1 (rowOf cs) := by
  intro r hr
  have : r = 0 := by omega
  subst this
  refine ⟨cs, xs, T.get_set_same _ _ _, h, rfl, hc, fun j hj => ?_⟩
  simp

theorem chop_get (sz : Nat) : ∀ (n : Nat) (l : List AV) (i r : Nat), i ≤ r → r < i + n → (chop sz n l i).get r = some ((l.drop ((r - i) * sz)).take sz)
  | 0, _, _, _, _, h => by omega
  | n + 1, l, i, r, h1, h2 => by
    show (T.set (chop sz n (ldrop sz l) (i + 1)) i (ltake sz l)).get r = _
    rw [T.get_set]
    split
    · rename_i e; subst e; rw [ltake_eq]; simp
    · rw [chop_get sz n _ (i + 1) r (by omega) (by omega), ldrop_eq, List.drop_drop]
      congr 3
      have : r - i = (r - (i + 1)) + 1 := by omega
      rw [this, Nat.add_mul, Nat.one_mul]; omega

theorem rowsRel_chop {cs : List AV} {xs : List Value} {sz n : Nat} (h : concs E cs = some xs) (hc : ∀ x ∈ xs, isCell x = true) (hl : n * sz ≤ xs.length) :
    ∀ (ys : Array Value), (∀ j, j < n * sz → ys[j]? = xs[j]?) → RowsRel E ys 0 sz n (chop sz n cs 0) := by
  intro ys hy r hr
  have hle : (r + 1) * sz ≤ n * sz := Nat.mul_le_mul_right _ hr
  rw [Nat.add_mul, Nat.one_mul] at hle
  refine ⟨_, (xs.drop (r * sz)).take sz, chop_get sz n cs 0 r (by omega) (by omega), concs_take _ (concs_drop _ h), ?_, ?_, ?_⟩
  · rw [List.length_take, List.length_drop]; omega
  · intro x hx; exact hc x (List.mem_of_mem_drop (List.mem_of_mem_take hx))
  · intro j hj
    rw [hy _ (by omega), List.getElem?_take, if_pos hj, List.getElem?_drop]
    congr 1; omega

theorem reps_get (row : List AV) : ∀ (n i r : Nat), i ≤ r → r < i + n → (reps row n i).get r = some row
  | 0, _, _, _, h => by omega
  | n + 1, i, r, h1, h2 => by
    show (T.set (reps row n (i + 1)) i row).get r = _
    rw [T.get_set]
    split
    · rfl
    · exact reps_get row n (i + 1) r (by omega) (by omega)

theorem objRel_new {cs : Array Value} {e : TypeId} {esz n : Nat} {rows : T (List AV)} {b : Nat} (h : RowsRel E cs 0 esz n rows) (hn : n * esz ≤ cs.size) :
    ObjRel E (.cells esz n rows) (b, 0, cs.size) (.cells cs e (0, 0)) := by
  simp only [ObjRel]
  exact ⟨h, by omega, hn, fun k _ _ => by simp⟩

/-! ### What is made -/
/-- A new block: what it is, and the value that is handed on, by the block's id. -/
structure Made where
  obj : AObj
  val : Nat → AV

noncomputable def madeVar (cs : List AV) : Made := ⟨.cells (llen cs) 1 (rowOf cs), fun i => .ptr i 0⟩
noncomputable def cellsOk (P : Program) (t : TypeId) : Bool := match ti P t with
  | some _ => true
  | none => false

noncomputable def allocA (P : Program) (t : TypeId) : Option Made := match zeroA P t with
  | some z => cond (lall isCellA (cellsA z)) (some (madeVar (cellsA z))) none
  | none => none
noncomputable def boxA (v : AV) : Option Made := cond (lall isCellA (cellsA v)) (some (madeVar (cellsA v))) none
noncomputable def buildSliceA (P : Program) (t : TypeId) (len : Nat) (parts : List (Nat × AV)) : Option Made := match und P t with
  | some (.slice e) => (match ti P e with
    | some i => cond (Nat.ble (Nat.mul len i.size) 16777216) (cond (Nat.beq i.size 0) none (match zeroA P e with
      | some z => cond (Nat.beq (llen (cellsA z)) i.size) (match fillA (fun k => some (Nat.mul k i.size, i.size)) (lrep (cellsA z) len) parts with
        | some l => cond (lall isCellA l) (cond (Nat.beq (llen l) (Nat.mul len i.size)) (some ⟨.cells i.size len (chop i.size len l 0), fun k => .slice k 0 len (.exact len)⟩) none) none
        | none => none) none
      | none => none)) none
    | none => none)
  | _ => none
where lrep (row : List AV) (n : Nat) : List AV := Nat.rec (motive := fun _ => List AV) [] (fun _ ih => lapp row ih) n
noncomputable def makeSliceA (P : Program) (t : TypeId) (l c : AV) : Option Made := match und P t with
  | some (.slice e) => (match ti P e with
    | some i => (match natOf l with
      | some n => (match natOf c with
        | some m => cond (Nat.ble n m) (cond (Nat.ble m 1000000) (cond (Nat.ble (Nat.mul i.bytes m) 100000000) (cond (Nat.beq i.size 0) none (match zeroA P e with
          | some z => cond (lall isCellA (cellsA z)) (cond (Nat.beq (llen (cellsA z)) i.size) (some ⟨.cells i.size m (reps (cellsA z) m 0), fun k => .slice k 0 n (.exact m)⟩) none) none
          | none => none)) none) none) none
        | none => none)
      | none => none)
    | none => none)
  | _ => none
noncomputable def makeMapA (P : Program) (t : TypeId) (r : Option (Option AV)) : Option Made := match r with
  | some none => some ⟨.map [] 0, .map⟩
  | some (some v) => (match und P t with
    | some (.map _ _) => (match natOf v with | some _ => some ⟨.map [] 0, .map⟩ | none => none)
    | _ => none)
  | none => none

/-- What is made, told of the model: a block is pushed; the value points to it. -/
def MadeOk (P : Program) (E : Env) (m : Made) (W : World) (s : Sem Value) : Prop :=
  ∃ (b : Obj) (v' : Value) (kappa : Nat), s.run P W = .ok v' { W with heap := W.heap.push b } ∧
    (∀ E' : Env, Env.Le E E' → ObjRel E' m.obj (W.heap.size, 0, kappa) b) ∧
    (∀ (E' : Env) (i : Nat), E'.blk i = some (W.heap.size, 0, kappa) → conc E' (m.val i) = some v')

theorem MadeOk.var {cs : List AV} {xs : List Value} {t : TypeId} {s : Sem Value} (h : ∀ E' : Env, Env.Le E E' → concs E' cs = some xs) (hc : lall isCellA cs = true)
    (hs : s.run P W = .ok (.pointer (some ⟨W.heap.size, 0, none⟩)) { W with heap := W.heap.push (.cells xs.toArray t (0, 0)) }) : MadeOk P E (madeVar cs) W s := by
  refine ⟨_, _, xs.length, hs, fun E' hE => ?_, fun E' i hi => ?_⟩
  · have hcc := h E' hE
    have hl := concs_length hcc
    have := objRel_new (e := t) (b := W.heap.size) (rowsRel_one hcc (isCell_all (lall_eq _ _ hc) hcc)) (by simp)
    simp only [madeVar, llen_eq, ← hl]
    simpa using this
  · simp [madeVar, conc, hi]

theorem allocA_ok {t : TypeId} {m : Made} (h : allocA P t = some m) : MadeOk P E m W (Instr.alloc t true (.tuple #[])) := by
  unfold allocA at h
  split at h
  case h_2 => cases h
  rename_i z hz
  obtain ⟨hc, h⟩ := cond_some h
  cases h
  obtain ⟨z', h1, h2⟩ := zeroA_run (W := W) hz
  refine MadeOk.var (xs := z'.cells.toList) (t := t) (fun E' _ => cellsA_conc (h1 E')) hc ?_
  simp [Instr.alloc, h2, newVar, newRow]

theorem boxA_ok {t : TypeId} {v : AV} {v' : Value} {m : Made} (h : boxA v = some m) (hv : conc E v = some v') : MadeOk P E m W (Instr.box t v') := by
  unfold boxA at h
  obtain ⟨hc, h⟩ := cond_some h
  cases h
  refine MadeOk.var (xs := v'.cells.toList) (t := t) (fun E' hE => cellsA_conc (conc_mono hE _ _ hv)) hc ?_
  simp [Instr.box, newVar, newRow]

theorem makeMapA_ok {t : TypeId} {r : Option AV} {r' : Option Value} {m : Made} (h : makeMapA P t (some r) = some m) (hr : OptRel E r r') : MadeOk P E m W (Instr.makeMap t r') := by
  have key : (Instr.makeMap t r').run P W = .ok (.map (some W.heap.size)) { W with heap := W.heap.push (.map #[] 0) } ∧ m = ⟨.map [] 0, .map⟩ := by
    cases r with
    | none =>
      cases r' with
      | some _ => exact hr.elim
      | none => unfold makeMapA at h; cases h; exact ⟨by simp [Instr.makeMap], rfl⟩
    | some v =>
      cases r' with
      | none => exact hr.elim
      | some v' =>
        unfold makeMapA at h
        simp only at h
        split at h
        case h_2 => cases h
        rename_i k e hu
        split at h
        case h_2 => cases h
        rename_i n hn
        cases h
        obtain ⟨q, rfl⟩ := natOf_int hn
        simp only [OptRel, conc, Option.some.injEq] at hr
        subst hr
        exact ⟨by simp [Instr.makeMap, run_und hu, asInt, asIntOf], rfl⟩
  obtain ⟨key, rfl⟩ := key
  refine ⟨_, _, 0, key, fun E' _ => ?_, fun E' i hi => ?_⟩
  · simp only [ObjRel]; exact ⟨trivial, .nil⟩
  · simp [conc, hi]

theorem lrep_conc {row : List AV} {xs : List Value} (h : concs E row = some xs) : ∀ n, concs E (buildSliceA.lrep row n) = some (List.replicate n xs).flatten
  | 0 => rfl
  | n + 1 => by
    show concs E (lapp row (buildSliceA.lrep row n)) = _
    rw [lapp_eq, List.replicate_succ, List.flatten_cons]
    exact concs_append h (lrep_conc h n)

theorem zero_cells {z : Array Value} {n : Nat} (hz : z.size ≠ 0) : (Array.range (n * z.size)).map (z[· % z.size]!) = ((List.replicate n z.toList).flatten).toArray := by
  apply Array.toList_inj.1
  simp only [Array.toList_map, Array.toList_range]
  induction n with
  | zero => simp
  | succ n ih =>
    have e : (n + 1) * z.size = n * z.size + z.size := by rw [Nat.add_mul, Nat.one_mul]
    rw [e, List.range_add, List.map_append, ih, List.replicate_succ', List.flatten_append]
    congr 1
    simp only [List.flatten_cons, List.flatten_nil, List.append_nil, List.map_map]
    apply List.ext_getElem?
    intro i
    simp only [List.getElem?_map, List.getElem?_range]
    by_cases hi : i < z.size
    · rw [List.getElem?_eq_getElem (by simpa using hi)]
      simp [List.getElem?_range hi, Nat.mul_add_mod, Nat.mod_eq_of_lt hi, hi]
    · rw [List.getElem?_eq_none (by simpa using hi)]
      simp; omega

theorem buildSliceA_ok {t : TypeId} {len : Nat} {parts : List (Nat × AV)} {m : Made} (h : buildSliceA P t len parts = some m) {ps : Array (Nat × Value)}
    (hp : F2 (fun (p : Nat × AV) (q : Nat × Value) => p.1 = q.1 ∧ conc E p.2 = some q.2) parts ps.toList) : MadeOk P E m W (Instr.buildSlice t len ps) := by
  unfold buildSliceA at h
  split at h
  case h_2 => cases h
  rename_i e hu
  split at h
  case h_2 => cases h
  rename_i i hi
  obtain ⟨h1, h⟩ := cond_some h
  have h1 : len * i.size ≤ 16777216 := ble_iff h1
  cases hz0 : Nat.beq i.size 0
  case true => rw [hz0] at h; cases h
  rw [hz0] at h
  simp only [cond_false] at h
  have hsz := Nat.ne_of_beq_eq_false hz0
  split at h
  case h_2 => cases h
  rename_i z hz
  obtain ⟨h2, h⟩ := cond_some h
  have h2 := Nat.eq_of_beq_eq_true h2
  rw [llen_eq] at h2
  split at h
  case h_2 => cases h
  rename_i l hl
  obtain ⟨h3, h⟩ := cond_some h
  obtain ⟨h4, h⟩ := cond_some h
  have h4 := Nat.eq_of_beq_eq_true h4
  rw [llen_eq] at h4
  have h4 : l.length = len * i.size := h4
  cases h
  obtain ⟨z', k1, k2⟩ := zeroA_run (W := W) hz
  have hzs : z'.cells.size = i.size := by
    have := concs_length (cellsA_conc (k1 E))
    simp only [Array.length_toList] at this; omega
  have hzeros := zero_cells (z := z'.cells) (n := len) (by omega)
  have fill : ∀ E' : Env, Env.Le E E' → ∃ cs', Instr.fill (fun k => some (k * i.size, i.size)) ((List.replicate len z'.cells.toList).flatten).toArray ps.toList = some cs' ∧ concs E' l = some cs'.toList := by
    intro E' hE
    refine fillA_sound (E := E') (ρ := fun _ => undef) _ _ _ _ _ hl ?_ (forall2_mono (fun _ _ q => ⟨q.1, conc_mono hE _ _ q.2⟩) hp)
    simpa using lrep_conc (cellsA_conc (k1 E')) len
  obtain ⟨cs', f1, f2⟩ := fill E (.refl E)
  have hcs : cs'.size = len * i.size := by have := concs_length f2; simp only [Array.length_toList] at this; omega
  refine ⟨.cells cs' e (0, 0), .slice (some ⟨W.heap.size, 0, none⟩) len len, cs'.size, ?_, fun E' hE => ?_, fun E' k hk => ?_⟩
  · simp only [Instr.buildSlice, Sem.run_bind, run_und hu, Result.andThen_ok, run_size hi]
    rw [if_neg (by omega)]
    by_cases hl0 : len * i.size = 0
    · have hlen : len = 0 := by
        rcases Nat.mul_eq_zero.1 hl0 with h | h
        · exact h
        · exact absurd h hsz
      subst hlen
      simp only [List.replicate_zero, List.flatten_nil] at f1
      have f1' : Instr.fill (fun k => some (k * i.size, i.size)) #[] ps.toList = some cs' := f1
      simp [f1', newRow, Array.range_zero']
    · rw [if_neg hl0]
      simp only [Sem.run_bind, k2, Result.andThen_ok, Sem.run_pure]
      rw [← hzs] at f1 ⊢
      rw [hzeros, f1]
      simp [newRow]
  · obtain ⟨cs2, g1, g2⟩ := fill E' hE
    rw [f1] at g1; cases g1
    refine objRel_new (rowsRel_chop g2 (isCell_all (lall_eq _ _ h3) g2) (by simp [hcs]) _ (fun j _ => by simp)) (by omega)
  · simp [conc, hk]

theorem reps_rel {row : List AV} {xs : List Value} {n sz : Nat} (h : concs E row = some xs) (hc : ∀ x ∈ xs, isCell x = true) (hl : xs.length = sz) :
    RowsRel E ((List.replicate n xs).flatten).toArray 0 sz n (reps row n 0) := by
  intro r hr
  refine ⟨row, xs, reps_get row n 0 r (by omega) (by omega), h, hl, hc, fun j hj => ?_⟩
  simp only [Nat.zero_add, List.getElem?_toArray]
  have : ∀ (n r : Nat), r < n → ((List.replicate n xs).flatten)[r * sz + j]? = xs[j]? := by
    intro n
    induction n with
    | zero => intro r hr; omega
    | succ n ih =>
      intro r hr
      rw [List.replicate_succ, List.flatten_cons]
      cases r with
      | zero => rw [List.getElem?_append_left (by omega)]; congr 1; omega
      | succ r =>
        rw [List.getElem?_append_right (by rw [Nat.add_mul]; omega), ← ih r (by omega)]
        congr 1
        rw [Nat.add_mul]; omega
  exact this n r hr

theorem makeSliceA_ok {t : TypeId} {l c : AV} {l' c' : Value} {m : Made} (h : makeSliceA P t l c = some m) (hl : conc E l = some l') (hc : conc E c = some c') : MadeOk P E m W (Instr.makeSlice t l' c') := by
  unfold makeSliceA at h
  split at h
  case h_2 => cases h
  rename_i e hu
  split at h
  case h_2 => cases h
  rename_i i hi
  split at h
  case h_2 => cases h
  rename_i n hn
  split at h
  case h_2 => cases h
  rename_i q hq
  obtain ⟨h1, h⟩ := cond_some h
  obtain ⟨h2, h⟩ := cond_some h
  obtain ⟨h3, h⟩ := cond_some h
  have h1 := ble_iff h1
  have h2 := ble_iff h2
  have h3 : i.bytes * q ≤ 100000000 := ble_iff h3
  cases hz0 : Nat.beq i.size 0
  case true => rw [hz0] at h; cases h
  rw [hz0] at h
  simp only [cond_false] at h
  have hsz := Nat.ne_of_beq_eq_false hz0
  split at h
  case h_2 => cases h
  rename_i z hz
  obtain ⟨h4, h⟩ := cond_some h
  obtain ⟨h5, h⟩ := cond_some h
  have h5 := Nat.eq_of_beq_eq_true h5
  rw [llen_eq] at h5
  cases h
  obtain ⟨k1, rfl⟩ := natOf_int hn
  obtain ⟨k2, rfl⟩ := natOf_int hq
  simp only [conc, Option.some.injEq] at hl hc
  subst hl; subst hc
  obtain ⟨z', g1, g2⟩ := zeroA_run (W := W) hz
  have hzs : z'.cells.size = i.size := by
    have := concs_length (cellsA_conc (g1 E))
    simp only [Array.length_toList] at this; omega
  have hzeros := zero_cells (z := z'.cells) (n := q) (by omega)
  have w1 : IntKind.i64.wrap (n : Int) = n := by simp [IntKind.wrap, IntKind.bits, IntKind.signed]; omega
  have w2 : IntKind.i64.wrap (q : Int) = q := by simp [IntKind.wrap, IntKind.bits, IntKind.signed]; omega
  have hb : ((i.bytes : Int) * (q : Int)) ≤ 100000000 := by
    have : ((i.bytes * q : Nat) : Int) ≤ 100000000 := by omega
    simpa using this
  refine ⟨.cells ((List.replicate q z'.cells.toList).flatten).toArray e (0, 0), .slice (some ⟨W.heap.size, 0, none⟩) n q, ((List.replicate q z'.cells.toList).flatten).toArray.size, ?_, fun E' hE => ?_, fun E' k hk => ?_⟩
  · simp only [Instr.makeSlice, Sem.run_bind, run_und hu, Result.andThen_ok, run_ti hi, asInt, asIntOf, Sem.run_pure, w1, w2]
    rw [if_neg (by simp; omega)]
    simp only [run_askRoom, Sem.run_bind, Result.andThen_ok, Int.toNat_natCast, run_size hi]
    by_cases hq0 : q * i.size = 0
    · have : q = 0 := by
        rcases Nat.mul_eq_zero.1 hq0 with h | h
        · exact h
        · exact absurd h hsz
      subst this
      simp [newRow, Array.range_zero']
    · rw [if_neg hq0]
      simp only [Sem.run_bind, g2, Result.andThen_ok, Sem.run_pure]
      rw [← hzs, hzeros]
      simp [newRow]
  · have hcc := cellsA_conc (g1 E')
    refine objRel_new (reps_rel hcc (isCell_all (lall_eq _ _ h4) hcc) (by simp [hzs])) ?_
    simp [hzs]
  · simp [conc, hk]
end
end Go.PE
