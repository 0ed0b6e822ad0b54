/-
  THE ENGINE, 13: delete, append, copy, clear, ranging over a map.
-/
import Derived.Test.YtmnjpaholemebaaGreatDoorE12
namespace Go.PE
open Go

section
variable {P : Program} {W : World} {E : Env} {A : AH}

noncomputable def deleteA (P : Program) (t : TypeId) (m k : AV) (A : AH) : Option AH := match und P t with
  | some (.map kt _) => (match keyKs P kt with
    | some (ag, ks) => cond (shapeA ag k) (cond (keyOk ks (cellsA k)) (match m with
      | .map b => (match A.heap.get b with
        | some (.map es clock) => cond (lall (fun e => shapeA ag e.1) es) (match findA ks (cellsA k) es 0 with
          | some (some (i, _)) => some ⟨A.heap.set b (.map (ldel i es) clock), A.next⟩
          | some none => some ⟨A.heap.set b (.map es clock), A.next⟩
          | none => none) none
        | _ => none)
      | _ => none) none) none
    | none => none)
  | _ => none

theorem deleteA_sound [Amb] (hr : Rel E A W) {t ty : TypeId} {m k : AV} {A' : AH} (h : deleteA P t m k A = some A') {m' k' : Value} (hm : conc E m = some m') (hk : conc E k = some k') {ts : Array TypeId} (hts : ts[0]? = some t) :
    ∃ W', (Builtin.delete_ ts ty #[m', k']).run P W = .ok (.tuple #[]) W' ∧ Rel E A' W' ∧ Step E A W E A' W' := by
  unfold deleteA at h
  split at h
  case h_2 => cases h
  rename_i kt et hu
  split at h
  case h_2 => cases h
  rename_i ag ks hks
  obtain ⟨hsh, h⟩ := cond_some h
  obtain ⟨hok, h⟩ := cond_some h
  have hS := shapeA_sound hsh hk
  have hF := keyOk_fits hok hk
  obtain ⟨g1, _, g3, _⟩ := keyKs_facts (P := P) (W := W) hks
  have hck : ∀ em, (Instr.checkKey em 10000 kt k').run P W = .ok () W := fun em => by
    have := g1 em _ hF
    rw [← hS] at this; exact this
  split at h
  case h_2 => cases h
  split at h
  case h_2 => cases h
  rename_i es clock hg
  obtain ⟨hall, h⟩ := cond_some h
  obtain ⟨y, hy, rfl⟩ := conc_map hm
  obtain ⟨o, ho, hrel⟩ := hr.obj _ _ y hg hy
  cases o <;> simp only [ObjRel] at hrel
  rename_i ces clk
  obtain ⟨rfl, hes⟩ := hrel
  have hgo : (getObj y.1).run P W = .ok (.map ces clk) W := by simp [getObj, Sem.run, ho]
  have hss := shapes_of hall hes
  have hset : ∀ c : Obj, (setObj y.1 c).run P W = .ok () { W with heap := W.heap.setIfInBounds y.1 c } := fun c => by simp [setObj, Sem.run, ho]
  split at h
  · rename_i i v0 hf
    cases h
    obtain ⟨r', k1, k2⟩ := findKey_sound (P := P) (W := W) hks hk hS hes hss hf
    cases r' with
    | none => exact k1.elim
    | some q =>
      obtain ⟨j, x⟩ := q
      obtain ⟨rfl, k1⟩ := k1
      obtain ⟨w1, w2⟩ := writeObj hr hg hy ho (o' := .map (ldel i es) clk) (c' := .map (ces.eraseIdxIfInBounds i) clk) (by
        simp only [ObjRel]
        refine ⟨trivial, ?_⟩
        rw [Array.toList_eraseIdxIfInBounds]
        exact F2.ldel i hes)
      refine ⟨_, ?_, w1, w2⟩
      simp [Builtin.delete_, hts, run_und hu, hgo, hck, k2, hset]
  · rename_i hf
    cases h
    obtain ⟨r', k1, k2⟩ := findKey_sound (P := P) (W := W) hks hk hS hes hss hf
    cases r' with
    | some q => exact k1.elim
    | none =>
      obtain ⟨w1, w2⟩ := writeObj hr hg hy ho (o' := .map es clk) (c' := .map ces clk) (by
        simp only [ObjRel]; exact ⟨trivial, hes⟩)
      refine ⟨_, ?_, w1, w2⟩
      simp [Builtin.delete_, hts, run_und hu, hgo, hck, k2, hset]
  · cases h

/-! ### The elements of a slice or of a string -/
noncomputable def byteAV (n : Nat) : AV := .int .u8 (.ofNat (Nat.mod n 256))
/-- How many elements, and the first so many elements' cells. -/
noncomputable def countA (x : AV) : Option Nat := match x with
  | .nilslice => some 0
  | .slice _ _ n _ => some n
  | .str s => some (llen s)
  | _ => none
noncomputable def firstA (size n : Nat) (x : AV) (A : AH) : Option (List AV) := match x with
  | .nilslice => some []
  | .slice b off len _ => (match n with
    | 0 => some []
    | n => cond (Nat.ble n len) (rdCells A b off (Nat.mul n size)) none)
  | .str s => some (lmap byteAV (ltake n s))
  | _ => none
theorem countA_sound {x : AV} {n : Nat} (h : countA x = some n) {x' : Value} (hx : conc E x = some x') : (Builtin.lenOf x').run P W = .ok n W := by
  unfold countA at h
  split at h
  · cases h; simp only [conc, Option.some.injEq] at hx; subst hx; rfl
  · cases h; obtain ⟨y, a0, c, _, rfl, _⟩ := conc_slice hx; rfl
  · cases h; simp only [conc, Option.some.injEq] at hx; subst hx
    rw [llen_eq]
    have : (strOf ‹List Nat›).size = (‹List Nat›).length := by simp [strOf, ByteArray.size]
    simp only [Builtin.lenOf, Sem.run_pure, this]
  · cases h

theorem concs_bytes (s : List Nat) : concs E (s.map byteAV) = some (s.map fun n => .int .u8 ((UInt8.ofNat n).toNat : Int)) := by
  induction s with
  | nil => rfl
  | cons n s ih =>
    simp only [List.map_cons, concs, ih]
    simp only [byteAV, conc, Option.bind_some, Option.map_some]
    congr 3

theorem firstA_sound [Amb] (hr : Rel E A W) {size n : Nat} {x : AV} {vs : List AV} (h : firstA size n x A = some vs) {x' : Value} (hx : conc E x = some x') :
    ∃ xs, concs E vs = some xs ∧ (∀ v ∈ xs, isCell v = true) ∧ (Builtin.firstCells size n x').run P W = .ok xs.toArray W := by
  unfold firstA at h
  split at h
  · cases h
    simp only [conc, Option.some.injEq] at hx
    subst hx
    exact ⟨[], rfl, by simp, rfl⟩
  · rename_i b off len cap
    obtain ⟨y, a0, c, hy, rfl, hcap⟩ := conc_slice hx
    split at h
    · cases h
      refine ⟨[], rfl, by simp, ?_⟩
      simp [Builtin.firstCells, loadCells, loadCellsFrom]
    · rename_i hn
      obtain ⟨h1, h⟩ := cond_some h
      have h1 := ble_iff h1
      rcases hcap with ⟨rfl, _⟩ | ⟨h0, _⟩
      case inr => exact absurd (by omega) hn
      obtain ⟨xs, k1, k2, k3, k4⟩ := rd_run (P := P) hr hy h
      refine ⟨xs, k1, k3, ?_⟩
      simp only [Builtin.firstCells]
      exact k4
  · rename_i s
    cases h
    simp only [conc, Option.some.injEq] at hx
    subst hx
    rw [lmap_eq, ltake_eq]
    refine ⟨_, concs_bytes _, ?_, ?_⟩
    · intro v hv
      simp only [List.mem_map] at hv
      obtain ⟨_, _, rfl⟩ := hv; rfl
    · simp only [Builtin.firstCells, Sem.run_pure]
      congr 1
      apply Array.toList_inj.1
      have : ((strOf s).extract 0 n).data = (strOf s).data.extract 0 n := ByteArray.data_extract
      simp only [Array.toList_map, this]
      simp [strOf, List.extract, List.map_take, Function.comp_def]
  · cases h

theorem ldRow_length [Amb] {A : AH} {b off n : Nat} {vs : List AV} {x : Nat × Nat × Nat} (hr : Rel E A W) (hx : E.blk b = some x) (h : rdCells A b off n = some vs) : vs.length = n := by
  obtain ⟨xs, h1, h2, _⟩ := rdCells_sound hr hx h
  have := concs_length h1; omega
theorem firstA_length [Amb] (hr : Rel E A W) {size n : Nat} {b off len : Nat} {cap : Cap} {vs : List AV} (h : firstA size n (.slice b off len cap) A = some vs) {x' : Value} (hx : conc E (.slice b off len cap) = some x') : vs.length = n * size := by
  obtain ⟨y, a0, c, hy, _, _⟩ := conc_slice hx
  unfold firstA at h
  simp only at h
  split at h
  · cases h; simp
  · obtain ⟨_, h⟩ := cond_some h
    exact ldRow_length hr hy h

/-! ### append -/
noncomputable def elemA (P : Program) (t : TypeId) : Option (TypeId × TypeInfo) := match und P t with
  | some (.slice e) => (match ti P e with | some i => some (e, i) | none => none)
  | _ => none
/-- Is what is appended no number (append of a make)? -/
noncomputable def plainX (P : Program) (t : TypeId) : Bool := match und P t with
  | some (.slice _) => true
  | some .string => true
  | _ => false
noncomputable def freshSlice (A : AH) (sz n : Nat) (cs : List AV) : AV × AH :=
  (.slice A.next 0 n (.upto sz), newObjA A (.cells sz n (chop sz n cs 0)))
noncomputable def appendA (P : Program) (st xt : TypeId) (s x : AV) (A : AH) : Option (AV × AH) :=
  match elemA P st with
  | none => none
  | some (_, i) => cond (plainX P xt) (cond (Nat.beq i.size 0) none (cond (Nat.ble i.bytes 1000000) (match countA x with
    | none => none
    | some n => (match firstA i.size n x A with
      | none => none
      | some new => cond (lall isCellA new) (cond (Nat.beq (llen new) (Nat.mul n i.size)) (match s with
        | .nilslice => (match n with
          | 0 => some (.nilslice, A)
          | n => cond (Nat.ble n 1000000) (some (freshSlice A i.size n new)) none)
        | .slice b off len cap => (match cap with
          | .exact c => cond (Nat.ble (Nat.add len n) c)
              (match stCells A b (Nat.add off (Nat.mul len i.size)) new with | some A' => some (.slice b off (Nat.add len n) (.exact c), A') | none => none)
              (cond (Nat.ble (Nat.add len n) 1000000) (match firstA i.size len s A with
                | some old => some (freshSlice A i.size (Nat.add len n) (lapp old new))
                | none => none) none)
          | .upto sz => cond (Nat.beq sz i.size) (cond (Nat.ble (Nat.add off (Nat.mul (Nat.add len n) sz)) (knownOf A b))
              (match stCells A b (Nat.add off (Nat.mul len i.size)) new with | some A' => some (.slice b off (Nat.add len n) (.upto sz), A') | none => none)
              (cond (Nat.ble (Nat.add len n) 1000000) (match firstA i.size len s A with
                | some old => (match A.heap.get b with
                  | some (.cells _ _ _) => some (freshSlice ⟨A.heap.del b, A.next⟩ i.size (Nat.add len n) (lapp old new))
                  | _ => none)
                | none => none) none)) none
          | .empty _ _ => none)
        | _ => none) none) none)) none)) none

theorem growBy_le (newLen : Nat) : ∀ (r c : Nat), c < newLen → Builtin.growBy newLen r c ≤ 2 * newLen + 768
  | 0, c, h => by simp [Builtin.growBy]; omega
  | r + 1, c, h => by
    simp only [Builtin.growBy]
    rw [if_neg (by omega)]
    by_cases h2 : c + (c + 768) / 4 < newLen
    · exact growBy_le newLen r _ h2
    · cases r with
      | zero => simp only [Builtin.growBy]; omega
      | succ r => simp only [Builtin.growBy]; rw [if_pos (by omega)]; omega
theorem nextcap_le {need c : Nat} (h : c < need) : Builtin.nextslicecap need c ≤ 2 * need + 768 := by
  unfold Builtin.nextslicecap
  split
  · omega
  · split
    · omega
    · exact growBy_le need 4 c h

theorem elemA_run {t e : TypeId} {i : TypeInfo} (h : elemA P t = some (e, i)) : und P t = some (.slice e) ∧ ti P e = some i := by
  unfold elemA at h
  split at h
  case h_2 => cases h
  rename_i e' hu
  split at h
  case h_2 => cases h
  rename_i i' hi
  cases h
  exact ⟨hu, hi⟩

/-- A grown slice: the model's block, and the abstract one. -/
theorem fresh_sound [Amb] (hr : Rel E A W) {sz n : Nat} {cs : List AV} {xs : List Value} (hc : concs E cs = some xs) (hcell : ∀ x ∈ xs, isCell x = true) (hl : xs.length = n * sz) (hsz : 0 < sz) (ys : List Value) (e : TypeId) (cap : Nat)
    (hcap : n ≤ cap) (hys : ys.length = (cap - n) * sz) (d : Nat) :
    ∃ E', Rel E' (freshSlice A sz n cs).2 ({ W with drawn := d, heap := W.heap.push (.cells (xs ++ ys).toArray e (0, 0)) } : World) ∧
      Step E A W E' (freshSlice A sz n cs).2 ({ W with drawn := d, heap := W.heap.push (.cells (xs ++ ys).toArray e (0, 0)) } : World) ∧
      conc E' (freshSlice A sz n cs).1 = some (.slice (some ⟨W.heap.size, 0, none⟩) n cap) := by
  have hr' := hr.drawn d
  have hcs : (xs ++ ys).length = cap * sz := by
    rw [List.length_append, hl, hys, ← Nat.add_mul]
    congr 1; omega
  have hle : n * sz ≤ cap * sz := Nat.mul_le_mul_right _ hcap
  have hb : (E.bind A.next (W.heap.size, 0, cap * sz)).blk A.next = some (W.heap.size, 0, cap * sz) := Env.bind_same
  have hle2 : Env.Le E (E.bind A.next (W.heap.size, 0, cap * sz)) := Env.bind_le (hr.fresh _ (Nat.le_refl _))
  obtain ⟨k1, k2⟩ := hr'.new (o := .cells sz n (chop sz n cs 0)) (b := .cells (xs ++ ys).toArray e (0, 0)) (cap * sz) (by
    have := objRel_new (E := E.bind A.next (W.heap.size, 0, cap * sz)) (e := e) (b := W.heap.size) (cs := (xs ++ ys).toArray) (rowsRel_chop (concs_mono hle2 _ _ hc) hcell (n := n) (sz := sz) (by omega) (xs ++ ys).toArray (fun j hj => by
      simp only [List.getElem?_toArray]
      rw [List.getElem?_append_left (by omega)])) (by simp only [List.size_toArray, hcs]; exact hle)
    simp only [List.size_toArray, hcs] at this
    exact this)
  refine ⟨_, k1, (Step.drawn (E := E) (A := A) (W := W) d).trans k2, ?_⟩
  simp only [freshSlice, conc, hb, Option.bind_some]
  rw [if_pos ⟨by omega, hsz⟩]
  congr 2
  simp [hsz]

theorem run_appendCap {need c : Nat} {e : TypeId} : ∃ cap, need ≤ cap ∧ (choose (.appendCap need c e)).run P W = .ok cap { W with drawn := W.drawn + 1 } := by
  refine ⟨need + W.tape W.drawn (.appendCap need c e) % (2 ^ 63 - need), by omega, ?_⟩
  simp [Question.forced, Question.cut]

theorem zero_rest {t : TypeId} {i : TypeInfo} (hi : ti P t = some i) {z : AV} (hz : zeroA P t = some z) (hl : llen (cellsA z) = i.size) (h0 : i.size ≠ 0) :
    ∃ z', (zeroValue t).run P W = .ok z' W ∧ z'.cells.size = i.size := by
  obtain ⟨z', h1, h2⟩ := zeroA_run (W := W) hz
  refine ⟨z', h2, ?_⟩
  have := concs_length (cellsA_conc (h1 ⟨fun _ => none, fun _ => 0, fun _ => undef⟩))
  simp only [Array.length_toList] at this
  rw [llen_eq] at hl; omega

/-- A block is let go: nothing tells of it any more. -/
theorem Rel.drop [Amb] (hr : Rel E A W) (b : Nat) : Rel E ⟨A.heap.del b, A.next⟩ W where
  obj := fun j oj y hj hy => by
    simp only [T.get_del] at hj
    split at hj
    · cases hj
    · exact hr.obj j oj y hj hy
  inj := fun j k oj ok y z hj hk hy hz e => by
    simp only [T.get_del] at hj hk
    split at hj
    · cases hj
    split at hk
    · cases hk
    exact hr.inj j k oj ok y z hj hk hy hz e
  fresh := hr.fresh
  dead := fun j hj => by
    show (A.heap.del b).get j = none
    rw [T.get_del]; split
    · rfl
    · exact hr.dead j hj
  bound := hr.bound
  amb := hr.amb
  names := hr.names
theorem Step.drop {b : Nat} {y : Nat × Nat × Nat} (hy : E.blk b = some y) : Step E A W E ⟨A.heap.del b, A.next⟩ W where
  le := .refl E
  os := rfl
  tape := rfl
  output := rfl
  size := Nat.le_refl _
  frame := fun _ _ _ => rfl
  img := fun i x h _ => ⟨i, x, h, rfl⟩
  next := Nat.le_refl _
  ghost := fun j _ hj => ⟨hj, by
    show (A.heap.del b).get j = _
    rw [T.get_del, if_neg (fun e => by subst e; rw [hy] at hj; cases hj)]⟩

/-- A window over a block that nothing else tells of. -/
theorem Rel.window [Amb] (hr : Rel E A W) {o : AObj} {x : Nat × Nat × Nat} {c : Obj} (hb : W.heap[x.1]? = some c) (hfree : ∀ j oj y, A.heap.get j = some oj → E.blk j = some y → y.1 ≠ x.1)
    (hn0 : Amb.n0 ≤ x.1) (hrel : ObjRel (E.bind A.next x) o x c) : Rel (E.bind A.next x) (newObjA A o) W where
  obj := fun j oj y hj hy => by
    simp only [Env.bind] at hy
    split at hy
    · rename_i e; subst e; cases hy
      rw [newObjA_get_new] at hj; cases hj
      exact ⟨c, hb, hrel⟩
    · rename_i e
      have hj' : A.heap.get j = some oj := by
        simp only [newObjA, T.get_set] at hj
        rw [if_neg (fun h => e h.symm)] at hj; exact hj
      obtain ⟨b', h1, h2⟩ := hr.obj j oj y hj' hy
      exact ⟨b', h1, h2.mono (Env.bind_le (hr.fresh _ (Nat.le_refl _)))⟩
  inj := fun j k oj ok y z hj hk hy hz e => by
    simp only [Env.bind] at hy hz
    simp only [newObjA, T.get_set] at hj hk
    by_cases ej : j = A.next <;> by_cases ek : k = A.next
    · rw [ej, ek]
    · rw [if_pos ej] at hy; cases hy
      rw [if_neg ek] at hz
      rw [if_neg (fun h => ek h.symm)] at hk
      exact absurd e.symm (hfree k ok z hk hz)
    · rw [if_pos ek] at hz; cases hz
      rw [if_neg ej] at hy
      rw [if_neg (fun h => ej h.symm)] at hj
      exact absurd e (hfree j oj y hj hy)
    · rw [if_neg ej] at hy; rw [if_neg ek] at hz
      rw [if_neg (fun h => ej h.symm)] at hj; rw [if_neg (fun h => ek h.symm)] at hk
      exact hr.inj j k oj ok y z hj hk hy hz e
  fresh := fun j hj => by
    have : A.next + 1 ≤ j := hj
    simp only [Env.bind]
    rw [if_neg (by omega)]; exact hr.fresh j (by omega)
  dead := fun j hj => by
    have : A.next + 1 ≤ j := hj
    simp only [newObjA, T.get_set]
    rw [if_neg (by omega)]; exact hr.dead j (by omega)
  bound := fun j y hy => by
    simp only [Env.bind] at hy
    split at hy
    · cases hy
      rcases Nat.lt_or_ge x.1 W.heap.size with h | h
      · exact h
      · rw [Array.getElem?_eq_none h] at hb; cases hb
    · exact hr.bound j y hy
  amb := ⟨hr.amb.1, hr.amb.2.1, fun j y hy => by
      simp only [Env.bind] at hy
      split at hy
      · cases hy; exact hn0
      · exact hr.amb.2.2 j y hy⟩
  names := hr.names

theorem Step.window {o : AObj} {x y : Nat × Nat × Nat} {b : Nat} (hf : E.blk A.next = none) (hy : E.blk b = some y) (hx : x.1 = y.1) : Step E A W (E.bind A.next x) (newObjA A o) W where
  le := Env.bind_le hf
  os := rfl
  tape := rfl
  output := rfl
  size := Nat.le_refl _
  frame := fun _ _ _ => rfl
  img := fun i z h _ => by
    simp only [Env.bind] at h
    split at h
    · cases h; exact ⟨b, y, hy, hx.symm⟩
    · exact ⟨i, z, h, rfl⟩
  next := Nat.le_succ _
  ghost := fun j hj hn => ⟨by simp only [Env.bind]; rw [if_neg (by omega)]; exact hn, newObjA_get_old hj⟩

/-- The state behind a row of stores, told of the world alone. -/
theorem Step.raw {W' : World} {x y : Nat × Nat × Nat} {b : Nat} (hy : E.blk b = some y) (hx : x.1 = y.1) (hother : ∀ k, k ≠ x.1 → W'.heap[k]? = W.heap[k]?) (hsize : W'.heap.size = W.heap.size) (hos : W'.os = W.os) (ht : W'.tape = W.tape) (ho : W'.output = W.output) :
    Step E A W E A W' where
  le := .refl E
  os := hos
  tape := ht
  output := ho
  size := by omega
  frame := fun k _ hk => hother k fun e => hk b y hy (by omega)
  img := fun j z hz _ => ⟨j, z, hz, rfl⟩
  next := Nat.le_refl _
  ghost := fun j _ hj => ⟨hj, rfl⟩
theorem Rel.raw [Amb] (hr : Rel E A W) {W' : World} {x : Nat × Nat × Nat} (hn0 : Amb.n0 ≤ x.1) (hfree : ∀ j oj y, A.heap.get j = some oj → E.blk j = some y → y.1 ≠ x.1) (hother : ∀ k, k ≠ x.1 → W'.heap[k]? = W.heap[k]?) (hsize : W'.heap.size = W.heap.size) : Rel E A W' where
  obj := fun j oj y hj hy => by
    obtain ⟨b, h1, h2⟩ := hr.obj j oj y hj hy
    exact ⟨b, by rw [hother _ (hfree j oj y hj hy)]; exact h1, h2⟩
  inj := hr.inj
  fresh := hr.fresh
  dead := hr.dead
  bound := fun j y hy => by rw [hsize]; exact hr.bound j y hy
  amb := ⟨by rw [hsize]; exact hr.amb.1, fun k hk => by rw [hother k (by omega)]; exact hr.amb.2.1 k hk, hr.amb.2.2⟩
  names := hr.names

/-- What is known of the block behind a slice of unknown room. -/
theorem slice_block [Amb] (hr : Rel E A W) {b : Nat} {y : Nat × Nat × Nat} {esz nr : Nat} {rows : T (List AV)} (hy : E.blk b = some y) (hob : A.heap.get b = some (.cells esz nr rows)) :
    ∃ cs e fr, W.heap[y.1]? = some (.cells cs e fr) ∧ y.2.1 + y.2.2 ≤ cs.size ∧ ∀ k, y.2.1 ≤ k → k < y.2.1 + y.2.2 → ¬ (fr.1 ≤ k ∧ k < fr.2) := by
  obtain ⟨o, ho, hrel⟩ := hr.obj b _ y hob hy
  cases o <;> simp only [ObjRel] at hrel
  exact ⟨_, _, _, ho, hrel.2.1, hrel.2.2.2⟩
theorem firstA_cells [Amb] (hr : Rel E A W) {size n b off len : Nat} {cap : Cap} {y : Nat × Nat × Nat} (hy : E.blk b = some y) {vs : List AV} (h : firstA size n (.slice b off len cap) A = some vs) {x' : Value} (hx : conc E (.slice b off len cap) = some x') :
    ∃ xs, concs E vs = some xs ∧ (∀ v ∈ xs, isCell v = true) ∧ xs.length = n * size ∧ ∀ j, j < n * size → W.cell? ⟨y.1, y.2.1 + off + j, none⟩ = xs[j]? := by
  unfold firstA at h
  simp only at h
  split at h
  · cases h; exact ⟨[], rfl, by simp, by simp, fun j hj => by simp at hj⟩
  · obtain ⟨_, h⟩ := cond_some h
    obtain ⟨xs, h1, h2, h3, h4⟩ := rdCells_sound hr hy h
    exact ⟨xs, h1, h3, h2, h4⟩
theorem rowsRel_at {base : Nat} {cs : List AV} {xs : List Value} {sz n : Nat} (h : concs E cs = some xs) (hc : ∀ x ∈ xs, isCell x = true) (hl : n * sz ≤ xs.length) :
    ∀ (ys : Array Value), (∀ j, j < n * sz → ys[base + j]? = xs[j]?) → RowsRel E ys base sz n (chop sz n cs 0) := by
  intro ys hy r hr
  have hle : (r + 1) * sz ≤ n * sz := Nat.mul_le_mul_right _ hr
  rw [Nat.add_mul, Nat.one_mul] at hle
  refine ⟨_, (xs.drop (r * sz)).take sz, chop_get sz n cs 0 r (by omega) (by omega), concs_take _ (concs_drop _ h), ?_, ?_, ?_⟩
  · rw [List.length_take, List.length_drop]; omega
  · intro x hx; exact hc x (List.mem_of_mem_drop (List.mem_of_mem_take hx))
  · intro j hj
    rw [Nat.add_assoc, hy _ (by omega), List.getElem?_take, if_pos hj, List.getElem?_drop]

theorem plainX_und {t : TypeId} (h : plainX P t = true) : (∃ e, und P t = some (.slice e)) ∨ und P t = some .string := by
  unfold plainX at h
  split at h
  · rename_i hq; exact .inl ⟨_, hq⟩
  · rename_i hq; exact .inr hq
  · cases h
/-- append where there is room. -/
theorem append_fits {st xt ty e : TypeId} {i : TypeInfo} {base : Option Addr} {sLen sCap n : Nat} {x' : Value} {new : Array Value} (hu : und P st = some (.slice e)) (hi : ti P e = some i)
    (hux : (∃ e, und P xt = some (.slice e)) ∨ und P xt = some .string) (cnt : (Builtin.lenOf x').run P W = .ok n W) (hnew : (Builtin.firstCells i.size n x').run P W = .ok new W) (hc : sLen + n ≤ sCap) :
    (Builtin.append_ #[st, xt] ty #[.slice base sLen sCap, x']).run P W =
      Result.andThen (((match base with | some a => storeCells (a.add (sLen * i.size)) new.toList | none => pure ()) : Sem Unit).run P W) (fun _ W' => .ok (.slice base (sLen + n) sCap) W') := by
  rcases hux with ⟨e', hux⟩ | hux
  · cases base <;> simp [Builtin.append_, run_und hu, run_und hux, run_size hi, cnt, hnew, hc]
  · cases base <;> simp [Builtin.append_, run_und hu, run_und hux, run_size hi, cnt, hnew, hc]
/-- append where there is none. -/
theorem append_grows {st xt ty e : TypeId} {i : TypeInfo} {base : Option Addr} {sLen sCap n cap : Nat} {x' z : Value} {old new : Array Value} (hu : und P st = some (.slice e)) (hi : ti P e = some i)
    (hux : (∃ e, und P xt = some (.slice e)) ∨ und P xt = some .string) (cnt : (Builtin.lenOf x').run P W = .ok n W) (hc : ¬ sLen + n ≤ sCap) (hmax : sLen + n ≤ 1000000)
    (hbig : ¬ (Builtin.nextslicecap (sLen + n) sCap * i.bytes > 2 ^ 48)) (hcap : (choose (.appendCap (sLen + n) sCap e)).run P W = .ok cap { W with drawn := W.drawn + 1 })
    (hold : (Builtin.firstCells i.size sLen (.slice base sLen sCap)).run P { W with drawn := W.drawn + 1 } = .ok old { W with drawn := W.drawn + 1 })
    (hnew : (Builtin.firstCells i.size n x').run P { W with drawn := W.drawn + 1 } = .ok new { W with drawn := W.drawn + 1 })
    (hz : (zeroValue e).run P { W with drawn := W.drawn + 1 } = .ok z { W with drawn := W.drawn + 1 }) :
    (Builtin.append_ #[st, xt] ty #[.slice base sLen sCap, x']).run P W =
      .ok (.slice (some ⟨W.heap.size, 0, none⟩) (sLen + n) cap) { W with drawn := W.drawn + 1, heap := W.heap.push (.cells (old ++ new ++ Builtin.zeroCells z.cells (cap - (sLen + n))) e (0, 0)) } := by
  have hmx : ¬ (((sLen + n : Nat) : Int) > 9223372036854775807) := by omega
  rcases hux with ⟨e', hux⟩ | hux
  · simp only [Builtin.append_, List.getElem?_toArray, List.getElem?_cons_zero, List.getElem?_cons_succ, Sem.run_bind, run_und hu, Result.andThen_ok, run_size hi, run_und hux, Sem.run_pure, cnt, Bool.false_eq_true, if_false, Sem.run_ite, hc, run_ti hi, IntKind.max_i64, hmx, false_and, hbig, hcap, run_askRoom, hold, hnew, hz, Bool.not_false, if_true, newRow, run_newObj]
  · simp only [Builtin.append_, List.getElem?_toArray, List.getElem?_cons_zero, List.getElem?_cons_succ, Sem.run_bind, run_und hu, Result.andThen_ok, run_size hi, run_und hux, Sem.run_pure, cnt, Bool.false_eq_true, if_false, Sem.run_ite, hc, run_ti hi, IntKind.max_i64, hmx, false_and, hbig, hcap, run_askRoom, hold, hnew, hz, Bool.not_false, if_true, newRow, run_newObj]

theorem appendA_sound [Amb] (hr : Rel E A W) {st xt ty : TypeId} {s x v : AV} {A' : AH} (h : appendA P st xt s x A = some (v, A')) (hz : ∃ z, zeroA P (match elemA P st with | some (e, _) => e | none => 0) = some z ∧
      llen (cellsA z) = (match elemA P st with | some (_, i) => i.size | none => 0)) {s' x' : Value} (hs : conc E s = some s') (hx : conc E x = some x') :
    ∃ (v' : Value) (W' : World) (E' : Env), (Builtin.append_ #[st, xt] ty #[s', x']).run P W = .ok v' W' ∧ conc E' v = some v' ∧ Rel E' A' W' ∧ Step E A W E' A' W' := by
  unfold appendA at h
  split at h
  case h_1 => cases h
  rename_i e i he
  rw [he] at hz
  simp only at hz
  obtain ⟨z, hz1, hz2⟩ := hz
  obtain ⟨hu, hi⟩ := elemA_run he
  obtain ⟨hp, h⟩ := cond_some h
  cases hs0 : Nat.beq i.size 0
  case true => rw [hs0] at h; cases h
  rw [hs0] at h
  simp only [cond_false] at h
  have hsz := Nat.ne_of_beq_eq_false hs0
  obtain ⟨hby, h⟩ := cond_some h
  have hby := ble_iff hby
  split at h
  case h_1 => cases h
  rename_i n hn
  split at h
  case h_1 => cases h
  rename_i new hnew
  obtain ⟨hcell, h⟩ := cond_some h
  obtain ⟨hlen, h⟩ := cond_some h
  have hlen := Nat.eq_of_beq_eq_true hlen
  rw [llen_eq] at hlen
  have hlen : new.length = n * i.size := hlen
  -- what is common to all ways
  have hux := plainX_und hp
  have cnt := countA_sound (P := P) (W := W) hn hx
  obtain ⟨xs, n1, n2, n3⟩ := firstA_sound (P := P) hr hnew hx
  have hxl := concs_length n1
  obtain ⟨z', hzr, hzs⟩ := zero_rest (W := W) hi hz1 hz2 hsz
  have big : ∀ (need c : Nat), c < need → need ≤ 1000000 → ¬ (Builtin.nextslicecap need c * i.bytes > 2 ^ 48) := by
    intro need c h1 h2 h3
    have := nextcap_le h1
    have : Builtin.nextslicecap need c * i.bytes ≤ 2000768 * 1000000 := Nat.mul_le_mul (by omega) hby
    omega
  -- the growing way
  have grow : ∀ (base : Option Addr) (sLen sCap : Nat) (ys : List Value) (cs : List AV) (A0 : AH), Rel E A0 W → s' = .slice base sLen sCap → sCap < sLen + n → sLen + n ≤ 1000000 →
      (Builtin.firstCells i.size sLen s').run P { W with drawn := W.drawn + 1 } = .ok ys.toArray { W with drawn := W.drawn + 1 } →
      concs E cs = some (ys ++ xs) → (∀ q ∈ ys ++ xs, isCell q = true) → (ys ++ xs).length = (sLen + n) * i.size →
      ∃ (v' : Value) (W' : World) (E' : Env), (Builtin.append_ #[st, xt] ty #[s', x']).run P W = .ok v' W' ∧ conc E' (freshSlice A0 i.size (sLen + n) cs).1 = some v' ∧
        Rel E' (freshSlice A0 i.size (sLen + n) cs).2 W' ∧ Step E A0 W E' (freshSlice A0 i.size (sLen + n) cs).2 W' := by
    intro base sLen sCap ys cs A0 hr0 hs' hgt hle hys hcs hcc hll
    subst hs'
    obtain ⟨cap, hc1, hc2⟩ := run_appendCap (P := P) (W := W) (need := sLen + n) (c := sCap) (e := e)
    have n3' : (Builtin.firstCells i.size n x').run P { W with drawn := W.drawn + 1 } = .ok xs.toArray { W with drawn := W.drawn + 1 } := by
      obtain ⟨xs2, m1, m2, m3⟩ := firstA_sound (P := P) (hr.drawn (W.drawn + 1)) hnew hx
      rw [n1] at m1; cases m1; exact m3
    obtain ⟨z'', hzr2, hzs2⟩ := zero_rest (W := { W with drawn := W.drawn + 1 }) hi hz1 hz2 hsz
    have hzz : Builtin.zeroCells z''.cells (cap - (sLen + n)) = ((List.replicate (cap - (sLen + n)) z''.cells.toList).flatten).toArray := by
      unfold Builtin.zeroCells
      exact zero_cells (by omega)
    obtain ⟨E', q1, q2, q3⟩ := fresh_sound hr0 hcs hcc hll (Nat.pos_of_ne_zero hsz) ((List.replicate (cap - (sLen + n)) z''.cells.toList).flatten) e cap hc1 (by simp only [List.length_flatten, List.map_replicate, List.sum_replicate_nat, Array.length_toList, hzs2]) (W.drawn + 1)
    have hg := append_grows (P := P) (W := W) (ty := ty) (base := base) hu hi hux cnt (Nat.not_le_of_gt hgt) hle (big _ _ hgt hle) hc2 hys n3' hzr2
    rw [hzz] at hg
    refine ⟨_, _, E', hg.trans ?_, q3, q1, q2⟩
    simp [List.append_assoc]
  have hnil : (Builtin.firstCells i.size 0 (.slice none 0 0)).run P { W with drawn := W.drawn + 1 } = .ok (#[] : Array Value) { W with drawn := W.drawn + 1 } := rfl
  cases s with
  | nilslice =>
    -- onto nil
    simp only [conc, Option.some.injEq] at hs
    subst hs
    simp only at h
    split at h
    · cases h
      have xs0 : xs = [] := by
        have : xs.length = 0 := by omega
        simpa using this
      refine ⟨_, W, E, (append_fits (P := P) (ty := ty) hu hi hux cnt n3 (Nat.le_refl _)).trans ?_, rfl, hr, Step.refl _ _ _⟩
      simp
    · rename_i hn0
      obtain ⟨h1, h⟩ := cond_some h
      have h1 := ble_iff h1
      have hn1 : n ≠ 0 := hn0
      simp only [Option.some.injEq] at h
      obtain ⟨v', W', E', g1, g2, g3, g4⟩ := grow none 0 0 [] new A hr rfl (by omega) (by omega) hnil (by simpa using n1) (by simpa using n2) (by simp; omega)
      rw [Nat.zero_add, h] at g2 g3 g4
      exact ⟨v', W', E', g1, g2, g3, g4⟩
  | slice b off len cap =>
    obtain ⟨y, a0, c', hy, rfl, hcap⟩ := conc_slice hs
    cases cap with
    | exact c =>
      rcases hcap with ⟨rfl, hc⟩ | ⟨_, _, _, e⟩
      case inr => cases e
      simp only [CapSays] at hc
      subst hc
      simp only at h
      cases hf : Nat.ble (Nat.add len n) c'
      · rw [hf] at h
        simp only [cond_false] at h
        have hgt : c' < len + n := by
          rcases Nat.lt_or_ge c' (len + n) with h | h
          · exact h
          · have hh : Nat.ble (Nat.add len n) c' = true := Nat.ble_eq_true_of_le h
            rw [hh] at hf; cases hf
        obtain ⟨h1, h⟩ := cond_some h
        have h1 := ble_iff h1
        split at h
        case h_2 => cases h
        rename_i old hold
        simp only [Option.some.injEq] at h
        obtain ⟨ys, o1, o2, o3⟩ := firstA_sound (P := P) (hr.drawn (W.drawn + 1)) hold hs
        have hyl := concs_length o1
        have hol : old.length = len * i.size := firstA_length hr hold hs
        obtain ⟨v', W', E', g1, g2, g3, g4⟩ := grow _ len c' ys (lapp old new) A hr rfl hgt h1 o3 (by rw [lapp_eq]; exact concs_append o1 n1)
          (fun q hq => by rcases List.mem_append.1 hq with hq | hq; exact o2 q hq; exact n2 q hq) (by rw [List.length_append, Nat.add_mul]; omega)
        have h' : (freshSlice A i.size (len + n) (lapp old new)) = (v, A') := h
        rw [h'] at g2 g3 g4
        exact ⟨v', W', E', g1, g2, g3, g4⟩
      · rw [hf] at h
        simp only [cond_true] at h
        have hf := ble_iff hf
        have hf : len + n ≤ c' := hf
        split at h
        case h_2 => cases h
        rename_i A1 hst
        cases h
        obtain ⟨W', k1, k2, k3⟩ := stCells_sound (P := P) hr hy hst n1
        have k1 : (storeCells ⟨y.1, y.2.1 + (off + len * i.size), none⟩ xs).run P W = .ok () W' := k1
        refine ⟨.slice (some ⟨y.1, y.2.1 + off, none⟩) (len + n) c', W', E, (append_fits (P := P) (ty := ty) hu hi hux cnt n3 hf).trans ?_, ?_, k2, k3⟩
        · simp only [add_addr, Nat.add_assoc] at k1 ⊢
          rw [k1]; rfl
        · simp [conc, hy]
    | upto sz =>
      rcases hcap with ⟨rfl, hc⟩ | ⟨_, _, _, e⟩
      case inr => cases e
      simp only [CapSays] at hc
      obtain ⟨hle, hpos, rfl⟩ := hc
      simp only at h
      obtain ⟨he2, h⟩ := cond_some h
      have he2 := Nat.eq_of_beq_eq_true he2
      subst he2
      cases hf : Nat.ble (Nat.add off (Nat.mul (Nat.add len n) i.size)) (knownOf A b)
      · rw [hf] at h
        simp only [cond_false] at h
        obtain ⟨h1, h⟩ := cond_some h
        have h1 := ble_iff h1
        have h1 : len + n ≤ 1000000 := h1
        split at h
        case h_2 => cases h
        rename_i old hold
        split at h
        case h_2 => cases h
        rename_i esz nr rows hob
        simp only [Option.some.injEq] at h
        have h' : freshSlice ⟨A.heap.del b, A.next⟩ i.size (len + n) (lapp old new) = (v, A') := h
        have hol : old.length = len * i.size := firstA_length hr hold hs
        by_cases hroom : len + n ≤ (y.2.2 - off) / i.size
        · -- there is room: written behind the slice, in its block
          obtain ⟨ys, o1, o2, o3, hcells⟩ := firstA_cells hr hy hold hs
          have hyl := concs_length o1
          have hroom2 : (len + n) * i.size ≤ y.2.2 - off := by rwa [Nat.le_div_iff_mul_le hpos] at hroom
          rw [Nat.add_mul] at hroom2
          obtain ⟨cs, e', fr, ho, hszc, hfr⟩ := slice_block hr hy hob
          obtain ⟨W', cs', k1, k2, k3, k4, k5, k6, k7, k8, k9, k10⟩ := run_storeCells (P := P) (off := y.2.1 + (off + len * i.size)) xs 0 W cs ho (by omega)
            (fun k q1 q2 => hfr k (by omega) (by omega)) n2
          have hfree : ∀ j oj z, (A.heap.del b).get j = some oj → E.blk j = some z → z.1 ≠ y.1 := by
            intro j oj z hj hz2 ee
            rw [T.get_del] at hj
            split at hj
            · cases hj
            · rename_i hne
              exact hne (hr.inj j b oj _ z y hj hob hz2 hy ee).symm
          have hr1 : Rel E ⟨A.heap.del b, A.next⟩ W' := (hr.drop b).raw (hr.amb.2.2 _ _ hy) hfree k5 k6
          have st1 : Step E A W E ⟨A.heap.del b, A.next⟩ W' := (Step.drop hy).trans (Step.raw hy rfl k5 k6 k7 k8 k9)
          have hfr2 : E.blk A.next = none := hr.fresh _ (Nat.le_refl _)
          have hle2 : Env.Le E (E.bind A.next (y.1, y.2.1 + off, y.2.2 - off)) := Env.bind_le hfr2
          have hwin : Rel (E.bind A.next (y.1, y.2.1 + off, y.2.2 - off)) (newObjA ⟨A.heap.del b, A.next⟩ (.cells i.size (len + n) (chop i.size (len + n) (lapp old new) 0))) W' := by
            refine hr1.window (x := (y.1, y.2.1 + off, y.2.2 - off)) k2 (fun j oj z hj hz2 => hfree j oj z hj hz2) (show Amb.n0 ≤ y.1 from hr.amb.2.2 _ _ hy) ?_
            simp only [ObjRel]
            refine ⟨?_, by omega, by rw [Nat.add_mul]; exact hroom2, fun k q1 q2 => hfr k (by omega) (by omega)⟩
            have hcc : concs (E.bind A.next (y.1, y.2.1 + off, y.2.2 - off)) (lapp old new) = some (ys ++ xs) := by
              rw [lapp_eq]; exact concs_mono hle2 _ _ (concs_append o1 n1)
            refine rowsRel_at hcc (fun q hq => by rcases List.mem_append.1 hq with hq | hq; exact o2 q hq; exact n2 q hq) (by rw [List.length_append, Nat.add_mul]; omega) cs' ?_
            intro j hj
            rw [Nat.add_mul] at hj
            rw [k4]
            by_cases hlt : j < len * i.size
            · rw [if_neg (by omega), List.getElem?_append_left (by omega), ← hcells j hlt, cell_of ho]
            · rw [if_pos (by omega), List.getElem?_append_right (by omega)]
              congr 1; omega
          have hst : Step E ⟨A.heap.del b, A.next⟩ W' (E.bind A.next (y.1, y.2.1 + off, y.2.2 - off)) (newObjA ⟨A.heap.del b, A.next⟩ (.cells i.size (len + n) (chop i.size (len + n) (lapp old new) 0))) W' :=
            Step.window (A := ⟨A.heap.del b, A.next⟩) (x := (y.1, y.2.1 + off, y.2.2 - off)) hfr2 hy rfl
          have hA : newObjA ⟨A.heap.del b, A.next⟩ (.cells i.size (len + n) (chop i.size (len + n) (lapp old new) 0)) = A' := congrArg Prod.snd h'
          have hv : AV.slice A.next 0 (len + n) (.upto i.size) = v := congrArg Prod.fst h'
          rw [hA] at hwin hst
          refine ⟨.slice (some ⟨y.1, y.2.1 + off, none⟩) (len + n) ((y.2.2 - off) / i.size), W', _, (append_fits (P := P) (ty := ty) hu hi hux cnt n3 hroom).trans ?_, ?_, hwin, st1.trans hst⟩
          · simp only [add_addr, Nat.add_assoc] at k1 ⊢
            rw [k1]; rfl
          · rw [← hv]
            simp only [conc, Env.bind_same, Option.bind_some]
            rw [if_pos ⟨by rw [Nat.add_mul]; omega, hpos⟩]
            simp
        · have hgt : (y.2.2 - off) / i.size < len + n := by omega
          obtain ⟨ys, o1, o2, o3⟩ := firstA_sound (P := P) (hr.drawn (W.drawn + 1)) hold hs
          have hyl := concs_length o1
          obtain ⟨v', W', E', g1, g2, g3, g4⟩ := grow _ len _ ys (lapp old new) ⟨A.heap.del b, A.next⟩ (hr.drop b) rfl hgt h1 o3 (by rw [lapp_eq]; exact concs_append o1 n1)
            (fun q hq => by rcases List.mem_append.1 hq with hq | hq; exact o2 q hq; exact n2 q hq) (by rw [List.length_append, Nat.add_mul]; omega)
          rw [h'] at g2 g3 g4
          exact ⟨v', W', E', g1, g2, g3, (Step.drop hy).trans g4⟩
      · rw [hf] at h
        simp only [cond_true] at h
        have hf := ble_iff hf
        have hf : off + (len + n) * i.size ≤ knownOf A b := hf
        have hkn := known_le hr hy
        have hfit : len + n ≤ (y.2.2 - off) / i.size := by rw [Nat.le_div_iff_mul_le hpos]; omega
        split at h
        case h_2 => cases h
        rename_i A1 hst
        cases h
        obtain ⟨W', k1, k2, k3⟩ := stCells_sound (P := P) hr hy hst n1
        have k1 : (storeCells ⟨y.1, y.2.1 + (off + len * i.size), none⟩ xs).run P W = .ok () W' := k1
        refine ⟨.slice (some ⟨y.1, y.2.1 + off, none⟩) (len + n) ((y.2.2 - off) / i.size), W', E, (append_fits (P := P) (ty := ty) hu hi hux cnt n3 hfit).trans ?_, ?_, k2, k3⟩
        · simp only [add_addr, Nat.add_assoc] at k1 ⊢
          rw [k1]; rfl
        · simp only [conc, hy, Option.bind_some]
          rw [if_pos ⟨by show off + (len + n) * i.size ≤ _; omega, hpos⟩]; rfl
    | empty lo sz => cases h
  | _ => cases h
end
end Go.PE
