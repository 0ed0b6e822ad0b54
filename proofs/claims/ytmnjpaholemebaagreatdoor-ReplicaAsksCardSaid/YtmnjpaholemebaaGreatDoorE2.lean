/-
  THE ENGINE, 2: the abstract heap, what ties it to the model's, loads, stores, new blocks.
-/
import Derived.Test.YtmnjpaholemebaaGreatDoorE1
namespace Go.PE
open Go

/-! ### Lists by their recursors (the kernel is quicker over these) -/
noncomputable def lget {α : Type} (n : Nat) : List α → Option α := Nat.rec (motive := fun _ => List α → Option α)
  (fun l => List.rec (motive := fun _ => Option α) none (fun x _ _ => some x) l)
  (fun _ ih l => List.rec (motive := fun _ => Option α) none (fun _ t _ => ih t) l) n
noncomputable def ltake {α : Type} (n : Nat) : List α → List α := Nat.rec (motive := fun _ => List α → List α) (fun _ => [])
  (fun _ ih l => List.rec (motive := fun _ => List α) [] (fun x t _ => x :: ih t) l) n
noncomputable def ldrop {α : Type} (n : Nat) : List α → List α := Nat.rec (motive := fun _ => List α → List α) (fun l => l)
  (fun _ ih l => List.rec (motive := fun _ => List α) [] (fun _ t _ => ih t) l) n
noncomputable def lapp {α : Type} (a b : List α) : List α := List.rec (motive := fun _ => List α) b (fun x _ ih => x :: ih) a
noncomputable def llen {α : Type} (a : List α) : Nat := List.rec (motive := fun _ => Nat) 0 (fun _ _ ih => Nat.succ ih) a
noncomputable def lall {α : Type} (p : α → Bool) (a : List α) : Bool := List.rec (motive := fun _ => Bool) true (fun x _ ih => cond (p x) ih false) a
noncomputable def lmap {α β : Type} (f : α → β) (a : List α) : List β := List.rec (motive := fun _ => List β) [] (fun x _ ih => f x :: ih) a
theorem lget_eq {α : Type} : ∀ (n : Nat) (l : List α), lget n l = l[n]?
  | 0, [] => rfl
  | 0, _ :: _ => rfl
  | _ + 1, [] => rfl
  | n + 1, _ :: t => by show lget n t = _; rw [lget_eq n t, List.getElem?_cons_succ]
theorem ltake_eq {α : Type} : ∀ (n : Nat) (l : List α), ltake n l = l.take n
  | 0, l => by rw [List.take_zero]; rfl
  | _ + 1, [] => rfl
  | n + 1, x :: t => by show x :: ltake n t = _; rw [ltake_eq n t, List.take_succ_cons]
theorem ldrop_eq {α : Type} : ∀ (n : Nat) (l : List α), ldrop n l = l.drop n
  | 0, l => by rw [List.drop_zero]; rfl
  | _ + 1, [] => rfl
  | n + 1, _ :: t => by show ldrop n t = _; rw [ldrop_eq n t, List.drop_succ_cons]
theorem lapp_eq {α : Type} (a b : List α) : lapp a b = a ++ b := by
  induction a with
  | nil => rfl
  | cons x t ih => show x :: lapp t b = _; rw [ih]; rfl
theorem llen_eq {α : Type} (a : List α) : llen a = a.length := by
  induction a with
  | nil => rfl
  | cons x t ih => show Nat.succ (llen t) = _; rw [ih]; rfl
theorem lall_eq {α : Type} (p : α → Bool) (a : List α) : lall p a = true → ∀ x ∈ a, p x = true := by
  induction a with
  | nil => simp
  | cons x t ih =>
    intro h
    have h' : cond (p x) (lall p t) false = true := h
    cases hp : p x with
    | false => rw [hp] at h'; cases h'
    | true =>
      rw [hp] at h'
      intro y hy
      rcases List.mem_cons.1 hy with rfl | hy
      · exact hp
      · exact ih h' y hy
theorem lmap_eq {α β : Type} (f : α → β) (a : List α) : lmap f a = a.map f := by
  induction a with
  | nil => rfl
  | cons x t ih => show f x :: lmap f t = _; rw [ih]; rfl

inductive F2 {α β : Type} (R : α → β → Prop) : List α → List β → Prop where
  | nil : F2 R [] []
  | cons {a : α} {b : β} {l : List α} {m : List β} : R a b → F2 R l m → F2 R (a :: l) (b :: m)

/-! ### The abstract heap -/
inductive AObj where
  | cells (esz n : Nat) (rows : T (List AV))
  | map (es : List (AV × AV × Nat)) (clock : Nat)
  | iter (m : Option Nat) (since : Nat) (seen : List Nat) (stepped : Nat)
  | loop (ready : Bool) (n : Nat) (F : T AV) (params : List Nat) (assign body : Code)
  | defer

structure AH where
  heap : T AObj
  next : Nat

def RowsRel (E : Env) (cs : Array Value) (base esz n : Nat) (rows : T (List AV)) : Prop :=
  ∀ r, r < n → ∃ row xs, rows.get r = some row ∧ concs E row = some xs ∧ xs.length = esz ∧ (∀ x ∈ xs, isCell x = true) ∧ ∀ j, j < esz → cs[base + r * esz + j]? = xs[j]?

def EntryRel (E : Env) (a : AV × AV × Nat) (e : MapEntry) : Prop := conc E a.1 = some e.key ∧ conc E a.2.1 = some e.val ∧ a.2.2 = e.born

def ObjRel (E : Env) (o : AObj) (x : Nat × Nat × Nat) : Obj → Prop
  | .cells cs _ fr => match o with
    | .cells esz n rows => RowsRel E cs x.2.1 esz n rows ∧ x.2.1 + x.2.2 ≤ cs.size ∧ n * esz ≤ x.2.2 ∧
        (∀ k, x.2.1 ≤ k → k < x.2.1 + x.2.2 → ¬ (fr.1 ≤ k ∧ k < fr.2))
    | _ => False
  | .map ces clk => match o with
    | .map es clock => clk = clock ∧ F2 (EntryRel E) es ces.toList
    | _ => False
  | .mapIter m since seen stepped => match o with
    | .iter m' since' seen' stepped' => (match m', m with
        | none, none => True
        | some i, some b => ∃ y, E.blk i = some y ∧ y.1 = b
        | _, _ => False) ∧ since' = since ∧ seen'.toArray = seen ∧ stepped' = stepped ∧ x.2.1 = 0
    | _ => False
  | .loop r => match o with
    | .loop st n F ps as bd => r.state = (if st then .ready else .busy) ∧ r.pending = none ∧ r.tmps.size = n ∧ (∀ t v, F.get t = some v → conc E v = some (r.tmps.getD t undef)) ∧
        r.params.toList = ps ∧ r.assign = as ∧ r.body = bd
    | _ => False
  | .deferred d => match o with
    | .defer => d = some []
    | _ => False
  | _ => False

theorem RowsRel.mono {E E' : Env} (h : Env.Le E E') {cs : Array Value} {base esz n : Nat} {rows : T (List AV)} (r : RowsRel E cs base esz n rows) :
    RowsRel E' cs base esz n rows := fun k hk => let ⟨row, xs, h1, h2, h3⟩ := r k hk; ⟨row, xs, h1, concs_mono h _ _ h2, h3⟩

theorem EntryRel.mono {E E' : Env} (h : Env.Le E E') {a : AV × AV × Nat} {e : MapEntry} (r : EntryRel E a e) : EntryRel E' a e :=
  ⟨conc_mono h _ _ r.1, conc_mono h _ _ r.2.1, r.2.2⟩

theorem forall2_mono {α β : Type} {R S : α → β → Prop} (h : ∀ a b, R a b → S a b) : ∀ {l : List α} {m : List β}, F2 R l m → F2 S l m
  | _, _, .nil => .nil
  | _, _, .cons r t => .cons (h _ _ r) (forall2_mono h t)

theorem ObjRel.mono {E E' : Env} (h : Env.Le E E') {o : AObj} {x : Nat × Nat × Nat} {b : Obj} (r : ObjRel E o x b) : ObjRel E' o x b := by
  cases b <;> cases o <;> simp only [ObjRel] at r ⊢
  · exact ⟨r.1.mono h, r.2⟩
  · exact ⟨r.1, forall2_mono (fun _ _ q => EntryRel.mono h q) r.2⟩
  · rename_i m _ _ _ m' _ _ _
    refine ⟨?_, r.2⟩
    have r1 := r.1
    cases m' <;> cases m <;> simp only at r1 ⊢
    obtain ⟨y, hy, e⟩ := r1
    exact ⟨y, h.blk _ _ hy, e⟩
  · obtain ⟨r1, r2, r4, r5, r6⟩ := r
    exact ⟨r1, r2, r4, fun t v hv => conc_mono h _ _ (r5 t v hv), r6⟩
  · exact r

/-- What lies beside: the memory that nothing turns (the blocks below n0), the numbers and values that are not known. -/
class Amb where
  n0 : Nat
  mem : Nat → Option Obj
  sy : Nat → Int
  sv : Nat → Value

/-- The abstract heap tells of the world. Blocks that no id is tied to are not told of; ids that are tied to no block ('ghosts') tell of nothing. -/
structure Rel [Amb] (E : Env) (A : AH) (W : World) : Prop where
  obj : ∀ i o x, A.heap.get i = some o → E.blk i = some x → ∃ b, W.heap[x.1]? = some b ∧ ObjRel E o x b
  inj : ∀ i j oi oj x y, A.heap.get i = some oi → A.heap.get j = some oj → E.blk i = some x → E.blk j = some y → x.1 = y.1 → i = j
  fresh : ∀ i, A.next ≤ i → E.blk i = none
  dead : ∀ i, A.next ≤ i → A.heap.get i = none
  bound : ∀ i x, E.blk i = some x → x.1 < W.heap.size
  amb : Amb.n0 ≤ W.heap.size ∧ (∀ k, k < Amb.n0 → W.heap[k]? = Amb.mem k) ∧ ∀ i x, E.blk i = some x → Amb.n0 ≤ x.1
  names : E.sy = Amb.sy ∧ E.sv = Amb.sv

/-- From one state to a later one. -/
structure Step (E : Env) (A : AH) (W : World) (E' : Env) (A' : AH) (W' : World) : Prop where
  le : Env.Le E E'
  os : W'.os = W.os
  tape : W'.tape = W.tape
  output : W'.output = W.output
  size : W.heap.size ≤ W'.heap.size
  frame : ∀ k, k < W.heap.size → (∀ i x, E.blk i = some x → x.1 ≠ k) → W'.heap[k]? = W.heap[k]?
  img : ∀ i x, E'.blk i = some x → x.1 < W.heap.size → ∃ j y, E.blk j = some y ∧ y.1 = x.1
  next : A.next ≤ A'.next
  ghost : ∀ i, i < A.next → E.blk i = none → E'.blk i = none ∧ A'.heap.get i = A.heap.get i

theorem Step.refl (E : Env) (A : AH) (W : World) : Step E A W E A W :=
  ⟨.refl E, rfl, rfl, rfl, Nat.le_refl _, fun _ _ _ => rfl, fun i x h _ => ⟨i, x, h, rfl⟩, Nat.le_refl _, fun _ _ h => ⟨h, rfl⟩⟩

theorem Step.trans {E1 E2 E3 : Env} {A1 A2 A3 : AH} {W1 W2 W3 : World} (h : Step E1 A1 W1 E2 A2 W2) (k : Step E2 A2 W2 E3 A3 W3) : Step E1 A1 W1 E3 A3 W3 where
  le := h.le.trans k.le
  os := k.os.trans h.os
  tape := k.tape.trans h.tape
  output := k.output.trans h.output
  size := Nat.le_trans h.size k.size
  frame := fun b hb hi => by
    rw [k.frame b (Nat.lt_of_lt_of_le hb h.size) (fun i x hx e => ?_), h.frame b hb hi]
    obtain ⟨j, y, hy, ey⟩ := h.img i x hx (by omega)
    exact hi j y hy (by omega)
  img := fun i x hx hlt => by
    obtain ⟨j, y, hy, ey⟩ := k.img i x hx (Nat.lt_of_lt_of_le hlt h.size)
    obtain ⟨j', y', hy', ey'⟩ := h.img j y hy (by omega)
    exact ⟨j', y', hy', by omega⟩
  next := Nat.le_trans h.next k.next
  ghost := fun i hi hn => by
    obtain ⟨h1, h2⟩ := h.ghost i hi hn
    obtain ⟨k1, k2⟩ := k.ghost i (Nat.lt_of_lt_of_le hi h.next) h1
    exact ⟨k1, k2.trans h2⟩

/-- A draw from the tape turns nothing. -/
theorem Rel.drawn [Amb] {E : Env} {A : AH} {W : World} (h : Rel E A W) (n : Nat) : Rel E A { W with drawn := n } := ⟨h.obj, h.inj, h.fresh, h.dead, h.bound, h.amb, h.names⟩
theorem Step.drawn {E : Env} {A : AH} {W : World} (n : Nat) : Step E A W E A { W with drawn := n } :=
  ⟨.refl E, rfl, rfl, rfl, Nat.le_refl _, fun _ _ _ => rfl, fun i x h _ => ⟨i, x, h, rfl⟩, Nat.le_refl _, fun _ _ h => ⟨h, rfl⟩⟩

/-! ### Loads -/
noncomputable def ldRow (A : AH) (b off n : Nat) : Option (List AV) :=
  match A.heap.get b with
  | some (.cells esz nr rows) =>
    cond (Nat.blt (Nat.div off esz) nr) (cond (Nat.ble (Nat.add (Nat.mod off esz) n) esz)
      (match rows.get (Nat.div off esz) with
       | some row => some (ltake n (ldrop (Nat.mod off esz) row))
       | none => none) none) none
  | _ => none

theorem blt_iff {a b : Nat} (h : Nat.blt a b = true) : a < b := Nat.le_of_ble_eq_true h
theorem cond_some {c : Bool} {α : Type} {x : Option α} {y : α} (h : cond c x none = some y) : c = true ∧ x = some y := by
  cases c <;> simp_all

theorem cell_of {W : World} {b off : Nat} {cs : Array Value} {e : TypeId} {f : Nat × Nat} (h : W.heap[b]? = some (.cells cs e f)) : W.cell? ⟨b, off, none⟩ = cs[off]? := by
  simp [World.cell?, h]

theorem ldRow_sound [Amb] {E : Env} {A : AH} {W : World} (hr : Rel E A W) {b off n : Nat} {x : Nat × Nat × Nat} {vs : List AV} (hx : E.blk b = some x)
    (h : ldRow A b off n = some vs) :
    ∃ xs, concs E vs = some xs ∧ xs.length = n ∧ (∀ v ∈ xs, isCell v = true) ∧ ∀ j, j < n → W.cell? ⟨x.1, x.2.1 + off + j, none⟩ = xs[j]? := by
  unfold ldRow at h
  split at h
  case h_2 => cases h
  rename_i esz nr rows hg
  obtain ⟨h1, h⟩ := cond_some h
  obtain ⟨h2, h⟩ := cond_some h
  have h1 := blt_iff h1
  have h2 := Nat.le_of_ble_eq_true h2
  have h1 : off / esz < nr := h1
  have h2 : off % esz + n ≤ esz := h2
  have h : (match rows.get (off / esz) with | some row => some (ltake n (ldrop (off % esz) row)) | none => none) = some vs := h
  obtain ⟨o, ho, hrel⟩ := hr.obj b _ x hg hx
  cases o <;> simp only [ObjRel] at hrel
  rename_i cs e fr
  obtain ⟨hrows, hsz, hn, hfr⟩ := hrel
  obtain ⟨row, xs, g1, g2, g3, g4, g5⟩ := hrows _ h1
  rw [g1] at h
  simp only [Option.some.injEq] at h
  subst h
  rw [ltake_eq, ldrop_eq]
  refine ⟨(xs.drop (off % esz)).take n, concs_take _ (concs_drop _ g2), ?_, ?_, ?_⟩
  · rw [List.length_take, List.length_drop, g3]; omega
  · intro v hv; exact g4 v (List.mem_of_mem_drop (List.mem_of_mem_take hv))
  · intro j hj
    rw [cell_of ho]
    have e1 : off / esz * esz + off % esz = off := by rw [Nat.mul_comm]; exact Nat.div_add_mod off esz
    have e2 : x.2.1 + off + j = x.2.1 + off / esz * esz + (off % esz + j) := by omega
    rw [e2, g5 _ (by omega), List.getElem?_take, if_pos hj, List.getElem?_drop]

theorem run_loadCellsFrom {P : Program} {W : World} {b off : Nat} (xs : List Value) :
    ∀ (n i : Nat) (acc : Array Value), (∀ j, j < n → W.cell? ⟨b, off + (i + j), none⟩ = xs[i + j]?) → i + n ≤ xs.length →
      (loadCellsFrom ⟨b, off, none⟩ i n acc).run P W = .ok (acc ++ ((xs.drop i).take n).toArray) W := by
  intro n
  induction n with
  | zero => intro i acc _ _; simp [loadCellsFrom]
  | succ n ih =>
    intro i acc h hl
    have h0 := h 0 (by omega)
    have hi : i < xs.length := by omega
    simp only [Nat.add_zero] at h0
    rw [List.getElem?_eq_getElem hi] at h0
    have ha : (Addr.add ⟨b, off, none⟩ i) = ⟨b, off + i, none⟩ := by
      unfold Addr.add; split
      · subst_vars; rfl
      · rfl
    have := ih (i + 1) (acc.push xs[i]) (fun j hj => by
      have := h (j + 1) (by omega)
      have e : i + 1 + j = i + (j + 1) := by omega
      rw [e]; exact this) (by omega)
    have hld : (load ⟨b, off + i, none⟩).run P W = .ok xs[i] W := by simp [load, Sem.run, h0]
    simp only [loadCellsFrom, ha]
    simp [hld, this]
    rw [List.drop_eq_getElem_cons hi, List.take_succ_cons]

theorem run_loadCells {P : Program} {W : World} {b off n : Nat} (xs : List Value) (hl : xs.length = n) (h : ∀ j, j < n → W.cell? ⟨b, off + j, none⟩ = xs[j]?) :
    (loadCells ⟨b, off, none⟩ n).run P W = .ok xs.toArray W := by
  unfold loadCells
  rw [run_loadCellsFrom xs n 0 #[] (by simpa using h) (by omega)]
  simp [← hl]

/-! ### Stores -/
def isCellA : AV → Bool
  | .agg _ => false
  | .tuple _ => false
  | _ => true
theorem isCellA_conc {E : Env} {v : AV} {x : Value} (h : isCellA v = true) (hc : conc E v = some x) : isCell x = true := by
  cases v with
  | agg cs => cases h
  | tuple cs => cases h
  | slice b off len cap =>
    cases cap <;> simp only [conc, Option.map_eq_some_iff, Option.bind_eq_some_iff] at hc
    · obtain ⟨_, _, rfl⟩ := hc; rfl
    · obtain ⟨_, _, hc⟩ := hc
      split at hc
      · cases hc; rfl
      · cases hc
    · obtain ⟨_, _, hc⟩ := hc
      split at hc
      · cases hc; rfl
      · cases hc
  | symv i =>
    simp only [conc] at hc
    split at hc
    · rename_i h1; cases hc; exact h1
    · cases hc
  | symi k i =>
    simp only [conc] at hc
    split at hc
    · cases hc; rfl
    · cases hc
  | func f a c =>
    simp only [conc, Option.map_eq_some_iff, Option.bind_eq_some_iff] at hc
    obtain ⟨_, _, _, _, rfl⟩ := hc; rfl
  | ptr b off => simp only [conc, Option.map_eq_some_iff] at hc; obtain ⟨_, _, rfl⟩ := hc; rfl
  | map b => simp only [conc, Option.map_eq_some_iff] at hc; obtain ⟨_, _, rfl⟩ := hc; rfl
  | yld b => simp only [conc, Option.map_eq_some_iff] at hc; obtain ⟨_, _, rfl⟩ := hc; rfl
  | iface t v => simp only [conc, Option.map_eq_some_iff] at hc; obtain ⟨_, _, rfl⟩ := hc; rfl
  | _ => simp only [conc, Option.some.injEq] at hc; subst hc; rfl

theorem isCell_all {E : Env} : ∀ {vs : List AV} {xs : List Value}, (∀ v ∈ vs, isCellA v = true) → concs E vs = some xs → ∀ x ∈ xs, isCell x = true
  | [], _, _, h => by simp [concs] at h; subst h; simp
  | v :: vs, _, ha, h => by
    simp only [concs, Option.bind_eq_some_iff, Option.map_eq_some_iff] at h
    obtain ⟨v', hv, vs', hvs, rfl⟩ := h
    simp only [List.mem_cons]
    rintro x (rfl | hx)
    · exact isCellA_conc (ha v (by simp)) hv
    · exact isCell_all (fun u hu => ha u (by simp [hu])) hvs x hx

noncomputable def stRow (A : AH) (b off : Nat) (vs : List AV) : Option AH :=
  match A.heap.get b with
  | some (.cells esz nr rows) =>
    cond (Nat.blt (Nat.div off esz) nr) (cond (Nat.ble (Nat.add (Nat.mod off esz) (llen vs)) esz)
      (cond (lall isCellA vs)
      (match rows.get (Nat.div off esz) with
       | some row => some ⟨A.heap.set b (.cells esz nr (rows.set (Nat.div off esz) (lapp (ltake (Nat.mod off esz) row) (lapp vs (ldrop (Nat.add (Nat.mod off esz) (llen vs)) row))))), A.next⟩
       | none => none) none) none) none
  | _ => none

theorem setCell_heap_ne {W : World} {a : Addr} {v : Value} {k : Nat} (h : k ≠ a.block) : (W.setCell a v).heap[k]? = W.heap[k]? := by
  simp only [World.setCell, Array.getElem?_modify]
  rw [if_neg (by omega)]
theorem setCell_heap_same {W : World} {b off : Nat} {v : Value} {cs : Array Value} {e : TypeId} {f : Nat × Nat} (h : W.heap[b]? = some (.cells cs e f)) :
    (W.setCell ⟨b, off, none⟩ v).heap[b]? = some (.cells (cs.setIfInBounds off v) e f) := by
  simp [World.setCell, Array.getElem?_modify, h]

/-- What a row of stores comes to. -/
theorem run_storeCells {P : Program} {b off : Nat} {e : TypeId} {f : Nat × Nat} : ∀ (xs : List Value) (i : Nat) (W : World) (cs : Array Value),
    W.heap[b]? = some (.cells cs e f) → off + i + xs.length ≤ cs.size → (∀ k, off + i ≤ k → k < off + i + xs.length → ¬ (f.1 ≤ k ∧ k < f.2)) → (∀ x ∈ xs, isCell x = true) →
    ∃ W' cs', (storeCells ⟨b, off, none⟩ xs i).run P W = .ok () W' ∧ W'.heap[b]? = some (.cells cs' e f) ∧ cs'.size = cs.size ∧
      (∀ k, cs'[k]? = if off + i ≤ k ∧ k < off + i + xs.length then xs[k - (off + i)]? else cs[k]?) ∧ (∀ k, k ≠ b → W'.heap[k]? = W.heap[k]?) ∧
      W'.heap.size = W.heap.size ∧ W'.os = W.os ∧ W'.tape = W.tape ∧ W'.output = W.output ∧ W'.drawn = W.drawn
  | [], i, W, cs, hb, _, _, _ => ⟨W, cs, by simp [storeCells], hb, rfl, fun k => by rw [if_neg (by simp only [List.length_nil]; omega)], fun _ _ => rfl, rfl, rfl, rfl, rfl, rfl⟩
  | x :: xs, i, W, cs, hb, hl, hf, hc => by
    have ha : (Addr.add ⟨b, off, none⟩ i) = ⟨b, off + i, none⟩ := by
      unfold Addr.add; split
      · subst_vars; rfl
      · rfl
    simp only [List.length_cons] at hl hf
    have hcell : W.cell? ⟨b, off + i, none⟩ = some (cs[off + i]'(by omega)) := by rw [cell_of hb, Array.getElem?_eq_getElem (by omega)]
    have hfz : W.frozen? ⟨b, off + i, none⟩ = false := by
      have := hf (off + i) (Nat.le_refl _) (by omega)
      simp only [World.frozen?, hb]
      obtain ⟨lo, hi⟩ := f
      simp only at this ⊢
      simpa using this
    have hb1 := setCell_heap_same (off := off + i) (v := x) hb
    obtain ⟨W', cs', h1, h2, h3, h4, h5, h6, h7, h8, h9, h10⟩ := run_storeCells (P := P) (off := off) xs (i + 1) (W.setCell ⟨b, off + i, none⟩ x) _ hb1 (by simp; omega)
      (fun k h1 h2 => hf k (by omega) (by omega)) (fun y hy => hc y (by simp [hy]))
    have hx : isCell x = true := hc x (by simp)
    refine ⟨W', cs', ?_, h2, by rw [h3]; simp, ?_, ?_, ?_, h7, h8, h9, h10⟩
    · have hst : (store ⟨b, off + i, none⟩ x).run P W = .ok () (W.setCell ⟨b, off + i, none⟩ x) := by
        cases x <;> first | (simp [isCell] at hx; done) | simp [store, Sem.run, hcell, hfz]
      simp only [storeCells, ha]
      simp [hst, h1]
    · intro k
      rw [h4]
      simp only [List.length_cons]
      by_cases hk : k = off + i
      · subst hk
        rw [if_neg (by omega), if_pos (by omega)]
        rw [Array.getElem?_setIfInBounds_self_of_lt (by omega)]
        simp
      · rw [Array.getElem?_setIfInBounds_ne (by omega)]
        by_cases hk2 : off + (i + 1) ≤ k ∧ k < off + (i + 1) + xs.length
        · rw [if_pos hk2, if_pos (by omega)]
          have : k - (off + i) = (k - (off + (i + 1))) + 1 := by omega
          rw [this, List.getElem?_cons_succ]
        · rw [if_neg hk2, if_neg (by omega)]
    · intro k hk; rw [h5 k hk]; exact setCell_heap_ne hk
    · rw [h6]; simp [World.setCell]

/-- A world in which one block of cells was written, and the abstract heap with it. -/
theorem Rel.write [Amb] {E : Env} {A : AH} {W W' : World} (hr : Rel E A W) {i : Nat} {x : Nat × Nat × Nat} {o' : AObj} {b' : Obj} {o : AObj}
    (hg : A.heap.get i = some o) (hx : E.blk i = some x) (hb : W'.heap[x.1]? = some b') (hrel : ObjRel E o' x b')
    (hother : ∀ k, k ≠ x.1 → W'.heap[k]? = W.heap[k]?) (hsize : W'.heap.size = W.heap.size) : Rel E ⟨A.heap.set i o', A.next⟩ W' where
  obj := fun j oj y hj hy => by
    simp only [T.get_set] at hj
    split at hj
    · rename_i e; subst e
      cases hj
      rw [hx] at hy; cases hy
      exact ⟨b', hb, hrel⟩
    · rename_i e
      have hne : y.1 ≠ x.1 := fun ee => e (hr.inj j i oj o y x hj hg hy hx ee).symm
      obtain ⟨b, h1, h2⟩ := hr.obj j oj y hj hy
      exact ⟨b, by rw [hother _ hne]; exact h1, h2⟩
  inj := fun j k oj ok y z hj hk hy hz e => by
    simp only [T.get_set] at hj hk
    have sub : ∀ (q : Nat) (oq : AObj), (if i = q then some o' else A.heap.get q) = some oq → ∃ oo, A.heap.get q = some oo := by
      intro q oq h
      split at h
      · rename_i e; subst e; exact ⟨o, hg⟩
      · exact ⟨oq, h⟩
    obtain ⟨o1, h1⟩ := sub j oj hj
    obtain ⟨o2, h2⟩ := sub k ok hk
    exact hr.inj j k o1 o2 y z h1 h2 hy hz e
  fresh := hr.fresh
  dead := fun j hj => by
    rw [T.get_set]
    split
    · rename_i e; subst e; rw [hr.dead _ hj] at hg; cases hg
    · exact hr.dead _ hj
  bound := fun j y hy => by rw [hsize]; exact hr.bound j y hy
  amb := ⟨by rw [hsize]; exact hr.amb.1, fun k hk => by rw [hother k (fun e => by have := hr.amb.2.2 i x hx; omega)]; exact hr.amb.2.1 k hk, hr.amb.2.2⟩
  names := hr.names

theorem Step.write {E : Env} {A : AH} {W W' : World} {i : Nat} {x : Nat × Nat × Nat} {o' : AObj}
    (hx : E.blk i = some x)
    (hother : ∀ k, k ≠ x.1 → W'.heap[k]? = W.heap[k]?) (hsize : W'.heap.size = W.heap.size) (hos : W'.os = W.os) (ht : W'.tape = W.tape) (ho : W'.output = W.output) :
    Step E A W E ⟨A.heap.set i o', A.next⟩ W' where
  le := .refl E
  os := hos
  tape := ht
  output := ho
  size := by omega
  frame := fun k _ hk => hother k fun e => hk i x hx e.symm
  img := fun j y hy _ => ⟨j, y, hy, rfl⟩
  next := Nat.le_refl _
  ghost := fun j _ hj => ⟨hj, by
    show (A.heap.set i o').get j = _
    rw [T.get_set, if_neg (fun e => by subst e; rw [hx] at hj; cases hj)]⟩

theorem stRow_sound [Amb] {P : Program} {E : Env} {A A' : AH} {W : World} (hr : Rel E A W) {b off : Nat} {x : Nat × Nat × Nat} {vs : List AV} {xs : List Value} (hx : E.blk b = some x)
    (h : stRow A b off vs = some A') (hc : concs E vs = some xs) :
    ∃ W', (storeCells ⟨x.1, x.2.1 + off, none⟩ xs).run P W = .ok () W' ∧ Rel E A' W' ∧ Step E A W E A' W' := by
  unfold stRow at h
  split at h
  case h_2 => cases h
  rename_i esz nr rows hg
  obtain ⟨h1, h⟩ := cond_some h
  obtain ⟨h2, h⟩ := cond_some h
  obtain ⟨h3, h⟩ := cond_some h
  have h1 := blt_iff h1
  have h2 := Nat.le_of_ble_eq_true h2
  have h1 : off / esz < nr := h1
  have h2 : off % esz + llen vs ≤ esz := h2
  have h3 := isCell_all (lall_eq _ _ h3) hc
  rw [llen_eq] at h2
  have hlen := concs_length hc
  obtain ⟨o, ho, hrel⟩ := hr.obj b _ x hg hx
  cases o <;> simp only [ObjRel] at hrel
  rename_i cs e fr
  obtain ⟨hrows, hsz, hn, hfr⟩ := hrel
  obtain ⟨row, ys, g1, g2, g3, g4, g5⟩ := hrows _ h1
  have g1' : rows.get (Nat.div off esz) = some row := g1
  rw [g1'] at h
  simp only [Option.some.injEq] at h
  subst h
  have e1 : off / esz * esz + off % esz = off := by rw [Nat.mul_comm]; exact Nat.div_add_mod off esz
  have hle : (off / esz + 1) * esz ≤ nr * esz := Nat.mul_le_mul_right _ h1
  rw [Nat.add_mul, Nat.one_mul] at hle
  obtain ⟨W', cs', k1, k2, k3, k4, k5, k6, k7, k8, k9, k10⟩ := run_storeCells (P := P) (off := x.2.1 + off) xs 0 W cs ho (by omega)
    (fun k q1 q2 => hfr k (by omega) (by omega)) h3
  refine ⟨W', k1, hr.write hg hx k2 ?_ k5 k6, Step.write hx k5 k6 k7 k8 k9⟩
  simp only [ObjRel]
  refine ⟨?_, by omega, hn, hfr⟩
  intro r hr'
  by_cases er : r = off / esz
  · subst er
    have hq : (rows.set (Nat.div off esz) (lapp (ltake (Nat.mod off esz) row) (lapp vs (ldrop (Nat.add (Nat.mod off esz) (llen vs)) row)))).get (off / esz) =
        some (row.take (off % esz) ++ (vs ++ row.drop (off % esz + vs.length))) := by
      rw [lapp_eq, lapp_eq, ltake_eq, ldrop_eq, llen_eq]
      exact T.get_set_same _ _ _
    refine ⟨_, ys.take (off % esz) ++ (xs ++ ys.drop (off % esz + vs.length)), hq, concs_append (concs_take _ g2) (concs_append hc (concs_drop _ g2)), ?_, ?_, ?_⟩
    · simp only [List.length_append, List.length_take, List.length_drop, g3, hlen]; omega
    · intro y hy
      simp only [List.mem_append] at hy
      rcases hy with hy | hy | hy
      · exact g4 y (List.mem_of_mem_take hy)
      · exact h3 y hy
      · exact g4 y (List.mem_of_mem_drop hy)
    · intro j hj
      rw [k4]
      have elt : (ys.take (off % esz)).length = off % esz := by rw [List.length_take, g3]; omega
      by_cases c1 : j < off % esz
      · rw [if_neg (by omega), List.getElem?_append_left (by omega), List.getElem?_take, if_pos c1]
        exact g5 j hj
      · rw [List.getElem?_append_right (by omega), elt]
        by_cases c2 : j < off % esz + xs.length
        · rw [if_pos (by omega), List.getElem?_append_left (by omega)]
          congr 1; omega
        · rw [if_neg (by omega), List.getElem?_append_right (by omega), List.getElem?_drop]
          rw [show off % esz + vs.length + (j - off % esz - xs.length) = j from by omega]
          exact g5 j hj
  · obtain ⟨row', zs, q1, q2, q3, q4, q5⟩ := hrows r hr'
    refine ⟨row', zs, ?_, q2, q3, q4, ?_⟩
    · exact (T.get_set_ne _ _ (fun e => er e.symm)).trans q1
    · intro j hj
      rw [k4, if_neg, q5 j hj]
      rintro ⟨a1, a2⟩
      -- the written cells lie in another row
      rcases Nat.lt_or_gt_of_ne er with lt | gt
      · have := Nat.mul_le_mul_right esz lt
        rw [Nat.succ_mul] at this; omega
      · have := Nat.mul_le_mul_right esz gt
        rw [Nat.succ_mul] at this; omega

/-! ### New blocks -/
noncomputable def newObjA (A : AH) (o : AObj) : AH := ⟨A.heap.set A.next o, Nat.succ A.next⟩
def Env.bind (E : Env) (i : Nat) (x : Nat × Nat × Nat) : Env := { E with blk := fun j => if j = i then some x else E.blk j }
theorem Env.bind_le {E : Env} {i : Nat} {x : Nat × Nat × Nat} (h : E.blk i = none) : Env.Le E (E.bind i x) :=
  ⟨fun j y hy => by
    show (if j = i then some x else E.blk j) = _
    rw [if_neg (fun e => by subst e; rw [h] at hy; cases hy)]; exact hy, rfl, rfl⟩
theorem Env.bind_same {E : Env} {i : Nat} {x : Nat × Nat × Nat} : (E.bind i x).blk i = some x := by simp [Env.bind]

/-- A new block of the world's is told of by an id that was a ghost till now. -/
theorem Rel.adopt [Amb] {E : Env} {A : AH} {W : World} (hr : Rel E A W) {i : Nat} {o : AObj} {b : Obj} {x : Nat × Nat × Nat} (hi : E.blk i = none) (hlt : i < A.next)
    (hg : A.heap.get i = some o) (hx : x.1 = W.heap.size)
    (hrel : ObjRel (E.bind i x) o x b) : Rel (E.bind i x) A { W with heap := W.heap.push b } where
  obj := fun j oj y hj hy => by
    simp only [Env.bind] at hy
    split at hy
    · rename_i e; subst e
      cases hy
      rw [hg] at hj; cases hj
      exact ⟨b, by rw [hx]; simp, hrel⟩
    · obtain ⟨b', h1, h2⟩ := hr.obj j oj y hj hy
      refine ⟨b', ?_, h2.mono (Env.bind_le hi)⟩
      have := hr.bound j y hy
      show (W.heap.push b)[y.1]? = _
      rw [Array.getElem?_push, if_neg (by omega)]; exact h1
  inj := fun j k oj ok y z hj hk hy hz e => by
    simp only [Env.bind] at hy hz
    split at hy <;> split at hz
    · subst_vars; rfl
    · cases hy; have := hr.bound k z hz; omega
    · cases hz; have := hr.bound j y hy; omega
    · exact hr.inj j k oj ok y z hj hk hy hz e
  fresh := fun j hj => by
    simp only [Env.bind]
    rw [if_neg (by omega)]; exact hr.fresh j hj
  dead := hr.dead
  bound := fun j y hy => by
    simp only [Env.bind] at hy
    simp only [Array.size_push]
    split at hy
    · cases hy; omega
    · have := hr.bound j y hy; omega
  amb := ⟨by simp only [Array.size_push]; have := hr.amb.1; omega, fun k hk => by
      show (W.heap.push b)[k]? = _
      have := hr.amb.1
      rw [Array.getElem?_push, if_neg (by omega)]; exact hr.amb.2.1 k hk, fun j y hy => by
      simp only [Env.bind] at hy
      split at hy
      · cases hy; have := hr.amb.1; omega
      · exact hr.amb.2.2 j y hy⟩
  names := hr.names

theorem Step.adopt {E : Env} {A A0 : AH} {W : World} {i : Nat} {b : Obj} {x : Nat × Nat × Nat} (hi : E.blk i = none) (hx : x.1 = W.heap.size)
    (hn : A0.next ≤ A.next) (hge : A0.next ≤ i) (hg : ∀ j, j < A0.next → A.heap.get j = A0.heap.get j) : Step E A0 W (E.bind i x) A { W with heap := W.heap.push b } where
  le := Env.bind_le hi
  os := rfl
  tape := rfl
  output := rfl
  size := by simp
  frame := fun k hk _ => by
    show (W.heap.push b)[k]? = _
    rw [Array.getElem?_push, if_neg (by omega)]
  img := fun j y hy hlt => by
    simp only [Env.bind] at hy
    split at hy
    · cases hy; omega
    · exact ⟨j, y, hy, rfl⟩
  next := hn
  ghost := fun j hj hn => ⟨by simp only [Env.bind]; rw [if_neg (by omega)]; exact hn, hg j hj⟩

/-- The ghost of a new block: nothing in the world tells of it yet. -/
theorem Rel.ghost [Amb] {E : Env} {A : AH} {W : World} (hr : Rel E A W) (o : AObj) : Rel E (newObjA A o) W where
  obj := fun j oj y hj hy => by
    simp only [newObjA, T.get_set] at hj
    split at hj
    · rename_i e; subst e; rw [hr.fresh _ (Nat.le_refl _)] at hy; cases hy
    · exact hr.obj j oj y hj hy
  inj := fun j k oj ok y z hj hk hy hz e => by
    simp only [newObjA, T.get_set] at hj hk
    have ej : A.next ≠ j := fun e => by subst e; rw [hr.fresh _ (Nat.le_refl _)] at hy; cases hy
    have ek : A.next ≠ k := fun e => by subst e; rw [hr.fresh _ (Nat.le_refl _)] at hz; cases hz
    rw [if_neg ej] at hj; rw [if_neg ek] at hk
    exact hr.inj j k oj ok y z hj hk hy hz e
  fresh := fun j hj => hr.fresh j (by have : A.next + 1 ≤ j := hj; omega)
  dead := fun j hj => by
    have : A.next + 1 ≤ j := hj
    simp only [newObjA, T.get_set]
    rw [if_neg (by omega)]; exact hr.dead j (by omega)
  bound := hr.bound
  amb := hr.amb
  names := hr.names

theorem newObjA_get_old {A : AH} {o : AObj} {j : Nat} (h : j < A.next) : (newObjA A o).heap.get j = A.heap.get j := by
  simp only [newObjA, T.get_set]; rw [if_neg (by omega)]
theorem newObjA_get_new {A : AH} {o : AObj} : (newObjA A o).heap.get A.next = some o := by
  simp only [newObjA, T.get_set_same]

/-- A new block, at once. -/
theorem Rel.new [Amb] {E : Env} {A : AH} {W : World} (hr : Rel E A W) {o : AObj} {b : Obj} (kappa : Nat)
    (hrel : ObjRel (E.bind A.next (W.heap.size, 0, kappa)) o (W.heap.size, 0, kappa) b) :
    Rel (E.bind A.next (W.heap.size, 0, kappa)) (newObjA A o) { W with heap := W.heap.push b } ∧
    Step E A W (E.bind A.next (W.heap.size, 0, kappa)) (newObjA A o) { W with heap := W.heap.push b } :=
  ⟨(hr.ghost o).adopt (hr.fresh _ (Nat.le_refl _)) (by show A.next < A.next + 1; omega) newObjA_get_new rfl hrel,
   Step.adopt (hr.fresh _ (Nat.le_refl _)) rfl (by show A.next ≤ A.next + 1; omega) (Nat.le_refl _) fun _ h => newObjA_get_old h⟩

end Go.PE
