/-
  THE ENGINE, 14: copy, clear, ranging over a map; every effect in one function.
-/
import Derived.Test.YtmnjpaholemebaaGreatDoorE13
namespace Go.PE
open Go

section
variable {P : Program} {W : World} {E : Env} {A : AH}

noncomputable def copyA (P : Program) (t : TypeId) (d x : AV) (A : AH) : Option (AV × AH) := match elemA P t with
  | some (_, i) => (match countA x with
    | some n => (match d with
      | .nilslice => (match firstA i.size 0 x A with | some _ => some (.int .i64 0, A) | none => none)
      | .slice b off len _ => (match nmin n len with
        | 0 => (match firstA i.size 0 x A with | some _ => some (.int .i64 0, A) | none => none)
        | m => (match firstA i.size m x A with
          | some vs => (match stCells A b off vs with | some A' => some (.int .i64 (.ofNat m), A') | none => none)
          | none => none))
      | _ => none)
    | none => none)
  | none => none

theorem copyA_sound [Amb] (hr : Rel E A W) {t ty : TypeId} {ts : Array TypeId} {d x v : AV} {A' : AH} (h : copyA P t d x A = some (v, A')) {d' x' : Value} (hd : conc E d = some d') (hx : conc E x = some x') (hts : ts[0]? = some t) :
    ∃ (v' : Value) (W' : World), (Builtin.copy_ ts ty #[d', x']).run P W = .ok v' W' ∧ conc E v = some v' ∧ Rel E A' W' ∧ Step E A W E A' W' := by
  unfold copyA at h
  split at h
  case h_2 => cases h
  rename_i e i he
  obtain ⟨hu, hi⟩ := elemA_run he
  split at h
  case h_2 => cases h
  rename_i n hn
  have cnt := countA_sound (P := P) (W := W) hn hx
  have first : ∀ m vs, firstA i.size m x A = some vs → ∃ xs, concs E vs = some xs ∧ (Builtin.firstCells i.size m x').run P W = .ok xs.toArray W := by
    intro m vs hvs
    obtain ⟨xs, k1, _, k3⟩ := firstA_sound (P := P) hr hvs hx
    exact ⟨xs, k1, k3⟩
  cases d with
  | nilslice =>
    simp only at h
    split at h
    case h_2 => cases h
    rename_i vs hvs
    cases h
    simp only [conc, Option.some.injEq] at hd
    subst hd
    obtain ⟨xs, k1, k2⟩ := first 0 vs hvs
    refine ⟨_, W, ?_, rfl, hr, Step.refl _ _ _⟩
    simp [Builtin.copy_, hts, run_und hu, cnt, run_size hi, k2, goInt]
  | slice b off len cap =>
    obtain ⟨y, a0, c', hy, rfl, hcap⟩ := conc_slice hd
    simp only at h
    rw [nmin_eq] at h
    split at h
    · rename_i hm
      split at h
      case h_2 => cases h
      rename_i vs hvs
      cases h
      obtain ⟨xs, k1, k2⟩ := first 0 vs hvs
      have hxs : xs = [] := by
        have : firstA i.size 0 x A = some vs := hvs
        unfold firstA at this
        split at this
        · cases this; have := concs_nil k1; exact this
        · cases this; have := concs_nil k1; exact this
        · cases this; rw [lmap_eq, ltake_eq] at k1; simp only [List.take_zero, List.map_nil] at k1; exact concs_nil k1
        · cases this
      subst hxs
      refine ⟨_, W, ?_, rfl, hr, Step.refl _ _ _⟩
      have hm2 : Nat.min n len = 0 := hm
      simp [Builtin.copy_, hts, run_und hu, cnt, run_size hi, hm2, k2, goInt, storeCells]
    · rename_i m hm0
      split at h
      case h_2 => cases h
      rename_i vs hvs
      split at h
      case h_2 => cases h
      rename_i A1 hst
      cases h
      obtain ⟨xs, k1, k2⟩ := first _ vs hvs
      rcases hcap with ⟨rfl, _⟩ | ⟨h0, _⟩
      case inr => exact absurd (by omega) hm0
      obtain ⟨W', g1, g2, g3⟩ := stCells_sound (P := P) hr hy hst k1
      refine ⟨_, W', ?_, rfl, g2, g3⟩
      have hm2 : Nat.min n len = min n len := rfl
      simp [Builtin.copy_, hts, run_und hu, cnt, run_size hi, hm2, k2, goInt, g1]
  | _ => cases h

noncomputable def clearA (P : Program) (t : TypeId) (x : AV) (A : AH) : Option AH := match elemA P t with
  | some (e, i) => (match x with
    | .nilslice => some A
    | .slice b off len _ => (match len with
      | 0 => some A
      | n => (match zeroA P e with
        | some z => cond (Nat.beq (llen (cellsA z)) i.size) (cond (Nat.beq i.size 0) none (stCells A b off (buildSliceA.lrep (cellsA z) n))) none
        | none => none))
    | _ => none)
  | none => none
theorem clearA_sound [Amb] (hr : Rel E A W) {t ty : TypeId} {ts : Array TypeId} {x : AV} {A' : AH} (h : clearA P t x A = some A') {x' : Value} (hx : conc E x = some x') (hts : ts[0]? = some t) :
    ∃ W', (Builtin.clear_ ts ty #[x']).run P W = .ok (.tuple #[]) W' ∧ Rel E A' W' ∧ Step E A W E A' W' := by
  unfold clearA at h
  split at h
  case h_2 => cases h
  rename_i e i he
  obtain ⟨hu, hi⟩ := elemA_run he
  cases x with
  | nilslice =>
    cases h
    simp only [conc, Option.some.injEq] at hx
    subst hx
    exact ⟨W, by simp [Builtin.clear_, hts, run_und hu], hr, Step.refl _ _ _⟩
  | slice b off len cap =>
    obtain ⟨y, a0, c', hy, rfl, hcap⟩ := conc_slice hx
    simp only at h
    split at h
    · cases h
      exact ⟨W, by simp [Builtin.clear_, hts, run_und hu], hr, Step.refl _ _ _⟩
    · rename_i n hn0
      split at h
      case h_2 => cases h
      rename_i z hz
      obtain ⟨h1, h⟩ := cond_some h
      cases hs0 : Nat.beq i.size 0
      case true => rw [hs0] at h; cases h
      rw [hs0] at h
      simp only [cond_false] at h
      have hsz := Nat.ne_of_beq_eq_false hs0
      rcases hcap with ⟨rfl, _⟩ | ⟨h0, _⟩
      case inr => exact absurd h0 hn0
      obtain ⟨z', k1, k2⟩ := zeroA_run (W := W) hz
      have h1 := Nat.eq_of_beq_eq_true h1
      rw [llen_eq] at h1
      have hzs : z'.cells.size = i.size := by
        have := concs_length (cellsA_conc (k1 E))
        simp only [Array.length_toList] at this; omega
      obtain ⟨W', g1, g2, g3⟩ := stCells_sound (P := P) hr hy h (lrep_conc (cellsA_conc (k1 E)) len)
      have hzc : (Builtin.zeroCells z'.cells len).toList = (List.replicate len z'.cells.toList).flatten := by
        unfold Builtin.zeroCells
        rw [zero_cells (by omega)]
      refine ⟨W', ?_, g2, g3⟩
      cases len with
      | zero => exact absurd rfl hn0
      | succ n =>
        simp only [Builtin.clear_, hts, List.getElem?_toArray, List.getElem?_cons_zero, Sem.run_bind, run_und hu, Result.andThen_ok, k2, hzc, g1, Sem.run_pure]
  | _ => cases h

/-! ### Ranging over a map -/
noncomputable def rangeA (P : Program) (t : TypeId) (x : AV) (A : AH) : Option (AV × AH) := match und P t with
  | some (.map _ _) => (match x with
    | .nilmap => some (.ptr A.next 0, newObjA A (.iter none 0 [] 0))
    | .map b => (match A.heap.get b with
      | some (.map _ clock) => some (.ptr A.next 0, newObjA A (.iter (some b) clock [] clock))
      | _ => none)
    | _ => none)
  | _ => none
theorem rangeA_sound [Amb] (hr : Rel E A W) {t : TypeId} {x v : AV} {A' : AH} (h : rangeA P t x A = some (v, A')) {x' : Value} (hx : conc E x = some x') :
    ∃ (v' : Value) (W' : World) (E' : Env), (Instr.range t x').run P W = .ok v' W' ∧ conc E' v = some v' ∧ Rel E' A' W' ∧ Step E A W E' A' W' := by
  unfold rangeA at h
  split at h
  case h_2 => cases h
  rename_i k e hu
  split at h
  · cases h
    simp only [conc, Option.some.injEq] at hx
    subst hx
    obtain ⟨k1, k2⟩ := hr.new (o := .iter none 0 [] 0) (b := .mapIter none 0 #[] 0) 0 (by simp [ObjRel])
    refine ⟨.pointer (some ⟨W.heap.size, 0, none⟩), _, _, ?_, ?_, k1, k2⟩
    · simp [Instr.range, run_und hu]
    · simp [conc, Env.bind_same]
  · rename_i b
    split at h
    case h_2 => cases h
    rename_i es clock hg
    cases h
    obtain ⟨y, hy, rfl⟩ := conc_map hx
    obtain ⟨o, ho, hrel⟩ := hr.obj b _ y hg hy
    cases o <;> simp only [ObjRel] at hrel
    rename_i ces clk
    obtain ⟨rfl, hes⟩ := hrel
    have hgo : (getObj y.1).run P W = .ok (.map ces clk) W := by simp [getObj, Sem.run, ho]
    have hne : A.next ≠ b := by
      intro e
      subst e
      rw [hr.dead _ (Nat.le_refl _)] at hg; cases hg
    obtain ⟨k1, k2⟩ := hr.new (o := .iter (some b) clk [] clk) (b := .mapIter (some y.1) clk #[] clk) 0 (by
      simp only [ObjRel]
      refine ⟨⟨y, ?_, rfl⟩, trivial, trivial, trivial, trivial⟩
      show (if b = A.next then _ else E.blk b) = some y
      rw [if_neg (fun e => hne e.symm)]; exact hy)
    refine ⟨.pointer (some ⟨W.heap.size, 0, none⟩), _, _, ?_, ?_, k1, k2⟩
    · simp [Instr.range, run_und hu, hgo]
    · simp [conc, Env.bind_same]
  · cases h


noncomputable def lfilter {α : Type} (p : α → Bool) (l : List α) : List α := List.rec (motive := fun _ => List α) [] (fun x _ ih => cond (p x) (x :: ih) ih) l
theorem lfilter_eq {α : Type} (p : α → Bool) (l : List α) : lfilter p l = l.filter p := by
  induction l with
  | nil => rfl
  | cons x l ih =>
    show cond (p x) (x :: lfilter p l) (lfilter p l) = _
    rw [ih, List.filter_cons]
    cases p x <;> rfl
noncomputable def lmem (n : Nat) (l : List Nat) : Bool := List.rec (motive := fun _ => Bool) false (fun x _ ih => cond (Nat.beq x n) true ih) l
theorem lmem_eq (n : Nat) (l : List Nat) : lmem n l = l.contains n := by
  induction l with
  | nil => rfl
  | cons x l ih =>
    show cond (Nat.beq x n) true (lmem n l) = _
    rw [ih, beq_eq, List.contains_cons]
    by_cases h : x = n
    · subst h; simp
    · have : (n == x) = false := by simp; exact fun e => h e.symm
      simp [h, this]
noncomputable def isNil {α : Type} (l : List α) : Bool := List.rec (motive := fun _ => Bool) true (fun _ _ _ => false) l

theorem lall_all {α : Type} (p : α → Bool) (l : List α) : lall p l = l.all p := by
  induction l with
  | nil => rfl
  | cons x l ih =>
    show cond (p x) (lall p l) false = _
    rw [ih, List.all_cons]
    cases p x <;> rfl
theorem ble_dec (a b : Nat) : Nat.ble a b = decide (b ≥ a) := by
  cases h : Nat.ble a b
  · symm; rw [decide_eq_false_iff_not]; intro hl; rw [Nat.ble_eq_true_of_le hl] at h; cases h
  · symm; rw [decide_eq_true_eq]; exact Nat.le_of_ble_eq_true h
noncomputable def leftOf (es : List (AV × AV × Nat)) (seen : List Nat) : List (AV × AV × Nat) := lfilter (fun e => !lmem e.2.2 seen) es
noncomputable def nextA (x : AV) (A : AH) : Option (List (AV × AH)) := match x with
  | .ptr b 0 => (match A.heap.get b with
    | some (.iter none _ _ _) => some [(.tuple [.bool false], A)]
    | some (.iter (some m) since seen stepped) => (match A.heap.get m with
      | some (.map es clock) => cond (cond (isNil seen) true (cond (isNil es) true (!lall (fun e => Nat.ble stepped e.2.2) es)))
          (cond (lall (fun e => Nat.blt e.2.2 since) (leftOf es seen))
            (match leftOf es seen with
              | [] => some [(.tuple [.bool false], A)]
              | l => some (lmap (fun e => (.tuple [.bool true, e.1, e.2.1], ⟨A.heap.set b (.iter (some m) since (lapp seen [e.2.2]) clock), A.next⟩)) l)) none) none
      | _ => none)
    | _ => none)
  | _ => none

theorem F2.filter {α β : Type} {R : α → β → Prop} (p : α → Bool) (q : β → Bool) (h : ∀ a b, R a b → p a = q b) : ∀ {l : List α} {m : List β}, F2 R l m → F2 R (l.filter p) (m.filter q)
  | _, _, .nil => .nil
  | _, _, .cons (a := a) (b := b) r t => by
    rw [List.filter_cons, List.filter_cons, h a b r]
    cases q b
    · exact F2.filter p q h t
    · exact .cons r (F2.filter p q h t)
theorem F2.all {α β : Type} {R : α → β → Prop} (p : α → Bool) (q : β → Bool) (h : ∀ a b, R a b → p a = q b) : ∀ {l : List α} {m : List β}, F2 R l m → l.all p = m.all q
  | _, _, .nil => rfl
  | _, _, .cons (a := a) (b := b) r t => by simp [h a b r, F2.all p q h t]
theorem F2.at {α β : Type} {R : α → β → Prop} : ∀ {l : List α} {m : List β} (_ : F2 R l m) {n : Nat} {y : β}, m[n]? = some y → ∃ x, l[n]? = some x ∧ R x y
  | _, _, .nil, _, _, h => by simp at h
  | _, _, .cons r t, 0, _, h => by simp at h; subst h; exact ⟨_, rfl, r⟩
  | _, _, .cons r t, n + 1, _, h => by simpa using F2.at t (by simpa using h)

theorem nextA_sound [Amb] (hr : Rel E A W) {x : AV} {l : List (AV × AH)} (h : nextA x A = some l) {x' : Value} (hx : conc E x = some x') (ty : TypeId) :
    ∃ (v : AV) (A' : AH) (v' : Value) (W' : World), (v, A') ∈ l ∧ (Instr.next x' false ty).run P W = .ok v' W' ∧ conc E v = some v' ∧ Rel E A' W' ∧ Step E A W E A' W' := by
  unfold nextA at h
  split at h
  case h_2 => cases h
  rename_i b
  obtain ⟨y, hy, rfl⟩ := conc_ptr hx
  split at h
  case h_3 => cases h
  · rename_i since seen stepped hg
    cases h
    obtain ⟨o, ho, hrel⟩ := hr.obj b _ y hg hy
    cases o <;> simp only [ObjRel] at hrel
    rename_i m0 s0 se0 st0
    obtain ⟨hm, _, _, _, hbase⟩ := hrel
    cases m0 with
    | some _ => exact hm.elim
    | none =>
      have hgo : (getObj y.1).run P W = .ok (.mapIter none s0 se0 st0) W := by simp [getObj, Sem.run, ho]
      refine ⟨_, A, .tuple #[.bool false], W, List.mem_singleton.2 rfl, ?_, rfl, hr, Step.refl _ _ _⟩
      simp [Instr.next, hbase, hgo]
  · rename_i m since seen stepped hg
    split at h
    case h_2 => cases h
    rename_i es clock hgm
    obtain ⟨h1, h⟩ := cond_some h
    obtain ⟨h2, h⟩ := cond_some h
    obtain ⟨o, ho, hrel⟩ := hr.obj b _ y hg hy
    cases o <;> simp only [ObjRel] at hrel
    rename_i m0 s0 se0 st0
    obtain ⟨hm, hs1, hs2, hs3, hbase⟩ := hrel
    cases m0 with
    | none => exact hm.elim
    | some mb =>
      obtain ⟨ym, hym, hym2⟩ := hm
      subst hs1; subst hs2; subst hs3; subst hym2
      obtain ⟨om, hom, hrelm⟩ := hr.obj m _ ym hgm hym
      cases om <;> simp only [ObjRel] at hrelm
      rename_i ces clk
      obtain ⟨rfl, hes⟩ := hrelm
      have hgo : (getObj y.1).run P W = .ok (.mapIter (some ym.1) since seen.toArray stepped) W := by simp [getObj, Sem.run, ho]
      have hgo2 : (getObj ym.1).run P W = .ok (.map ces clk) W := by simp [getObj, Sem.run, hom]
      -- not the case that stops the model
      have hstop : ¬ ((!seen.toArray.isEmpty && !ces.isEmpty && ces.all (·.born ≥ stepped)) = true) := by
        intro hh
        simp only [Bool.and_eq_true, Bool.not_eq_true'] at hh
        obtain ⟨⟨a1, a2⟩, a3⟩ := hh
        have b1 : isNil seen = false := by cases seen <;> simp_all [isNil]
        have b2 : isNil es = false := by
          cases es with
          | nil =>
            have := F2.length hes
            simp at this
            have : ces = #[] := by apply Array.toList_inj.1; simpa using this.symm
            rw [this] at a2; simp at a2
          | cons _ _ => rfl
        rw [b1, b2] at h1
        simp only [cond_false, Bool.not_eq_true'] at h1
        have b3 : lall (fun e => Nat.ble stepped e.2.2) es = true := by
          rw [lall_all, F2.all _ (fun e => decide (e.born ≥ stepped)) (fun a b r => by rw [r.2.2]; exact ble_dec _ _) hes]
          simpa using a3
        rw [b3] at h1; cases h1
      -- what is left
      have hleft : F2 (EntryRel E) (leftOf es seen) (ces.filter fun e => !seen.toArray.contains e.born).toList := by
        unfold leftOf
        rw [lfilter_eq, Array.toList_filter]
        exact F2.filter _ _ (fun a b r => by rw [r.2.2, lmem_eq]; simp) hes
      generalize hL : (ces.filter fun e => !seen.toArray.contains e.born) = L at hleft
      have hold : L.filter (·.born < since) = L := by
        apply Array.toList_inj.1
        rw [Array.toList_filter, List.filter_eq_self]
        intro e he
        obtain ⟨n, hn⟩ := List.getElem?_of_mem he
        obtain ⟨x, hx1, hx2⟩ := F2.at hleft hn
        have := blt_iff (lall_eq _ _ h2 x (List.mem_of_getElem? hx1))
        rw [hx2.2.2] at this
        simpa using this
      have hnew : L.filter (·.born ≥ since) = #[] := by
        apply Array.toList_inj.1
        rw [Array.toList_filter]
        simp only [List.filter_eq_nil_iff]
        intro e he
        obtain ⟨n, hn⟩ := List.getElem?_of_mem he
        obtain ⟨x, hx1, hx2⟩ := F2.at hleft hn
        have := blt_iff (lall_eq _ _ h2 x (List.mem_of_getElem? hx1))
        rw [hx2.2.2] at this
        simp; omega
      have hcand : ((if L.isEmpty = true then #[none] else #[]) ++ Array.map some (L ++ #[]) : Array (Option MapEntry)) = if L.isEmpty = true then #[none] else L.map some := by
        cases hLe : L.isEmpty
        · simp
        · have : L = #[] := by simpa using hLe
          subst this; simp
      split at h
      · rename_i hnil
        rw [hnil] at hleft
        have hLn : L = #[] := by
          have := F2.length hleft
          apply Array.toList_inj.1
          simpa using this.symm
        cases h
        refine ⟨_, A, .tuple #[.bool false], W, List.mem_singleton.2 rfl, ?_, rfl, hr, Step.refl _ _ _⟩
        simp only [Instr.next, hbase, Nat.add_zero, Sem.run_bind, hgo, Result.andThen_ok, hgo2]
        rw [if_neg hstop]
        rw [hL, hold, hnew, hcand, hLn]
        simp [Question.forced]
      · rename_i l' hne
        simp only [Option.some.injEq] at h
        subst h
        have hLn : L.isEmpty = false := by
          cases hh : L.isEmpty
          · rfl
          · have : L = #[] := by simpa using hh
            rw [this] at hleft
            have := F2.length hleft
            exact absurd (List.length_eq_zero_iff.1 (by simpa using this)) hne
        have hpos : 0 < L.size := by
          rcases Nat.eq_zero_or_pos L.size with h0 | h0
          · have : L = #[] := Array.eq_empty_of_size_eq_zero h0
            rw [this] at hLn; cases hLn
          · exact h0
        -- which one comes up
        obtain ⟨k, d, hk, hch⟩ : ∃ k d, k < L.size ∧ (choose (.mapNext (L.map some).size)).run P W = .ok k { W with drawn := d } := by
          by_cases hf : (Question.mapNext (L.map (some : MapEntry → Option MapEntry)).size).forced = true
          · exact ⟨0, W.drawn, hpos, by rw [run_choose, if_pos hf]⟩
          · refine ⟨W.tape W.drawn (.mapNext (L.map (some : MapEntry → Option MapEntry)).size) % L.size, W.drawn + 1, Nat.mod_lt _ hpos, ?_⟩
            rw [run_choose, if_neg hf]
            simp [Question.cut]
        have hLk : L.toList[k]? = some (L[k]'hk) := by simp
        obtain ⟨e, he1, he2⟩ := F2.at hleft hLk
        have hr' := hr.drawn d
        obtain ⟨w1, w2⟩ := writeObj hr' hg hy ho (o' := .iter (some m) since (lapp seen [e.2.2]) clk) (c' := .mapIter (some ym.1) since (seen.toArray.push (L[k]'hk).born) clk) (by
          simp only [ObjRel]
          refine ⟨⟨ym, hym, rfl⟩, trivial, ?_, trivial, hbase⟩
          rw [lapp_eq, ← he2.2.2]; simp)
        refine ⟨.tuple [.bool true, e.1, e.2.1], _, .tuple #[.bool true, (L[k]'hk).key, (L[k]'hk).val], _, ?_, ?_, ?_, w1, (Step.drawn d).trans w2⟩
        · rw [lmap_eq]
          exact List.mem_map.2 ⟨e, List.mem_of_getElem? he1, rfl⟩
        · have hset : ∀ c : Obj, (setObj y.1 c).run P { W with drawn := d } = .ok () { W with drawn := d, heap := W.heap.setIfInBounds y.1 c } := fun c => by simp [setObj, Sem.run, ho]
          simp only [Instr.next, hbase, Nat.add_zero, Sem.run_bind, hgo, Result.andThen_ok, hgo2]
          rw [if_neg hstop]
          rw [hL, hold, hnew, hcand, hLn]
          simp only [Bool.false_eq_true, if_false]
          rw [Sem.run_bind, hch]
          simp only [Result.andThen_ok]
          have hget : (L.map (some : MapEntry → Option MapEntry))[k]? = some (some (L[k]'hk)) := by simp [hk]
          rw [hget]
          simp [hset]
        · simp [conc, concs, he2.1, he2.2.1]

noncomputable def entryA (x : AV) (A : AH) : Option AV := match x with
  | .ptr b 0 => (match A.heap.get b with
    | some (.iter (some m) _ seen stepped) => (match A.heap.get m with
      | some (.map es clock) => cond (Nat.beq clock stepped) (match lget 0 (lrev seen) with
        | some s => (match lfilter (fun e => Nat.beq e.2.2 s) es with
          | [] => none
          | e :: _ => some (.tuple [e.1, e.2.1]))
        | none => none) none
      | _ => none)
    | _ => none)
  | _ => none
where lrev (l : List Nat) : List Nat := List.rec (motive := fun _ => List Nat) [] (fun x _ ih => lapp ih [x]) l
theorem lrev_eq (l : List Nat) : entryA.lrev l = l.reverse := by
  induction l with
  | nil => rfl
  | cons x l ih => show lapp (entryA.lrev l) [x] = _; rw [ih, lapp_eq, List.reverse_cons]
theorem F2.find {p : AV × AV × Nat → Bool} {q : MapEntry → Bool} (h : ∀ a b, EntryRel E a b → p a = q b) : ∀ {l : List (AV × AV × Nat)} {m : List MapEntry}, F2 (EntryRel E) l m → ∀ {e r}, l.filter p = e :: r → ∃ c, m.find? q = some c ∧ EntryRel E e c
  | _, _, .nil, _, _, hh => by simp at hh
  | _, _, .cons (a := a) (b := b) r t, e, r', hh => by
    rw [List.filter_cons, h a b r] at hh
    cases hq : q b
    · rw [hq] at hh
      simp only [Bool.false_eq_true, if_false] at hh
      obtain ⟨c, h1, h2⟩ := F2.find h t hh
      exact ⟨c, by simp [List.find?_cons, hq, h1], h2⟩
    · rw [hq] at hh
      simp only [if_true, List.cons.injEq] at hh
      obtain ⟨rfl, _⟩ := hh
      exact ⟨b, by simp [List.find?_cons, hq], r⟩
theorem entryA_sound [Amb] (hr : Rel E A W) {x v : AV} (h : entryA x A = some v) {x' : Value} (hx : conc E x = some x') : ∃ v', conc E v = some v' ∧ (Instr.entry x').run P W = .ok v' W := by
  unfold entryA at h
  split at h
  case h_2 => cases h
  rename_i b
  obtain ⟨y, hy, rfl⟩ := conc_ptr hx
  split at h
  case h_2 => cases h
  rename_i m since seen stepped hg
  split at h
  case h_2 => cases h
  rename_i es clock hgm
  obtain ⟨h1, h⟩ := cond_some h
  have h1 := Nat.eq_of_beq_eq_true h1
  split at h
  case h_2 => cases h
  rename_i s hs
  split at h
  · cases h
  rename_i e r he
  cases h
  obtain ⟨o, ho, hrel⟩ := hr.obj b _ y hg hy
  cases o <;> simp only [ObjRel] at hrel
  rename_i m0 s0 se0 st0
  obtain ⟨hm, hs1, hs2, hs3, hbase⟩ := hrel
  cases m0 with
  | none => exact hm.elim
  | some mb =>
    obtain ⟨ym, hym, hym2⟩ := hm
    subst hs1; subst hs2; subst hs3; subst hym2
    obtain ⟨om, hom, hrelm⟩ := hr.obj m _ ym hgm hym
    cases om <;> simp only [ObjRel] at hrelm
    rename_i ces clk
    obtain ⟨rfl, hes⟩ := hrelm
    have hgo : (getObj y.1).run P W = .ok (.mapIter (some ym.1) since seen.toArray stepped) W := by simp [getObj, Sem.run, ho]
    have hgo2 : (getObj ym.1).run P W = .ok (.map ces clk) W := by simp [getObj, Sem.run, hom]
    rw [lfilter_eq] at he
    obtain ⟨c, hc1, hc2⟩ := F2.find (q := fun e => e.born == s) (fun a b r => by
      rw [r.2.2, beq_eq]
      rw [Bool.eq_iff_iff]; simp) hes he
    rw [lrev_eq, lget_eq] at hs
    have hback : seen.toArray.back? = some s := by
      rw [List.getElem?_reverse' (j := seen.length - 1)] at hs
      · simpa [Array.back?] using hs
      · have : 0 < seen.length := by
          rcases Nat.eq_zero_or_pos seen.length with h0 | h0
          · have : seen = [] := List.length_eq_zero_iff.1 h0
            subst this; simp at hs
          · exact h0
        omega
    refine ⟨.tuple #[c.key, c.val], by simp [conc, concs, hc2.1, hc2.2.1], ?_⟩
    simp only [Instr.entry, hbase, Nat.add_zero, Sem.run_bind, hgo, Result.andThen_ok, hback, hgo2]
    rw [if_neg (by simp [h1])]
    have : ces.find? (fun e => e.born == s) = some c := by rw [← Array.find?_toList]; exact hc1
    rw [this]
    rfl
end
end Go.PE
