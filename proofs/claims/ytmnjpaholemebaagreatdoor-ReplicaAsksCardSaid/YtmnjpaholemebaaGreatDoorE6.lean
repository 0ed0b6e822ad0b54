/-
  THE ENGINE, 6: reads of several cells; quiet operations on places, structs, slices.
-/
import Derived.Test.YtmnjpaholemebaaGreatDoorE5
namespace Go.PE
open Go

/-! ### Many cells at once -/
noncomputable def gather (rows : T (List AV)) (r : Nat) (n : Nat) : Option (List AV) := Nat.rec (motive := fun _ => Nat → Option (List AV)) (fun _ => some [])
  (fun _ ih r => match rows.get r with
    | some row => (match ih (Nat.succ r) with | some l => some (lapp row l) | none => none)
    | none => none) n r
noncomputable def rdCells (A : AH) (b off total : Nat) : Option (List AV) :=
  match A.heap.get b with
  | some (.cells esz nr rows) =>
    cond (Nat.ble (Nat.add (Nat.mod off esz) total) esz) (ldRow A b off total)
      (cond (Nat.beq (Nat.mod off esz) 0) (cond (Nat.beq (Nat.mod total esz) 0) (cond (Nat.ble (Nat.add (Nat.div off esz) (Nat.div total esz)) nr)
        (gather rows (Nat.div off esz) (Nat.div total esz)) none) none) none)
  | _ => none

theorem gather_sound {E : Env} {cs : Array Value} {base esz nr : Nat} {rows : T (List AV)} (hrows : RowsRel E cs base esz nr rows) :
    ∀ (n r : Nat) (vs : List AV), gather rows r n = some vs → r + n ≤ nr → ∃ xs, concs E vs = some xs ∧ xs.length = n * esz ∧ (∀ v ∈ xs, isCell v = true) ∧ ∀ j, j < n * esz → cs[base + r * esz + j]? = xs[j]?
  | 0, r, vs, h, _ => by
    cases h
    exact ⟨[], rfl, by simp, by simp, fun j hj => by simp at hj⟩
  | n + 1, r, vs, h, hle => by
    have h' : (match rows.get r with
      | some row => (match gather rows (Nat.succ r) n with | some l => some (lapp row l) | none => none)
      | none => none) = some vs := h
    split at h'
    case h_2 => cases h'
    rename_i row hrow
    split at h'
    case h_2 => cases h'
    rename_i l hl
    cases h'
    obtain ⟨row', xs, g1, g2, g3, g4, g5⟩ := hrows r (by omega)
    rw [hrow] at g1; cases g1
    obtain ⟨ys, k1, k2, k3, k4⟩ := gather_sound hrows n (r + 1) l hl (by omega)
    rw [lapp_eq]
    have es : (n + 1) * esz = esz + n * esz := by rw [Nat.add_mul]; omega
    refine ⟨xs ++ ys, concs_append g2 k1, by rw [List.length_append, g3, k2, es], ?_, ?_⟩
    · intro v hv
      rcases List.mem_append.1 hv with hv | hv
      · exact g4 v hv
      · exact k3 v hv
    · intro j hj
      by_cases hc : j < esz
      · rw [List.getElem?_append_left (by omega)]; exact g5 j hc
      · rw [List.getElem?_append_right (by omega), g3, ← k4 (j - esz) (by omega)]
        congr 1
        rw [Nat.add_mul]; omega

theorem rdCells_sound [Amb] {E : Env} {A : AH} {W : World} (hr : Rel E A W) {b off n : Nat} {x : Nat × Nat × Nat} {vs : List AV} (hx : E.blk b = some x)
    (h : rdCells A b off n = some vs) :
    ∃ xs, concs E vs = some xs ∧ xs.length = n ∧ (∀ v ∈ xs, isCell v = true) ∧ ∀ j, j < n → W.cell? ⟨x.1, x.2.1 + off + j, none⟩ = xs[j]? := by
  unfold rdCells at h
  split at h
  case h_2 => cases h
  rename_i esz nr rows hg
  cases hc : Nat.ble (Nat.add (Nat.mod off esz) n) esz
  · rw [hc] at h
    obtain ⟨h1, h⟩ := cond_some (by simpa using h : cond (Nat.beq (Nat.mod off esz) 0) (cond (Nat.beq (Nat.mod n esz) 0) (cond (Nat.ble (Nat.add (Nat.div off esz) (Nat.div n esz)) nr)
        (gather rows (Nat.div off esz) (Nat.div n esz)) none) none) none = some vs)
    obtain ⟨h2, h⟩ := cond_some h
    obtain ⟨h3, h⟩ := cond_some h
    have h1 : off % esz = 0 := Nat.eq_of_beq_eq_true h1
    have h2 : n % esz = 0 := Nat.eq_of_beq_eq_true h2
    have h3 : off / esz + n / esz ≤ nr := Nat.le_of_ble_eq_true h3
    obtain ⟨o, ho, hrel⟩ := hr.obj b _ x hg hx
    cases o <;> simp only [ObjRel] at hrel
    rename_i cs e fr
    obtain ⟨hrows, _⟩ := hrel
    have h : gather rows (off / esz) (n / esz) = some vs := h
    obtain ⟨xs, k1, k2, k3, k4⟩ := gather_sound hrows _ _ vs h h3
    have e1 : off / esz * esz = off := by have := Nat.div_add_mod off esz; rw [Nat.mul_comm]; omega
    have e2 : n / esz * esz = n := by have := Nat.div_add_mod n esz; rw [Nat.mul_comm]; omega
    rw [e2] at k2 k4
    refine ⟨xs, k1, k2, k3, fun j hj => ?_⟩
    rw [cell_of ho, ← k4 j hj, e1]
  · rw [hc] at h
    exact ldRow_sound hr hx h

theorem rd_run [Amb] {P : Program} {E : Env} {A : AH} {W : World} (hr : Rel E A W) {b off n : Nat} {x : Nat × Nat × Nat} {vs : List AV} (hx : E.blk b = some x)
    (h : rdCells A b off n = some vs) : ∃ xs, concs E vs = some xs ∧ xs.length = n ∧ (∀ v ∈ xs, isCell v = true) ∧ (loadCells ⟨x.1, x.2.1 + off, none⟩ n).run P W = .ok xs.toArray W := by
  obtain ⟨xs, h1, h2, h3, h4⟩ := rdCells_sound hr hx h
  exact ⟨xs, h1, h2, h3, run_loadCells xs h2 h4⟩

/-! ### Loads -/
noncomputable def loadA (P : Program) (t : TypeId) (x : AV) (A : AH) : Option AV :=
  match x with
  | .ptr b off => (match layout P t with
    | some (true, n) => (match ldRow A b off n with | some vs => some (.agg vs) | none => none)
    | some (false, _) => (match ldRow A b off 1 with | some vs => lget 0 vs | none => none)
    | none => none)
  | _ => none

section
variable {P : Program} {W : World} {E : Env} {A : AH}

theorem concs_one {vs : List AV} {xs : List Value} {v : AV} (h : concs E vs = some xs) (hl : xs.length = 1) (hv : lget 0 vs = some v) : ∃ x, conc E v = some x ∧ xs = [x] := by
  rw [lget_eq] at hv
  obtain ⟨x, h1, h2⟩ := concs_get h hv
  refine ⟨x, h1, ?_⟩
  match xs, hl with
  | [y], _ => simp at h2; rw [h2]

theorem loadVar_run [Amb] (hr : Rel E A W) {t : TypeId} {x : AV} {v : AV} (h : loadA P t x A = some v) {x' : Value} (hx : conc E x = some x') :
    ∃ a v', x' = .pointer (some a) ∧ conc E v = some v' ∧ (loadVar t a).run P W = .ok v' W := by
  unfold loadA at h
  split at h
  case h_2 => cases h
  rename_i b off
  obtain ⟨y, hy, rfl⟩ := conc_ptr hx
  split at h
  · rename_i n hl
    obtain ⟨ha, hs⟩ := layout_run hl W
    split at h
    case h_2 => cases h
    rename_i vs hv
    cases h
    obtain ⟨xs, h1, h2, _, h4⟩ := ldRow_sound hr hy hv
    refine ⟨_, .agg xs.toArray, rfl, by simp [conc, h1], ?_⟩
    simp only [loadVar, Sem.run_bind, ha, Result.andThen_ok, if_true, hs]
    rw [run_loadCells xs h2 h4]
    rfl
  · rename_i n hl
    obtain ⟨ha, hs⟩ := layout_run hl W
    split at h
    case h_2 => cases h
    rename_i vs hv
    obtain ⟨xs, h1, h2, _, h4⟩ := ldRow_sound hr hy hv
    obtain ⟨z, h5, rfl⟩ := concs_one h1 h2 h
    refine ⟨_, z, rfl, h5, ?_⟩
    have := h4 0 (by omega)
    simp only [Nat.add_zero] at this
    simp [loadVar, ha, this]
  · cases h

/-! ### Places -/
noncomputable def fieldAddrA (P : Program) (s : TypeId) (x : AV) (f : Nat) : Option AV :=
  match x with
  | .ptr b off => (match und P s with
    | some (.struct fs) => (match lget f fs.toList with
      | some fl => (match ti P fl.type with
        | some i => cond (Nat.beq i.size 0) none (some (.ptr b (Nat.add off fl.offset)))
        | none => none)
      | none => none)
    | _ => none)
  | _ => none
theorem aget_of {α : Type} {a : Array α} {i : Nat} {x : α} (h : lget i a.toList = some x) : a[i]? = some x := by
  rw [lget_eq] at h; simpa using h
theorem add_addr (b o n : Nat) : Addr.add ⟨b, o, none⟩ n = ⟨b, o + n, none⟩ := Addr.add_lit b o n

theorem fieldAddrA_sound {s : TypeId} {x : AV} {f : Nat} {v : AV} (h : fieldAddrA P s x f = some v) {x' : Value} (hx : conc E x = some x') :
    ∃ v', conc E v = some v' ∧ (Instr.fieldAt s x' f).run P W = .ok v' W := by
  unfold fieldAddrA at h
  split at h
  case h_2 => cases h
  rename_i b off
  split at h
  case h_2 => cases h
  rename_i fs hu
  split at h
  case h_2 => cases h
  rename_i fl hf
  split at h
  case h_2 => cases h
  rename_i i hi
  cases hz : Nat.beq i.size 0
  · rw [hz] at h; cases h
    have hn := Nat.ne_of_beq_eq_false hz
    obtain ⟨y, hy, rfl⟩ := conc_ptr hx
    refine ⟨.pointer (some ⟨y.1, y.2.1 + (off + fl.offset), none⟩), by simp [conc, hy], ?_⟩
    simp only [Instr.fieldAt, Sem.run_bind, run_und hu, Result.andThen_ok]
    rw [aget_of hf]
    simp [Instr.sureAddr, fieldPlace, run_size hi, hn, add_addr, Nat.add_assoc]
  · rw [hz] at h; cases h

noncomputable def indexAddrA (P : Program) (t : TypeId) (x i : AV) : Option AV :=
  match i with
  | .int _ (.ofNat n) => (match und P t with
    | some (.array len e) => (match x with
      | .ptr b off => cond (Nat.blt n len) (match ti P e with | some j => some (.ptr b (Nat.add off (Nat.mul n j.size))) | none => none) none
      | _ => none)
    | some (.slice e) => (match x with
      | .slice b off len _ => cond (Nat.blt n len) (match ti P e with | some j => some (.ptr b (Nat.add off (Nat.mul n j.size))) | none => none) none
      | _ => none)
    | _ => none)
  | _ => none
theorem indexAddrA_sound {t : TypeId} {x i : AV} {v : AV} (h : indexAddrA P t x i = some v) {x' i' : Value} (hx : conc E x = some x') (hi : conc E i = some i') :
    ∃ v', conc E v = some v' ∧ (Instr.indexAt t x' i').run P W = .ok v' W := by
  unfold indexAddrA at h
  split at h
  case h_2 => cases h
  rename_i k n
  simp only [conc, Option.some.injEq] at hi
  subst hi
  split at h
  · rename_i len e hu
    split at h
    case h_2 => cases h
    rename_i b off
    obtain ⟨y, hy, rfl⟩ := conc_ptr hx
    obtain ⟨h1, h⟩ := cond_some h
    have h1 := blt_iff h1
    split at h
    case h_2 => cases h
    rename_i j hj
    cases h
    refine ⟨.pointer (some ⟨y.1, y.2.1 + (off + n * j.size), none⟩), by simp [conc, hy], ?_⟩
    have hc : (0 : Int) ≤ Int.ofNat n ∧ Int.ofNat n < (len : Int) := by simp only [Int.ofNat_eq_natCast]; omega
    have hc2 : ((n : Int) < (len : Int)) := by omega
    simp only [Instr.indexAt, asIntOf, Sem.run_bind, Sem.run_pure, Result.andThen_ok, run_und hu, Instr.sureAddr]
    simp [run_size hj, add_addr, Nat.add_assoc, h1]
  · rename_i e hu
    split at h
    case h_2 => cases h
    rename_i b off len cap
    obtain ⟨y, a0, c, hy, rfl, hcap⟩ := conc_slice hx
    obtain ⟨h1, h⟩ := cond_some h
    have h1 := blt_iff h1
    split at h
    case h_2 => cases h
    rename_i j hj
    cases h
    rcases hcap with ⟨rfl, _⟩ | ⟨h0, _⟩
    case inr => omega
    refine ⟨.pointer (some ⟨y.1, y.2.1 + (off + n * j.size), none⟩), by simp [conc, hy], ?_⟩
    simp only [Instr.indexAt, asIntOf, Sem.run_bind, Sem.run_pure, Result.andThen_ok, run_und hu]
    simp [run_size hj, add_addr, Nat.add_assoc, h1]
  · cases h

/-! ### Parts of a value -/
noncomputable def partA (P : Program) (t : TypeId) (cs : List AV) (off : Nat) : Option AV :=
  match layout P t with
  | some (true, n) => some (.agg (ltake n (ldrop off cs)))
  | some (false, _) => lget off cs
  | none => none
theorem partA_sound {t : TypeId} {cs : List AV} {off : Nat} {v : AV} (h : partA P t cs off = some v) {xs : List Value} (hx : concs E cs = some xs) :
    ∃ v', conc E v = some v' ∧ (part t xs.toArray off).run P W = .ok v' W := by
  unfold partA at h
  split at h
  · rename_i n hl
    obtain ⟨ha, hs⟩ := layout_run hl W
    cases h
    rw [ltake_eq, ldrop_eq]
    refine ⟨.agg ((xs.drop off).take n).toArray, by simp [conc, concs_take n (concs_drop off hx)], ?_⟩
    simp only [part, Sem.run_bind, ha, Result.andThen_ok, if_true, hs]
    simp
  · rename_i n hl
    obtain ⟨ha, hs⟩ := layout_run hl W
    rw [lget_eq] at h
    obtain ⟨z, h1, h2⟩ := concs_get hx h
    refine ⟨z, h1, ?_⟩
    simp only [part, Sem.run_bind, ha, Result.andThen_ok, Bool.false_eq_true, if_false]
    have : xs.toArray[off]? = some z := by simpa using h2
    rw [this]; rfl
  · cases h

noncomputable def fieldA (P : Program) (t : TypeId) (x : AV) (f : Nat) : Option AV :=
  match x with
  | .agg cs => (match und P t with
    | some (.struct fs) => (match lget f fs.toList with
      | some fl => partA P fl.type cs fl.offset
      | none => none)
    | _ => none)
  | _ => none
theorem fieldA_sound {t : TypeId} {x : AV} {f : Nat} {v : AV} (h : fieldA P t x f = some v) {x' : Value} (hx : conc E x = some x') :
    ∃ v', conc E v = some v' ∧ (Instr.field t x' f).run P W = .ok v' W := by
  unfold fieldA at h
  split at h
  case h_2 => cases h
  split at h
  case h_2 => cases h
  rename_i fs hu
  split at h
  case h_2 => cases h
  rename_i fl hf
  obtain ⟨xs, hxs, rfl⟩ := conc_agg hx
  obtain ⟨v', h1, h2⟩ := partA_sound (W := W) h hxs
  refine ⟨v', h1, ?_⟩
  simp only [Instr.field, Sem.run_bind, run_und hu, Result.andThen_ok]
  rw [aget_of hf]
  simp [asAgg, h2]

noncomputable def indexA (P : Program) (t : TypeId) (x i : AV) : Option AV :=
  match i with
  | .int _ (.ofNat n) => (match und P t with
    | some (.array len e) => (match x with
      | .agg cs => cond (Nat.blt n len) (match ti P e with | some j => partA P e cs (Nat.mul n j.size) | none => none) none
      | _ => none)
    | some .string => (match x with
      | .str s => (match lget n s with | some c => some (.int .u8 (.ofNat (Nat.mod c 256))) | none => none)
      | _ => none)
    | _ => none)
  | _ => none
theorem indexA_sound {t : TypeId} {x i : AV} {v : AV} (h : indexA P t x i = some v) {x' i' : Value} (hx : conc E x = some x') (hi : conc E i = some i') :
    ∃ v', conc E v = some v' ∧ (Instr.index t x' i').run P W = .ok v' W := by
  unfold indexA at h
  split at h
  case h_2 => cases h
  rename_i k n
  simp only [conc, Option.some.injEq] at hi
  subst hi
  split at h
  · rename_i len e hu
    split at h
    case h_2 => cases h
    obtain ⟨xs, hxs, rfl⟩ := conc_agg hx
    obtain ⟨h1, h⟩ := cond_some h
    have h1 := blt_iff h1
    split at h
    case h_2 => cases h
    rename_i j hj
    obtain ⟨v', h2, h3⟩ := partA_sound (W := W) h hxs
    refine ⟨v', h2, ?_⟩
    have h3 : (part e xs.toArray (n * j.size)).run P W = .ok v' W := h3
    simp only [Instr.index, asIntOf, Sem.run_bind, Sem.run_pure, Result.andThen_ok, run_und hu]
    simp [run_size hj, h1, h3]
  · rename_i hu
    split at h
    case h_2 => cases h
    rename_i s
    split at h
    case h_2 => cases h
    rename_i c hc
    cases h
    simp only [conc, Option.some.injEq] at hx
    subst hx
    rw [lget_eq] at hc
    refine ⟨_, rfl, ?_⟩
    simp only [Instr.index, asIntOf, Sem.run_bind, Sem.run_pure, Result.andThen_ok, run_und hu]
    have hlt : n < (strOf s).size := by
      have := (List.getElem?_eq_some_iff.1 hc).1
      simpa [strOf, ByteArray.size] using this
    have hb : (strOf s)[n]? = some (UInt8.ofNat c) := by
      rw [getElem?_pos (strOf s) n hlt]
      have : (strOf s)[n] = (strOf s).data[n]'hlt := rfl
      rw [this]
      have hs2 : (s.map UInt8.ofNat)[n]? = some (UInt8.ofNat c) := by simp [hc]
      have h4 : (strOf s).data[n]? = some (UInt8.ofNat c) := by
        rw [← Array.getElem?_toList, strOf_data]; exact hs2
      exact (Array.getElem?_eq_getElem (xs := (strOf s).data) hlt).symm.trans h4
    simp [hb]
    rfl
  · cases h

noncomputable def extractA (x : AV) (n : Nat) : Option AV :=
  match x with
  | .tuple vs => lget n vs
  | _ => none
theorem extractA_sound {x : AV} {n : Nat} {v : AV} (h : extractA x n = some v) {x' : Value} (hx : conc E x = some x') :
    ∃ v', conc E v = some v' ∧ (Instr.extract x' n).run P W = .ok v' W := by
  unfold extractA at h
  split at h
  case h_2 => cases h
  obtain ⟨xs, hxs, rfl⟩ := conc_tuple hx
  rw [lget_eq] at h
  obtain ⟨z, h1, h2⟩ := concs_get hxs h
  refine ⟨z, h1, ?_⟩
  have : xs.toArray[n]? = some z := by simpa using h2
  simp only [Instr.extract]
  rw [this]; rfl
end
end Go.PE
