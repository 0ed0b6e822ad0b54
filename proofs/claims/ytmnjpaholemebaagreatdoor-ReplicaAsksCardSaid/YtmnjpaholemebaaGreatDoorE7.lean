/-
  THE ENGINE, 7: slices of slices, built structs, closures, small builtins.
-/
import Derived.Test.YtmnjpaholemebaaGreatDoorE6
namespace Go.PE
open Go

noncomputable def natOf (x : AV) : Option Nat :=
  match x with
  | .int _ n => (match n with | .ofNat m => some m | .negSucc _ => none)
  | _ => none
/-- A bound that may be missing. -/
noncomputable def boundA (x : Option AV) (d : Nat) : Option Nat :=
  match x with
  | none => some d
  | some v => natOf v
noncomputable def sub (a b : Nat) : Nat := Nat.sub a b

/-- How far a slice of unknown room surely reaches: its length, or what is known of its block. -/
noncomputable def reach (known off len sz : Nat) : Nat := cond (Nat.ble len (Nat.div (Nat.sub known off) sz)) (Nat.div (Nat.sub known off) sz) len
noncomputable def sliceBlk (known b off len : Nat) (cap : Cap) (size : Nat) (lo hi mx : Option AV) : Option AV :=
  match cap with
  | .exact c => (match boundA mx c with
    | some m => (match boundA hi len with
      | some h => (match boundA lo 0 with
        | some l => cond (Nat.ble m c) (cond (Nat.ble h m) (cond (Nat.ble l h)
            (some (.slice b (cond (Nat.beq m l) off (Nat.add off (Nat.mul l size))) (sub h l) (.exact (sub m l)))) none) none) none
        | none => none)
      | none => none)
    | none => none)
  | .upto sz => cond (Nat.beq sz size) (match mx with
    | some mv => (match natOf mv with
      | some m => (match boundA hi len with
        | some h => (match boundA lo 0 with
          | some l => cond (Nat.ble m (reach known off len sz)) (cond (Nat.ble h m) (cond (Nat.ble l h)
              (some (.slice b (cond (Nat.beq m l) off (Nat.add off (Nat.mul l size))) (sub h l) (.exact (sub m l)))) none) none) none
          | none => none)
        | none => none)
      | none => none)
    | none => (match boundA hi len with
      | some h => (match boundA lo 0 with
        | some l => cond (Nat.ble h (reach known off len sz)) (cond (Nat.beq l 0) (some (.slice b off h (.upto sz)))
            (cond (Nat.ble l h) (cond (Nat.blt l (reach known off len sz)) (some (.slice b (Nat.add off (Nat.mul l size)) (sub h l) (.upto sz))) (some (.slice b off 0 (.empty l sz)))) none)) none
        | none => none)
      | none => none)) none
  | .empty _ _ => none

noncomputable def allZero (lo hi mx : Option AV) : Bool :=
  match boundA lo 0 with
  | some 0 => (match boundA hi 0 with
    | some 0 => (match boundA mx 0 with | some 0 => true | _ => false)
    | _ => false)
  | _ => false

/-- How many cells of a block are known. -/
noncomputable def knownOf (A : AH) (b : Nat) : Nat := match A.heap.get b with
  | some (.cells esz n _) => Nat.mul n esz
  | _ => 0
noncomputable def sliceA (P : Program) (A : AH) (t : TypeId) (x : AV) (lo hi mx : Option AV) : Option AV :=
  match und P t with
  | some (.slice e) => (match x with
    | .nilslice => cond (allZero lo hi mx) (match ti P e with | some _ => some .nilslice | none => none) none
    | .slice b off len cap => (match ti P e with | some j => sliceBlk (knownOf A b) b off len cap j.size lo hi mx | none => none)
    | _ => none)
  | some (.array n e) => (match x with
    | .ptr b off => (match ti P e with | some j => sliceBlk 0 b off n (.exact n) j.size lo hi mx | none => none)
    | _ => none)
  | some .string => (match x with
    | .str s => (match mx with
      | none => (match boundA hi (llen s) with
        | some h => (match boundA lo 0 with
          | some l => cond (Nat.ble h (llen s)) (cond (Nat.ble l h) (some (.str (ltake (sub h l) (ldrop l s)))) none) none
          | none => none)
        | none => none)
      | some _ => none)
    | _ => none)
  | _ => none

section
variable {P : Program} {W : World} {E : Env}

theorem natOf_int {v : AV} {m : Nat} (h : natOf v = some m) : ∃ k, v = .int k (m : Int) := by
  unfold natOf at h
  split at h
  · split at h
    · cases h; exact ⟨_, rfl⟩
    · cases h
  · cases h
/-- The bounds of a slice expression, told by optional values. -/
def OptRel (E : Env) (a : Option AV) (b : Option Value) : Prop :=
  match a, b with
  | none, none => True
  | some v, some x => conc E v = some x
  | _, _ => False
theorem run_sliceBound {k : IntKind} {m y : Nat} {code : BoundsCode} (h : m ≤ y) : (Instr.sliceBound (.int k (m : Int)) y code).run P W = .ok m W := by
  simp [Instr.sliceBound, asIntOf, h]

theorem run_bounds {isS : Bool} {len cap l h m : Nat} {lo hi mx : Option AV} {lo' hi' mx' : Option Value}
    (e1 : OptRel E lo lo') (e2 : OptRel E hi hi') (e3 : OptRel E mx mx') (h3 : boundA mx cap = some m) (h2 : boundA hi len = some h) (h1 : boundA lo 0 = some l)
    (g3 : m ≤ cap) (g2 : h ≤ m) (g1 : l ≤ h) (hm : mx.isSome = true → hi.isSome = true) : (Instr.sliceBounds isS len cap lo' hi' mx').run P W = .ok (l, h, m) W := by
  cases mx with
  | none =>
    cases mx' with
    | some _ => exact e3.elim
    | none =>
      simp only [boundA, Option.some.injEq] at h3
      subst h3
      cases hi with
      | none =>
        cases hi' with
        | some _ => exact e2.elim
        | none =>
          simp only [boundA, Option.some.injEq] at h2
          subst h2
          cases lo with
          | none =>
            cases lo' with
            | some _ => exact e1.elim
            | none =>
              simp only [boundA, Option.some.injEq] at h1
              subst h1
              simp [Instr.sliceBounds]
          | some lv =>
            cases lo' with
            | none => exact e1.elim
            | some lv' =>
              obtain ⟨k, rfl⟩ := natOf_int h1
              simp only [OptRel, conc, Option.some.injEq] at e1
              subst e1
              simp [Instr.sliceBounds, run_sliceBound g1]
      | some hv =>
        cases hi' with
        | none => exact e2.elim
        | some hv' =>
          obtain ⟨k, rfl⟩ := natOf_int h2
          simp only [OptRel, conc, Option.some.injEq] at e2
          subst e2
          cases lo with
          | none =>
            cases lo' with
            | some _ => exact e1.elim
            | none =>
              simp only [boundA, Option.some.injEq] at h1
              subst h1
              simp [Instr.sliceBounds, run_sliceBound g2]
          | some lv =>
            cases lo' with
            | none => exact e1.elim
            | some lv' =>
              obtain ⟨k, rfl⟩ := natOf_int h1
              simp only [OptRel, conc, Option.some.injEq] at e1
              subst e1
              simp [Instr.sliceBounds, run_sliceBound g1, run_sliceBound g2]
  | some mv =>
    cases mx' with
    | none => exact e3.elim
    | some mv' =>
      obtain ⟨k, rfl⟩ := natOf_int h3
      simp only [OptRel, conc, Option.some.injEq] at e3
      subst e3
      cases hi with
      | none => exact absurd (hm rfl) (by simp)
      | some hv =>
        cases hi' with
        | none => exact e2.elim
        | some hv' =>
          obtain ⟨k, rfl⟩ := natOf_int h2
          simp only [OptRel, conc, Option.some.injEq] at e2
          subst e2
          cases lo with
          | none =>
            cases lo' with
            | some _ => exact e1.elim
            | none =>
              simp only [boundA, Option.some.injEq] at h1
              subst h1
              simp [Instr.sliceBounds, run_sliceBound g2, run_sliceBound g3]
          | some lv =>
            cases lo' with
            | none => exact e1.elim
            | some lv' =>
              obtain ⟨k, rfl⟩ := natOf_int h1
              simp only [OptRel, conc, Option.some.injEq] at e1
              subst e1
              simp [Instr.sliceBounds, run_sliceBound g1, run_sliceBound g2, run_sliceBound g3]

theorem ble_iff {a b : Nat} (h : Nat.ble a b = true) : a ≤ b := Nat.le_of_ble_eq_true h

/-- What a slice expression over a block comes to: the model's result, at the bounds (l, h, m). -/
theorem reach_le {known off len sz kappa : Nat} (hk : known ≤ kappa) (hl : len ≤ (kappa - off) / sz) : reach known off len sz ≤ (kappa - off) / sz := by
  unfold reach
  cases Nat.ble len (Nat.div (Nat.sub known off) sz)
  · exact hl
  · exact Nat.div_le_div_right (Nat.sub_le_sub_right hk off)
theorem sliceBlk_sound {known b off len size : Nat} {cap : Cap} {lo hi mx : Option AV} {v : AV} (h : sliceBlk known b off len cap size lo hi mx = some v) (hkn : ∀ y, E.blk b = some y → (∃ n, cap = .exact n) ∨ known ≤ y.2.2) {x' : Value}
    (hx : conc E (.slice b off len cap) = some x') (hm : mx.isSome = true → hi.isSome = true) {lo' hi' mx' : Option Value}
    (e1 : OptRel E lo lo') (e2 : OptRel E hi hi') (e3 : OptRel E mx mx') (isS : Bool) :
    ∃ (a : Addr) (c l h' m : Nat), x' = .slice (some a) len c ∧ (Instr.sliceBounds isS len c lo' hi' mx').run P W = .ok (l, h', m) W ∧
      conc E v = some (.slice (some (if m = l then a else a.add (l * size))) (h' - l) (m - l)) := by
  unfold sliceBlk at h
  split at h
  · -- the room is known
    rename_i c
    obtain ⟨y, a0, c', hy, rfl, hcap⟩ := conc_slice hx
    rcases hcap with ⟨rfl, hcap⟩ | ⟨_, _, _, e⟩
    case inr => cases e
    simp only [CapSays] at hcap
    subst hcap
    split at h
    case h_2 => cases h
    rename_i m hm3
    split at h
    case h_2 => cases h
    rename_i h' hm2
    split at h
    case h_2 => cases h
    rename_i l hm1
    obtain ⟨g3, h⟩ := cond_some h
    obtain ⟨g2, h⟩ := cond_some h
    obtain ⟨g1, h⟩ := cond_some h
    cases h
    refine ⟨_, c', l, h', m, rfl, run_bounds e1 e2 e3 hm3 hm2 hm1 (ble_iff g3) (ble_iff g2) (ble_iff g1) hm, ?_⟩
    simp only [conc, hy, Option.map_some]
    congr 2
    cases hq : Nat.beq m l
    · have := Nat.ne_of_beq_eq_false hq
      simp only [cond_false, this, if_false, add_addr]
      show some (⟨y.1, y.2.1 + (off + l * size), none⟩ : Addr) = _
      rw [Nat.add_assoc]
    · have := Nat.eq_of_beq_eq_true hq
      simp [this]
  · rename_i sz
    obtain ⟨hsz, h⟩ := cond_some h
    have hsz := Nat.eq_of_beq_eq_true hsz
    subst hsz
    obtain ⟨y, a0, c', hy, rfl, hcap⟩ := conc_slice hx
    rcases hcap with ⟨rfl, hcap⟩ | ⟨_, _, _, e⟩
    case inr => cases e
    simp only [CapSays] at hcap
    obtain ⟨hle, hpos, rfl⟩ := hcap
    have hlen0 : len ≤ (y.2.2 - off) / sz := by rw [Nat.le_div_iff_mul_le hpos]; omega
    have hknown : known ≤ y.2.2 := by
      rcases hkn y hy with ⟨n, e⟩ | h
      · cases e
      · exact h
    have hlen := reach_le hknown hlen0
    have hreach : off + reach known off len sz * sz ≤ y.2.2 := by
      rw [Nat.le_div_iff_mul_le hpos] at hlen
      by_cases h0 : reach known off len sz = 0
      · rw [h0]; omega
      · have : 1 * sz ≤ reach known off len sz * sz := Nat.mul_le_mul_right sz (by omega)
        omega
    generalize reach known off len sz = lim at *
    split at h
    · rename_i mv
      split at h
      case h_2 => cases h
      rename_i m hm3
      split at h
      case h_2 => cases h
      rename_i h' hm2
      split at h
      case h_2 => cases h
      rename_i l hm1
      obtain ⟨g3, h⟩ := cond_some h
      obtain ⟨g2, h⟩ := cond_some h
      obtain ⟨g1, h⟩ := cond_some h
      cases h
      refine ⟨_, _, l, h', m, rfl, run_bounds e1 e2 e3 (by exact hm3) hm2 hm1 (Nat.le_trans (ble_iff g3) hlen) (ble_iff g2) (ble_iff g1) hm, ?_⟩
      simp only [conc, hy, Option.map_some]
      congr 2
      cases hq : Nat.beq m l
      · have := Nat.ne_of_beq_eq_false hq
        simp only [cond_false, this, if_false, add_addr]
        show some (⟨y.1, y.2.1 + (off + l * sz), none⟩ : Addr) = _
        rw [Nat.add_assoc]
      · have := Nat.eq_of_beq_eq_true hq
        simp [this]
    · split at h
      case h_2 => cases h
      rename_i h' hm2
      split at h
      case h_2 => cases h
      rename_i l hm1
      obtain ⟨g2, h⟩ := cond_some h
      have g2 := ble_iff g2
      cases hq : Nat.beq l 0
      · rw [hq] at h
        simp only [cond_false] at h
        have hl0 := Nat.ne_of_beq_eq_false hq
        obtain ⟨g1, h⟩ := cond_some h
        have g1 := ble_iff g1
        have hb := run_bounds (P := P) (W := W) (isS := isS) (cap := (y.2.2 - off) / sz) (m := (y.2.2 - off) / sz) e1 e2 e3 (by rfl) hm2 hm1 (Nat.le_refl _) (Nat.le_trans g2 hlen) g1 hm
        refine ⟨_, _, l, h', _, rfl, hb, ?_⟩
        have hmul : l * sz ≤ lim * sz := Nat.mul_le_mul_right sz (by omega)
        cases hlt : Nat.blt l lim
        · rw [hlt] at h
          cases h
          have hll : l = lim := by
            rw [blt_eq] at hlt
            have := of_decide_eq_false hlt
            omega
          have hh : h' = l := by omega
          subst hh
          simp only [conc, hy, Option.bind_some]
          rw [if_pos ⟨trivial, by omega, hpos⟩]
          congr 2
          · by_cases ec : (y.2.2 - off) / sz = h'
            · rw [if_pos ec, if_pos ec]
            · rw [if_neg ec, if_neg ec, add_addr, Nat.add_assoc]
          · omega
        · rw [hlt] at h
          have hlt := blt_iff hlt
          cases h
          have hmul2 : (h' - l) * sz + l * sz ≤ lim * sz := by rw [← Nat.add_mul]; exact Nat.mul_le_mul_right sz (by omega)
          have hne : (y.2.2 - off) / sz ≠ l := by omega
          rw [if_neg hne]
          simp only [conc, hy, Option.bind_some]
          have e0 : Nat.add off (Nat.mul l sz) = off + l * sz := rfl
          rw [e0, if_pos ⟨by unfold sub; show off + l * sz + (h' - l) * sz ≤ _; omega, hpos⟩]
          congr 2
          · rw [add_addr, Nat.add_assoc]
          · rw [← Nat.sub_sub, Nat.mul_comm l sz, Nat.sub_mul_div]
      · rw [hq] at h
        simp only [cond_true, Option.some.injEq] at h
        have hl0 := Nat.eq_of_beq_eq_true hq
        have hv := h
        clear h
        subst hl0; subst hv
        have hb := run_bounds (P := P) (W := W) (isS := isS) (cap := (y.2.2 - off) / sz) (m := (y.2.2 - off) / sz) e1 e2 e3 (by rfl) hm2 hm1 (Nat.le_refl _) (Nat.le_trans g2 hlen) (Nat.zero_le _) hm
        refine ⟨_, _, 0, h', _, rfl, hb, ?_⟩
        have hmul : h' * sz ≤ lim * sz := Nat.mul_le_mul_right sz g2
        simp only [conc, hy, Option.bind_some]
        rw [if_pos ⟨by omega, hpos⟩]
        congr 2
        rw [Nat.zero_mul, add_addr]
        split <;> rfl
  · cases h

theorem optRel_some {a : Option AV} {b : Option Value} (h : OptRel E a b) : b.isSome = a.isSome := by
  cases a <;> cases b <;> first | rfl | exact h.elim

theorem allZero_spec {lo hi mx : Option AV} (h : allZero lo hi mx = true) : boundA lo 0 = some 0 ∧ boundA hi 0 = some 0 ∧ boundA mx 0 = some 0 := by
  unfold allZero at h
  split at h
  · rename_i h1
    split at h
    · rename_i h2
      split at h
      · rename_i h3; exact ⟨h1, h2, h3⟩
      · cases h
    · cases h
  · cases h

theorem slice_id {α : Type} (c : Prop) [Decidable c] (a : α) : (if c then a else a) = a := by split <;> rfl

theorem known_le [Amb] {A : AH} (hr : Rel E A W) {b : Nat} {y : Nat × Nat × Nat} (hy : E.blk b = some y) : knownOf A b ≤ y.2.2 := by
  unfold knownOf
  split
  · rename_i esz n rows hg
    obtain ⟨o, ho, hrel⟩ := hr.obj b _ y hg hy
    cases o <;> simp only [ObjRel] at hrel
    exact hrel.2.2.1
  · exact Nat.zero_le _
theorem sliceA_sound [Amb] {A : AH} (hr : Rel E A W) {t : TypeId} {x : AV} {lo hi mx : Option AV} {v : AV} (h : sliceA P A t x lo hi mx = some v) {x' : Value}
    (hx : conc E x = some x') (hm : mx.isSome = true → hi.isSome = true) {lo' hi' mx' : Option Value}
    (e1 : OptRel E lo lo') (e2 : OptRel E hi hi') (e3 : OptRel E mx mx') :
    ∃ v', conc E v = some v' ∧ (Instr.sliceAt t x' lo' hi' mx').run P W = .ok v' W := by
  unfold sliceA at h
  split at h
  · rename_i e hu
    split at h
    · obtain ⟨hz, h⟩ := cond_some h
      obtain ⟨z1, z2, z3⟩ := allZero_spec hz
      split at h
      case h_2 => cases h
      rename_i j hj
      cases h
      simp only [conc, Option.some.injEq] at hx
      subst hx
      refine ⟨_, rfl, ?_⟩
      have hb := run_bounds (P := P) (W := W) (isS := true) e1 e2 e3 z3 z2 z1 (Nat.le_refl _) (Nat.le_refl _) (Nat.le_refl _) hm
      simp [Instr.sliceAt, Instr.slice, run_und hu, hb, run_size hj]
    · split at h
      case h_2 => cases h
      rename_i j hj
      obtain ⟨a, c, l, h', m, rfl, hb, hc⟩ := sliceBlk_sound (P := P) (W := W) h (fun y hy => .inr (known_le hr hy)) hx hm e1 e2 e3 true
      refine ⟨_, hc, ?_⟩
      simp only [Instr.sliceAt, Sem.run_bind, run_und hu, Result.andThen_ok, Instr.slice, hb, run_size hj, Sem.run_pure]
      congr 2
      split <;> rfl
    · cases h
  · rename_i n e hu
    split at h
    case h_2 => cases h
    rename_i b off
    split at h
    case h_2 => cases h
    rename_i j hj
    obtain ⟨y, hy, rfl⟩ := conc_ptr hx
    have hx2 : conc E (.slice b off n (.exact n)) = some (.slice (some ⟨y.1, y.2.1 + off, none⟩) n n) := by simp [conc, hy]
    obtain ⟨a, c, l, h', m, he, hb, hc⟩ := sliceBlk_sound (P := P) (W := W) h (fun y hy => .inl ⟨_, rfl⟩) hx2 hm e1 e2 e3 false
    simp only [Value.slice.injEq, Option.some.injEq] at he
    obtain ⟨rfl, _, rfl⟩ := he
    refine ⟨_, hc, ?_⟩
    simp only [Instr.sliceAt, Sem.run_bind, run_und hu, Result.andThen_ok, Instr.sureAddr, Sem.run_pure, hb, run_size hj]
  · rename_i hu
    split at h
    case h_2 => cases h
    rename_i s
    split at h
    case h_2 => cases h
    split at h
    case h_2 => cases h
    rename_i h' hm2
    split at h
    case h_2 => cases h
    rename_i l hm1
    obtain ⟨g2, h⟩ := cond_some h
    obtain ⟨g1, h⟩ := cond_some h
    have g1 := ble_iff g1
    have g2 := ble_iff g2
    cases h
    simp only [conc, Option.some.injEq] at hx
    subst hx
    cases mx' with
    | some _ => exact e3.elim
    | none =>
      have hsz : (strOf s).size = llen s := by rw [llen_eq]; simp [strOf, ByteArray.size]
      have hb := run_bounds (P := P) (W := W) (isS := false) (len := (strOf s).size) (m := (strOf s).size) (mx := none) (mx' := none) (cap := (strOf s).size) e1 e2 trivial (by rfl) (by rw [hsz]; exact hm2) hm1 (Nat.le_refl _) (by omega) g1 (by simp)
      refine ⟨.string ((strOf s).extract l h'), ?_, ?_⟩
      · simp only [conc, Option.some.injEq, Value.string.injEq, ltake_eq, ldrop_eq]
        cases hh : (strOf s).extract l h'
        have hd : ((strOf s).extract l h').data = (strOf s).data.extract l h' := ByteArray.data_extract
        rw [hh] at hd
        simp only at hd
        subst hd
        unfold strOf
        simp only [ByteArray.mk.injEq]
        apply Array.toList_inj.1
        simp [sub, List.map_take, List.map_drop, List.extract]
      · simp [Instr.sliceAt, Instr.slice, run_und hu, hb]
  · cases h

/-! ### Built values -/
noncomputable def cellsA (v : AV) : List AV := match v with
  | .agg l => l
  | v => [v]
theorem cellsA_conc {v : AV} {x : Value} (h : conc E v = some x) : concs E (cellsA v) = some x.cells.toList := by
  unfold cellsA
  split
  · obtain ⟨xs, hxs, rfl⟩ := conc_agg h; simpa [Value.cells] using hxs
  · rename_i hn
    have : x.cells = #[x] := by
      cases x with
      | agg cs =>
        exfalso
        cases v with
        | agg l => exact hn _ rfl
        | ptr b off => obtain ⟨_, _, e⟩ := conc_ptr h; cases e
        | map b => obtain ⟨_, _, e⟩ := conc_map h; cases e
        | slice b off len cap => obtain ⟨_, _, _, _, e, _⟩ := conc_slice h; cases e
        | tuple l => obtain ⟨_, _, e⟩ := conc_tuple h; cases e
        | symv i =>
          simp only [conc] at h
          split at h
          · rename_i hc; simp only [Option.some.injEq] at h; rw [h] at hc; cases hc
          · cases h
        | symi k i =>
          simp only [conc] at h
          split at h
          · cases h
          · cases h
        | func f a c =>
          simp only [conc, Option.bind_eq_some_iff, Option.map_eq_some_iff] at h
          obtain ⟨_, _, _, _, e⟩ := h; cases e
        | iface t v => simp only [conc, Option.map_eq_some_iff] at h; obtain ⟨_, _, e⟩ := h; cases e
        | yld b => simp only [conc, Option.map_eq_some_iff] at h; obtain ⟨_, _, e⟩ := h; cases e
        | _ => simp only [conc, Option.some.injEq] at h; cases h
      | _ => rfl
    rw [this]
    simp [concs, h]

noncomputable def fillA (place : Nat → Option (Nat × Nat)) (cells : List AV) : List (Nat × AV) → Option (List AV)
  | [] => some cells
  | (i, v) :: rest =>
    match place i with
    | none => none
    | some (off, size) => cond (Nat.beq (llen (cellsA v)) size) (cond (Nat.ble (Nat.add off size) (llen cells))
        (fillA place (lapp (ltake off cells) (lapp (cellsA v) (ldrop (Nat.add off size) cells))) rest) none) none

theorem foldl_set (off : Nat) : ∀ (vs : List Value) (k : Nat) (cs : Array Value), off + k + vs.length ≤ cs.size →
    ((vs.zipIdx k).foldl (fun cs (c, j) => cs.setIfInBounds (off + j) c) cs).toList = cs.toList.take (off + k) ++ vs ++ cs.toList.drop (off + k + vs.length)
  | [], k, cs, _ => by simp
  | v :: vs, k, cs, h => by
    simp only [List.length_cons] at h
    rw [List.zipIdx_cons, List.foldl_cons, foldl_set off vs (k + 1) _ (by simp; omega)]
    simp only [Array.toList_setIfInBounds, List.length_cons]
    have hl : off + k < cs.toList.length := by simp; omega
    rw [show off + (k + 1) = off + k + 1 from rfl]
    rw [List.drop_set_of_lt (by omega)]
    rw [show off + k + (vs.length + 1) = off + k + 1 + vs.length from by omega]
    have e : (cs.toList.set (off + k) v).take (off + k + 1) = cs.toList.take (off + k) ++ [v] := by
      rw [List.take_set, List.take_succ_eq_append_getElem hl, List.set_append_right _ _ (by rw [List.length_take]; omega)]
      rw [List.length_take, show off + k - min (off + k) cs.toList.length = 0 from by omega]
      rfl
    rw [e]
    simp

theorem fillA_sound {place : Nat → Option (Nat × Nat)} {ρ : Operand → Value} : ∀ (parts : List (Nat × AV)) (cells : List AV) (r : List AV) (ps : List (Nat × Value)) (cs : Array Value),
    fillA place cells parts = some r → concs E cells = some cs.toList → F2 (fun (p : Nat × AV) (q : Nat × Value) => p.1 = q.1 ∧ conc E p.2 = some q.2) parts ps →
    ∃ cs', Instr.fill place cs ps = some cs' ∧ concs E r = some cs'.toList
  | [], cells, r, _, cs, h, hc, .nil => by cases h; exact ⟨cs, rfl, hc⟩
  | (i, v) :: rest, cells, r, _, cs, h, hc, .cons (b := (j, x)) ⟨e1, e2⟩ hrest => by
    simp only at e1 e2
    subst e1
    unfold fillA at h
    split at h
    case h_1 => cases h
    rename_i off size hp
    obtain ⟨h1, h⟩ := cond_some h
    obtain ⟨h2, h⟩ := cond_some h
    have h1 := Nat.eq_of_beq_eq_true h1
    have h2 := ble_iff h2
    rw [llen_eq] at h1 h2
    have h2 : off + size ≤ cells.length := h2
    have hv := cellsA_conc e2
    have lv := concs_length hv
    have lc := concs_length hc
    have hsz : x.cells.size = size := by simp only [Array.length_toList] at lv; omega
    have hcs : cs.size = cells.length := by simpa using lc
    obtain ⟨cs', k1, k2⟩ := fillA_sound (place := place) (ρ := ρ) rest _ r _ (x.cells.zipIdx.foldl (fun cs (c, j) => cs.setIfInBounds (off + j) c) cs) h (by
      have := foldl_set off x.cells.toList 0 cs (by simp; omega)
      rw [← Array.foldl_toList, Array.toList_zipIdx, this, lapp_eq, lapp_eq, ltake_eq, ldrop_eq]
      rw [List.append_assoc]
      refine concs_append (concs_take _ hc) (concs_append hv ?_)
      have := concs_drop (Nat.add off size) hc
      rw [this]; simp [hsz]) hrest
    refine ⟨cs', ?_, k2⟩
    simp only [Instr.fill, hp]
    rw [if_neg]
    · exact k1
    · simp [hsz]; omega
end
end Go.PE
