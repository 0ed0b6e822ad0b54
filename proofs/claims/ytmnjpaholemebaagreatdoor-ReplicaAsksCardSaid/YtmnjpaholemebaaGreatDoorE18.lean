/-
  THE ENGINE, 18: what a drawn region comes to.
-/
import Derived.Test.YtmnjpaholemebaaGreatDoorE17
namespace Go.PE
open Go

structure Pin where
  j : Nat
  o : Oper
  G : Fr
  v : AV

/-- What a quiet operation yields, guarded or not. -/
noncomputable def pinV (P : Program) (l : List Oper) (o : Oper) (F : Fr) (A : AH) : Option AV := match guardA l F o.guard with
  | some true => evQ P o.op (evO F.t) A
  | some false => some (.tuple [])
  | none => none

/-- Whether an operation's value may hang on the world. -/
noncomputable def looksW (op : Op) : Bool := match op with
  | .move _ | .assign _ | .pick _ _ _ | .binOp _ _ _ _ _ | .unOp _ _ _ | .makeInterface _ _ | .makeFunc _ _ _ | .field _ _ _ | .fieldAddr _ _ _ | .extract _ _ | .build _ _ | .nilCheck _ => false
  | _ => true
theorem evQ_blind {P : Program} {op : Op} (h : looksW op = false) (ρ : Operand → Option AV) (A A' : AH) : evQ P op ρ A = evQ P op ρ A' := by
  cases op <;> first | rfl | cases h
theorem pinV_blind {P : Program} {l : List Oper} {o : Oper} (h : looksW o.op = false) (F : Fr) (A A' : AH) : pinV P l o F A = pinV P l o F A' := by
  unfold pinV; rw [evQ_blind h]

noncomputable def pinOk (P : Program) (l : List Oper) (A : AH) (p : Pin) : Bool := cond (looksW p.o.op)
  (match pinV P l p.o p.G A with | some v => eqV 16 v p.v | none => false) true

noncomputable def pinsK (P : Program) (l : List Oper) (m : Nat) (pins : List Pin) (A : AH) (k : List Pin → Bool) : Bool :=
  (fun ps => cond (lall (pinOk P l A) ps) (k ps) false) (lfilter (fun p => cond (bit m p.j) false true) pins)

noncomputable def allocO (P : Program) (op : Op) : Option Made := match op with
  | .alloc t => allocA P t
  | _ => none
noncomputable def drawK (P : Program) (cf : HK) (n : Nat) (l : List Oper) (M : T Nat) (plan : List Nat) (pins : List Pin) (F : Fr) (A : AH) (k : Fr → AH → Bool) : Bool :=
  List.rec (motive := fun _ => List Pin → Fr → AH → Bool) (fun _ F A => k F A)
    (fun j _ ih pins F A => match lget j l with
      | some o => cond (isA o)
        (match allocO P o.op with
          | some m => putK n o.dst (m.val A.next) F fun F' => pinsK P l 0 pins (newObjA A m.obj) fun ps => ih ps F' (newObjA A m.obj)
          | none => false)
        (cond (isE o.op)
        (match guardA l F o.guard with
          | some true => execK P cf o.op (evO F.t) A fun v A' => putK n o.dst v F fun F' => pinsK P l (mg M j) pins A' fun ps => ih ps F' A'
          | some false => putK n o.dst (.tuple []) F fun F' => ih pins F' A
          | none => false)
        (match pinV P l o F A with
          | some v => putK n o.dst v F fun F' => ih (⟨j, o, F, v⟩ :: pins) F' A
          | none => false))
      | none => false) plan pins F A

def Li (L : Array Bool) (j : Nat) : Prop := L.getD j false = true

structure Inv (P : Program) (ops : Array Oper) (M wr : T Nat) (n : Nat) (F0 : Fr) (E : Env) (F : Fr) (A : AH) (pins : List Pin) (D : Nat) (L : Array Bool) (a : Act) : Prop where
  size : a.tmps.size = n
  defers : F2 (Mark E) F.ds a.defers
  lsz : L.size = ops.size
  cl : ∀ j, Li L j → ∀ i, bit (mg M j) i = true → Li L i
  sub : ∀ j, Li L j → bit D j = true ∨ ∃ o, ops[j]? = some o ∧ isA o = true
  eff : ∀ j o, ops[j]? = some o → isE o.op = true → bit D j = true → Li L j
  dcl : ∀ j, bit D j = true → ∀ i, bit (mg M j) i = true → bit D i = true
  con : ∀ t v, F.get t = some v → ∃ x, conc E v = some x
  pend : ∀ j, bit D j = true → ¬ Li L j → ∃ o G v, ops[j]? = some o ∧ (⟨j, o, G, v⟩ : Pin) ∈ pins ∧ pinV P ops.toList o G A = some v ∧
    (∀ d, o.dst = some d → F.get d = some v ∧ d < n) ∧ (∀ t v, G.get t = some v → ∃ x, conc E v = some x) ∧
    (∀ t ∈ o.looksAt ops, (∀ i, wr.get t = some i → bit (mg M j) i = false) → G.get t = F0.get t) ∧
    (∀ t ∈ o.looksAt ops, ∀ i, wr.get t = some i → bit (mg M j) i = true → G.get t = F.get t)
  wrt : ∀ t i, wr.get t = some i → Li L i → bit D i = true → ∀ v, F.get t = some v → conc E v = some (a.tmps.getD t undef)
  ini : ∀ t, (∀ i, wr.get t = some i → ¬ Li L i) → ∀ v, F0.get t = some v → conc E v = some (a.tmps.getD t undef)
  f0 : ∀ t, (∀ i, wr.get t = some i → bit D i = false) → F.get t = F0.get t

section
variable {P : Program} {ops : Array Oper} {M wr : T Nat} {n : Nat} {F0 : Fr} {E : Env} {F : Fr} {A : AH} {pins : List Pin} {D eff : Nat} {L : Array Bool} {a : Act} {W : World}

theorem Li_set {L : Array Bool} {i j : Nat} (hi : i < L.size) : Li (L.setIfInBounds i true) j ↔ Li L j ∨ j = i := by
  unfold Li
  by_cases h : i = j
  · subst h; simp [hi]
  · rw [getD_set_ne false h]
    constructor
    · exact .inl
    · rintro (h1 | h1)
      · exact h1
      · exact absurd h1.symm h

/-- Operands in a frame, as far as the operation looks at them. -/
noncomputable def rhoc (E : Env) (G : Fr) (a : Act) (l : List Tmp) (x : Operand) : Value := match x with
  | .tmp t => if t ∈ l then a.tmps.getD t undef else ((G.get t).bind (conc E)).getD undef
  | x => a.eval x

theorem rhoc_opnds {G : Fr} {l : List Tmp} (hc : ∀ t v, G.get t = some v → ∃ x, conc E v = some x) (hl : ∀ t ∈ l, ∀ v, G.get t = some v → conc E v = some (a.tmps.getD t undef)) :
    Opnds E (evO G.t) (rhoc E G a l) := by
  intro x v hx
  cases x with
  | tmp t =>
    unfold rhoc
    simp only
    split
    · rename_i h; exact hl t h v hx
    · have hx' : G.get t = some v := hx
      obtain ⟨y, hy⟩ := hc t v hx'
      rw [hx']; simp [hy]
  | const c => exact absV_conc E 4 c v hx
  | func f => cases hx; rfl
  | global g => cases hx

theorem rhoc_exec {G : Fr} {o : Oper} (hs : isSelect o.op = false) : execOp (rhoc E G a (o.looksAt ops)) o = execOp a.eval o := by
  refine execOp_congr o (fun cs b h => by rw [h] at hs; cases hs) fun x hx => ?_
  cases x with
  | tmp t =>
    have : t ∈ o.looksAt ops := List.mem_append_left _ (List.mem_filterMap.2 ⟨.tmp t, by simpa using hx, rfl⟩)
    simp [rhoc, this, Act.eval]
  | const c => rfl
  | func f => rfl
  | global g => rfl

theorem guard_looks {o x : Oper} {j : Nat} {w : Bool} {d : Tmp} (hg : o.guard = some (j, w)) (hx : ops[j]? = some x) (hd : x.dst = some d) : d ∈ o.looksAt ops := by
  unfold Oper.looksAt
  rw [List.mem_append]
  right
  rw [hg]
  simp [hx, hd]

/-- What an operation that is about to run looks at. -/
theorem Inv.looks (so : OkR ops M wr) (hI : Inv P ops M wr n F0 E F A pins D L a) {j : Nat} {o : Oper} {G : Fr} (ho : ops[j]? = some o) (hnl : ¬ Li L j)
    (hready : ∀ i, bit (mg M j) i = true → Li L i) (hmD : ∀ i, bit (mg M j) i = true → bit D i = true)
    (h1 : ∀ t ∈ o.looksAt ops, (∀ i, wr.get t = some i → bit (mg M j) i = false) → G.get t = F0.get t)
    (h2 : ∀ t ∈ o.looksAt ops, ∀ i, wr.get t = some i → bit (mg M j) i = true → G.get t = F.get t) :
    ∀ t ∈ o.looksAt ops, ∀ v, G.get t = some v → conc E v = some (a.tmps.getD t undef) := by
  intro t ht v hv
  cases hw : wr.get t with
  | none =>
    rw [h1 t ht (fun i hi => by rw [hw] at hi; cases hi)] at hv
    exact hI.ini t (fun i hi => by rw [hw] at hi; cases hi) v hv
  | some i =>
    cases hb : bit (mg M j) i with
    | true =>
      rw [h2 t ht i hw hb] at hv
      exact hI.wrt t i hw (hready i hb) (hmD i hb) v hv
    | false =>
      rw [h1 t ht (fun i' hi => by rw [hw] at hi; cases hi; exact hb)] at hv
      refine hI.ini t (fun i' hi => ?_) v hv
      rw [hw] at hi; cases hi
      rcases so.rd j o ho t ht i hw with h3 | h3
      · rw [hb] at h3; cases h3
      · exact fun hl => hnl (hI.cl i hl j h3)

/-- A frame as it stands is coherent for whatever comes next. -/
theorem Inv.coherent (so : OkR ops M wr) (hI : Inv P ops M wr n F0 E F A pins D L a) {j : Nat} {o : Oper} (ho : ops[j]? = some o) (hD : bit D j = false) :
    ∀ t ∈ o.looksAt ops, (∀ i, wr.get t = some i → bit (mg M j) i = false) → F.get t = F0.get t := by
  intro t ht h
  refine hI.f0 t fun i hi => ?_
  cases hb : bit D i with
  | false => rfl
  | true =>
    rcases so.rd j o ho t ht i hi with h3 | h3
    · rw [h i hi] at h3; cases h3
    · have := hI.dcl i hb j h3
      rw [hD] at this; cases this

theorem mor_false {D j i : Nat} (h : bit (mor D j) i = false) : bit D i = false ∧ i ≠ j := by
  rw [bit_mor, Bool.or_eq_false_iff, decide_eq_false_iff_not] at h
  exact ⟨h.1, fun e => h.2 e.symm⟩
theorem mor_true {D j i : Nat} : bit (mor D j) i = true ↔ bit D i = true ∨ i = j := by
  rw [bit_mor, Bool.or_eq_true, decide_eq_true_eq]
  constructor
  · rintro (h | h)
    · exact .inl h
    · exact .inr h.symm
  · rintro (h | h)
    · exact .inl h
    · exact .inr h.symm

theorem pinV_conc [Amb] (hr : Rel E A W) {o : Oper} {v : AV} (hs : isSelect o.op = false) (hc : ∀ t v, F.get t = some v → ∃ x, conc E v = some x) (h : pinV P ops.toList o F A = some v) : ∃ x, conc E v = some x := by
  unfold pinV at h
  split at h
  · obtain ⟨v', h1, _⟩ := evQ_sound hr (o := o) (rhoc_opnds (a := ⟨#[], []⟩) (l := []) hc (fun t ht => by cases ht)) h
    exact ⟨v', h1⟩
  · cases h; exact ⟨_, rfl⟩
  · cases h

/-- One quiet operation looked up ahead. -/
theorem Inv.quiet [Amb] (so : OkR ops M wr) (hI : Inv P ops M wr n F0 E F A pins D L a) (hr : Rel E A W) {j : Nat} {o : Oper} {v : AV} {F' : Fr} (ho : ops[j]? = some o) (hq : isE o.op = false)
    (hm : ∀ i, bit (mg M j) i = true → bit D i = true) (hD : bit D j = false) (hv : pinV P ops.toList o F A = some v)
    (hF' : (∀ t, F'.get t = if o.dst = some t then some v else F.get t) ∧ F'.ds = F.ds) (hd : ∀ d, o.dst = some d → d < n) :
    Inv P ops M wr n F0 E F' A (⟨j, o, F, v⟩ :: pins) (mor D j) L a := by
  obtain ⟨hF, hds⟩ := hF'
  have hne : ∀ {t i}, wr.get t = some i → i ≠ j → o.dst ≠ some t := fun hw hij e => by
    have := so.wr1 j o _ ho e
    rw [hw] at this; cases this; exact hij rfl
  have hFn : ∀ {t i}, wr.get t = some i → i ≠ j → F'.get t = F.get t := fun hw hij => by rw [hF, if_neg (hne hw hij)]
  have hjL : ¬ Li L j := fun h => by
    rcases hI.sub j h with h1 | ⟨o', h1, h2⟩
    · rw [hD] at h1; cases h1
    · rw [ho] at h1; cases h1; rw [isA_isE h2] at hq; cases hq
  refine ⟨hI.size, by rw [hds]; exact hI.defers, hI.lsz, hI.cl, fun i hi => (hI.sub i hi).imp (fun h => mor_true.2 (.inl h)) id, fun i x hx he hi => ?_, fun i hi i' hi' => ?_, fun t u hu => ?_, fun i hi hnl => ?_, fun t i hw hl hdi u hu => ?_, hI.ini, fun t ht => ?_⟩
  · rcases mor_true.1 hi with h | h
    · exact hI.eff i x hx he h
    · subst h; rw [ho] at hx; cases hx; rw [hq] at he; cases he
  · rcases mor_true.1 hi with h | h
    · exact mor_true.2 (.inl (hI.dcl i h i' hi'))
    · subst h; exact mor_true.2 (.inl (hm i' hi'))
  · rw [hF] at hu
    split at hu
    · cases hu; exact pinV_conc hr (so.sel j o ho) hI.con hv
    · exact hI.con t u hu
  · rcases mor_true.1 hi with h | h
    · obtain ⟨x, G, u, g1, g2, g3, g4, g5, g6, g7⟩ := hI.pend i h hnl
      have hij : i ≠ j := fun e => by subst e; rw [hD] at h; cases h
      refine ⟨x, G, u, g1, List.mem_cons_of_mem _ g2, g3, fun d hd' => ⟨?_, (g4 d hd').2⟩, g5, g6, fun t ht i' hw hb => ?_⟩
      · rw [hFn (so.wr1 i x d g1 hd') hij]; exact (g4 d hd').1
      · have : i' ≠ j := fun e => by subst e; have := hI.dcl i h i' hb; rw [hD] at this; cases this
        rw [hFn hw this]; exact g7 t ht i' hw hb
    · subst h
      refine ⟨o, F, v, ho, List.mem_cons_self, hv, fun d hd' => ⟨by rw [hF, if_pos hd'], hd d hd'⟩, hI.con, hI.coherent so ho hD, fun t ht i' hw hb => ?_⟩
      have : i' ≠ i := fun e => by subst e; have := hm i' hb; rw [hD] at this; cases this
      exact (hFn hw this).symm
  · have : i ≠ j := fun e => by subst e; exact hjL hl
    rw [hFn hw this] at hu
    exact hI.wrt t i hw hl ((mor_true.1 hdi).resolve_right this) u hu
  · have h1 : ∀ i, wr.get t = some i → bit D i = false ∧ i ≠ j := fun i hi => mor_false (ht i hi)
    have : o.dst ≠ some t := fun e => (h1 j (so.wr1 j o t ho e)).2 rfl
    rw [hF, if_neg this]
    exact hI.f0 t fun i hi => (h1 i hi).1

/-- A quiet operation runs at last. -/
theorem Inv.run (so : OkR ops M wr) (hI : Inv P ops M wr n F0 E F A pins D L a) {j : Nat} {o : Oper} {v : AV} {v' : Value} (ho : ops[j]? = some o) (hnl : ¬ Li L j) (hD : bit D j = true)
    (hready : ∀ i, bit (mg M j) i = true → Li L i) (hFv : ∀ d, o.dst = some d → F.get d = some v ∧ d < n) (hv : conc E v = some v') :
    Inv P ops M wr n F0 E F A pins D (L.setIfInBounds j true) (a.put o.dst v') := by
  have hj : j < L.size := by rw [hI.lsz]; exact (Array.getElem?_eq_some_iff.1 ho).1
  have hlt : ∀ d, o.dst = some d → d < a.tmps.size := fun d hd => by rw [hI.size]; exact (hFv d hd).2
  refine ⟨size_put.trans hI.size, by rw [defers_put]; exact hI.defers, by simp [hI.lsz], fun i hi i' hb => ?_, fun i hi => ?_, fun i x hx he hi => ?_, hI.dcl, hI.con, fun i hi hn => ?_, fun t i hw hl hdi u hu => ?_, fun t ht u hu => ?_, hI.f0⟩
  · rw [Li_set hj] at *
    rcases hi with h | h
    · exact .inl (hI.cl i h i' hb)
    · subst h; exact .inl (hready i' hb)
  · rw [Li_set hj] at hi
    rcases hi with h | h
    · exact hI.sub i h
    · subst h; exact .inl hD
  · rw [Li_set hj]; exact .inl (hI.eff i x hx he hi)
  · rw [Li_set hj] at hn
    exact hI.pend i hi fun h => hn (.inl h)
  · rw [Li_set hj] at hl
    rw [getD_put hlt]
    rcases hl with h | h
    · have hij : i ≠ j := fun e => hnl (e ▸ h)
      have : o.dst ≠ some t := fun e => by have := so.wr1 j o t ho e; rw [hw] at this; cases this; exact hij rfl
      rw [if_neg this]
      exact hI.wrt t i hw h hdi u hu
    · subst h
      obtain ⟨x, hx, hxd⟩ := so.wr2 t i hw
      rw [ho] at hx; cases hx
      rw [if_pos hxd]
      rw [(hFv t hxd).1] at hu; cases hu; exact hv
  · have : o.dst ≠ some t := fun e => ht j (so.wr1 j o t ho e) ((Li_set hj).2 (.inr rfl))
    rw [getD_put hlt, if_neg this]
    exact hI.ini t (fun i hi hl => ht i hi ((Li_set hj).2 (.inl hl))) u hu

/-- An effect runs. -/
theorem Inv.effect (so : OkR ops M wr) (hI : Inv P ops M wr n F0 E F A pins D L a) {E' : Env} {A' : AH} (hle : Env.Le E E') {j : Nat} {o : Oper} {v : AV} {v' : Value} {F' : Fr} {pins' : List Pin} (ho : ops[j]? = some o)
    (hnl : ¬ Li L j) (hready : ∀ i, bit (mg M j) i = true → Li L i) (hmD : ∀ i, bit (mg M j) i = true → bit D i = true) (hD : bit D j = false)
    (hF' : (∀ t, F'.get t = if o.dst = some t then some v else F.get t) ∧ F'.ds = F.ds) (hd : ∀ d, o.dst = some d → d < n) (hv : conc E' v = some v')
    (hp : ∀ p ∈ pins, ¬ bit (mg M j) p.j = true → pinV P ops.toList p.o p.G A = some p.v → p ∈ pins' ∧ pinV P ops.toList p.o p.G A' = some p.v) :
    Inv P ops M wr n F0 E' F' A' pins' (mor D j) (L.setIfInBounds j true) (a.put o.dst v') := by
  obtain ⟨hF, hds⟩ := hF'
  have hj : j < L.size := by rw [hI.lsz]; exact (Array.getElem?_eq_some_iff.1 ho).1
  have hlt : ∀ d, o.dst = some d → d < a.tmps.size := fun d hdd => by rw [hI.size]; exact hd d hdd
  have hne : ∀ {t i}, wr.get t = some i → i ≠ j → o.dst ≠ some t := fun hw hij e => by
    have := so.wr1 j o _ ho e
    rw [hw] at this; cases this; exact hij rfl
  have hFn : ∀ {t i}, wr.get t = some i → i ≠ j → F'.get t = F.get t := fun hw hij => by rw [hF, if_neg (hne hw hij)]
  have up : ∀ {v x}, conc E v = some x → conc E' v = some x := fun h => conc_mono hle _ _ h
  refine ⟨size_put.trans hI.size, by rw [hds, defers_put]; exact marks_mono hle hI.defers, by simp [hI.lsz], fun i hi i' hb => ?_, fun i hi => ?_, fun i x hx he hi => ?_, fun i hi i' hb => ?_, fun t u hu => ?_, fun i hi hn => ?_, fun t i hw hl hdi u hu => ?_, fun t ht u hu => ?_, fun t ht => ?_⟩
  · rw [Li_set hj] at *
    rcases hi with h | h
    · exact .inl (hI.cl i h i' hb)
    · subst h; exact .inl (hready i' hb)
  · rw [Li_set hj] at hi
    rcases hi with h | h
    · exact (hI.sub i h).imp (fun h => mor_true.2 (.inl h)) id
    · exact .inl (mor_true.2 (.inr h))
  · rw [Li_set hj]
    exact (mor_true.1 hi).imp (hI.eff i x hx he) id
  · rcases mor_true.1 hi with h | h
    · exact mor_true.2 (.inl (hI.dcl i h i' hb))
    · subst h; exact mor_true.2 (.inl (hmD i' hb))
  · rw [hF] at hu
    split at hu
    · cases hu; exact ⟨v', hv⟩
    · obtain ⟨x, hx⟩ := hI.con t u hu; exact ⟨x, up hx⟩
  · rw [Li_set hj] at hn
    rcases mor_true.1 hi with h | h
    · obtain ⟨x, G, u, g1, g2, g3, g4, g5, g6, g7⟩ := hI.pend i h fun hl => hn (.inl hl)
      have hij : i ≠ j := fun e => hn (.inr e)
      have hnm : ¬ bit (mg M j) i = true := fun hb => hn (.inl (hready i hb))
      obtain ⟨k1, k2⟩ := hp _ g2 hnm g3
      refine ⟨x, G, u, g1, k1, k2, fun d hd' => ⟨?_, (g4 d hd').2⟩, fun t w hw => ?_, g6, fun t ht i' hw hb => ?_⟩
      · rw [hFn (so.wr1 i x d g1 hd') hij]; exact (g4 d hd').1
      · obtain ⟨y, hy⟩ := g5 t w hw; exact ⟨y, up hy⟩
      · have : i' ≠ j := fun e => by subst e; have := hI.dcl i h i' hb; rw [hD] at this; cases this
        rw [hFn hw this]; exact g7 t ht i' hw hb
    · exact absurd (.inr h) hn
  · rw [Li_set hj] at hl
    rw [getD_put hlt]
    rcases hl with h | h
    · have hij : i ≠ j := fun e => hnl (e ▸ h)
      rw [if_neg (hne hw hij)]
      rw [hFn hw hij] at hu
      exact up (hI.wrt t i hw h ((mor_true.1 hdi).resolve_right hij) u hu)
    · subst h
      obtain ⟨x, hx, hxd⟩ := so.wr2 t i hw
      rw [ho] at hx; cases hx
      rw [if_pos hxd]
      rw [hF, if_pos hxd] at hu; cases hu; exact hv
  · have : o.dst ≠ some t := fun e => ht j (so.wr1 j o t ho e) ((Li_set hj).2 (.inr rfl))
    rw [getD_put hlt, if_neg this]
    exact up (hI.ini t (fun i hi hl => ht i hi ((Li_set hj).2 (.inl hl))) u hu)
  · have h1 : ∀ i, wr.get t = some i → bit D i = false ∧ i ≠ j := fun i hi => mor_false (ht i hi)
    have : o.dst ≠ some t := fun e => (h1 j (so.wr1 j o t ho e)).2 rfl
    rw [hF, if_neg this]
    exact hI.f0 t fun i hi => (h1 i hi).1

/-! ### New variables -/
def EA (ops : Array Oper) (D : Nat) (L : Array Bool) (j : Nat) : Prop := ∃ o, ops[j]? = some o ∧ isA o = true ∧ Li L j ∧ bit D j = false

/-- The variables that have been laid before their time: nothing tells of their blocks yet. -/
def Early [Amb] (P : Program) (ops : Array Oper) (D : Nat) (L : Array Bool) (E : Env) (W : World) (w0 : Nat) (a : Act) : Prop :=
  ∃ Bk : Nat → Nat, (∀ j, EA ops D L j → ∀ o, ops[j]? = some o → ∃ m b v' kappa, allocO P o.op = some m ∧ W.heap[Bk j]? = some b ∧ (w0 ≤ Bk j ∧ Amb.n0 ≤ Bk j) ∧ (∀ i x, E.blk i = some x → x.1 ≠ Bk j) ∧
      (∀ E', Env.Le E E' → ObjRel E' m.obj (Bk j, 0, kappa) b) ∧ (∀ (E' : Env) i, E'.blk i = some (Bk j, 0, kappa) → conc E' (m.val i) = some v') ∧ (∀ d, o.dst = some d → a.tmps.getD d undef = v')) ∧
    ∀ j j', EA ops D L j → EA ops D L j' → Bk j = Bk j' → j = j'

theorem Early.step [Amb] {w0 : Nat} {a' : Act} {D' : Nat} {L' : Array Bool} {E' : Env} {W' : World} (h : Early P ops D L E W w0 a) (hsub : ∀ j, EA ops D' L' j → EA ops D L j) (hle : Env.Le E E')
    (hW : ∀ k, k < W.heap.size → (∀ i x, E.blk i = some x → x.1 ≠ k) → W'.heap[k]? = W.heap[k]? ∧ ∀ i x, E'.blk i = some x → x.1 ≠ k)
    (ht : ∀ j o d, EA ops D' L' j → ops[j]? = some o → o.dst = some d → a'.tmps.getD d undef = a.tmps.getD d undef) : Early P ops D' L' E' W' w0 a' := by
  obtain ⟨Bk, h1, h2⟩ := h
  refine ⟨Bk, fun j hj o ho => ?_, fun j j' hj hj' => h2 j j' (hsub j hj) (hsub j' hj')⟩
  obtain ⟨m, b, v', kappa, g1, g2, g3, g4, g5, g6, g7⟩ := h1 j (hsub j hj) o ho
  obtain ⟨k1, k2⟩ := hW (Bk j) (Array.getElem?_eq_some_iff.1 g2).1 g4
  exact ⟨m, b, v', kappa, g1, k1.trans g2, g3, k2, fun E'' hE => g5 E'' (hle.trans hE), g6, fun d hd => (ht j o d hj ho hd).trans (g7 d hd)⟩

theorem Rel.push [Amb] (hr : Rel E A W) (b : Obj) : Rel E A { W with heap := W.heap.push b } where
  obj := fun i o x hi hx => by
    obtain ⟨c, h1, h2⟩ := hr.obj i o x hi hx
    have hlt := hr.bound i x hx
    exact ⟨c, by rw [← h1]; simp [Array.getElem?_push, show x.1 ≠ W.heap.size by omega], h2⟩
  inj := hr.inj
  fresh := hr.fresh
  dead := hr.dead
  bound := fun i x hx => by have := hr.bound i x hx; simp; omega
  amb := ⟨by simp only [Array.size_push]; have := hr.amb.1; omega, fun k hk => by
      show (W.heap.push b)[k]? = _
      have := hr.amb.1
      rw [Array.getElem?_push, if_neg (by omega)]; exact hr.amb.2.1 k hk, hr.amb.2.2⟩
  names := hr.names
theorem Step.push {E0 : Env} {A0 : AH} {W0 : World} (h : Step E0 A0 W0 E A W) (b : Obj) : Step E0 A0 W0 E A { W with heap := W.heap.push b } where
  le := h.le
  os := h.os
  tape := h.tape
  output := h.output
  size := by have := h.size; simp; omega
  frame := fun k hk hi => by
    have := h.frame k hk hi
    have hlt : k < W.heap.size := Nat.lt_of_lt_of_le hk h.size
    rw [← this]; simp [Array.getElem?_push, show k ≠ W.heap.size by omega]
  img := h.img
  next := h.next
  ghost := h.ghost
/-- A block of the call's own comes to be told of. -/
theorem Step.tell {E0 : Env} {A0 : AH} {W0 : World} (h : Step E0 A0 W0 E A W) (hf : E.blk A.next = none) {x : Nat × Nat × Nat} (hx : W0.heap.size ≤ x.1) (o : AObj) : Step E0 A0 W0 (E.bind A.next x) (newObjA A o) W where
  le := h.le.trans (Env.bind_le hf)
  os := h.os
  tape := h.tape
  output := h.output
  size := h.size
  frame := h.frame
  img := fun i z hz hlt => by
    simp only [Env.bind] at hz
    split at hz
    · cases hz; omega
    · exact h.img i z hz hlt
  next := Nat.le_trans h.next (Nat.le_succ _)
  ghost := fun i hi hn => by
    obtain ⟨h1, h2⟩ := h.ghost i hi hn
    have := h.next
    refine ⟨?_, ?_⟩
    · simp only [Env.bind]; rw [if_neg (by omega)]; exact h1
    · rw [newObjA_get_old (by omega)]; exact h2

/-- A variable is laid, ahead of its time. -/
theorem Inv.early (so : OkR ops M wr) (hI : Inv P ops M wr n F0 E F A pins D L a) {j : Nat} {o : Oper} {v' : Value} (ho : ops[j]? = some o) (ha : isA o = true) (hnl : ¬ Li L j) (hD : bit D j = false)
    (hready : ∀ i, bit (mg M j) i = true → Li L i) (hlt : ∀ d, o.dst = some d → d < a.tmps.size) : Inv P ops M wr n F0 E F A pins D (L.setIfInBounds j true) (a.put o.dst v') := by
  have hj : j < L.size := by rw [hI.lsz]; exact (Array.getElem?_eq_some_iff.1 ho).1
  refine ⟨size_put.trans hI.size, by rw [defers_put]; exact hI.defers, by simp [hI.lsz], fun i hi i' hb => ?_, fun i hi => ?_, fun i x hx he hi => ?_, hI.dcl, hI.con, fun i hi hn => ?_, fun t i hw hl hdi u hu => ?_, fun t ht u hu => ?_, hI.f0⟩
  · rw [Li_set hj] at *
    rcases hi with h | h
    · exact .inl (hI.cl i h i' hb)
    · subst h; exact .inl (hready i' hb)
  · rw [Li_set hj] at hi
    rcases hi with h | h
    · exact hI.sub i h
    · subst h; exact .inr ⟨o, ho, ha⟩
  · rw [Li_set hj]; exact .inl (hI.eff i x hx he hi)
  · rw [Li_set hj] at hn
    exact hI.pend i hi fun h => hn (.inl h)
  · rw [Li_set hj] at hl
    rw [getD_put hlt]
    have hij : i ≠ j := fun e => by subst e; rw [hD] at hdi; cases hdi
    have : o.dst ≠ some t := fun e => by have := so.wr1 j o t ho e; rw [hw] at this; cases this; exact hij rfl
    rw [if_neg this]
    exact hI.wrt t i hw (hl.resolve_right hij) hdi u hu
  · have : o.dst ≠ some t := fun e => ht j (so.wr1 j o t ho e) ((Li_set hj).2 (.inr rfl))
    rw [getD_put hlt, if_neg this]
    exact hI.ini t (fun i hi hl => ht i hi ((Li_set hj).2 (.inl hl))) u hu

/-- A variable's time has come, and it has been laid. -/
theorem Inv.tell (so : OkR ops M wr) (hI : Inv P ops M wr n F0 E F A pins D L a) {E' : Env} {A' : AH} (hle : Env.Le E E') {j : Nat} {o : Oper} {v : AV} {v' : Value} {F' : Fr} {pins' : List Pin} (ho : ops[j]? = some o)
    (hl : Li L j) (hmD : ∀ i, bit (mg M j) i = true → bit D i = true) (hD : bit D j = false)
    (hF' : (∀ t, F'.get t = if o.dst = some t then some v else F.get t) ∧ F'.ds = F.ds) (hv : conc E' v = some v') (hact : ∀ d, o.dst = some d → a.tmps.getD d undef = v')
    (hp : ∀ p ∈ pins, pinV P ops.toList p.o p.G A = some p.v → p ∈ pins' ∧ pinV P ops.toList p.o p.G A' = some p.v) :
    Inv P ops M wr n F0 E' F' A' pins' (mor D j) L a := by
  obtain ⟨hF, hds⟩ := hF'
  have hne : ∀ {t i}, wr.get t = some i → i ≠ j → o.dst ≠ some t := fun hw hij e => by
    have := so.wr1 j o _ ho e
    rw [hw] at this; cases this; exact hij rfl
  have hFn : ∀ {t i}, wr.get t = some i → i ≠ j → F'.get t = F.get t := fun hw hij => by rw [hF, if_neg (hne hw hij)]
  have up : ∀ {v x}, conc E v = some x → conc E' v = some x := fun h => conc_mono hle _ _ h
  refine ⟨hI.size, by rw [hds]; exact marks_mono hle hI.defers, hI.lsz, hI.cl, fun i hi => (hI.sub i hi).imp (fun h => mor_true.2 (.inl h)) id, fun i x hx he hi => ?_, fun i hi i' hb => ?_, fun t u hu => ?_, fun i hi hn => ?_, fun t i hw hli hdi u hu => ?_, fun t ht u hu => up (hI.ini t ht u hu), fun t ht => ?_⟩
  · rcases mor_true.1 hi with h | h
    · exact hI.eff i x hx he h
    · subst h; exact hl
  · rcases mor_true.1 hi with h | h
    · exact mor_true.2 (.inl (hI.dcl i h i' hb))
    · subst h; exact mor_true.2 (.inl (hmD i' hb))
  · rw [hF] at hu
    split at hu
    · cases hu; exact ⟨v', hv⟩
    · obtain ⟨x, hx⟩ := hI.con t u hu; exact ⟨x, up hx⟩
  · rcases mor_true.1 hi with h | h
    · obtain ⟨x, G, u, g1, g2, g3, g4, g5, g6, g7⟩ := hI.pend i h hn
      have hij : i ≠ j := fun e => hn (e ▸ hl)
      obtain ⟨k1, k2⟩ := hp _ g2 g3
      refine ⟨x, G, u, g1, k1, k2, fun d hd' => ⟨?_, (g4 d hd').2⟩, fun t w hw => ?_, g6, fun t ht i' hw hb => ?_⟩
      · rw [hFn (so.wr1 i x d g1 hd') hij]; exact (g4 d hd').1
      · obtain ⟨y, hy⟩ := g5 t w hw; exact ⟨y, up hy⟩
      · have : i' ≠ j := fun e => by subst e; have := hI.dcl i h i' hb; rw [hD] at this; cases this
        rw [hFn hw this]; exact g7 t ht i' hw hb
    · subst h; exact absurd hl hn
  · by_cases hij : i = j
    · subst hij
      obtain ⟨x, hx, hxd⟩ := so.wr2 t i hw
      rw [ho] at hx; cases hx
      rw [hF, if_pos hxd] at hu; cases hu
      rw [hact t hxd]; exact hv
    · rw [hFn hw hij] at hu
      exact up (hI.wrt t i hw hli ((mor_true.1 hdi).resolve_right hij) u hu)
  · have h1 : ∀ i, wr.get t = some i → bit D i = false ∧ i ≠ j := fun i hi => mor_false (ht i hi)
    have : o.dst ≠ some t := fun e => (h1 j (so.wr1 j o t ho e)).2 rfl
    rw [hF, if_neg this]
    exact hI.f0 t fun i hi => (h1 i hi).1
end
end Go.PE
