/-
  THE ENGINE, 19: drawn regions, every order at once.
-/
import Derived.Test.YtmnjpaholemebaaGreatDoorE18
namespace Go.PE
open Go

section
variable {P : Program} {ops : Array Oper} {M wr : T Nat} {n : Nat} {F0 : Fr} {cf : HK} {k : Fr → AH → Bool} {Q : Exit → Act → World → Prop}

/-- Either nothing is left, or an effect comes next, or a variable that has not been laid. -/
def Head (ops : Array Oper) (L : Array Bool) (plan : List Nat) : Prop := ∀ j r, plan = j :: r → ∃ o, ops[j]? = some o ∧ isE o.op = true ∧ (isA o = true → ¬ Li L j)

theorem drawK_cons {l : List Oper} {j : Nat} {r : List Nat} {pins : List Pin} {F : Fr} {A : AH} : drawK P cf n l M (j :: r) pins F A k = (match lget j l with
      | some o => cond (isA o)
        (match allocO P o.op with
          | some m => putK n o.dst (m.val A.next) F fun F' => pinsK P l 0 pins (newObjA A m.obj) fun ps => drawK P cf n l M r ps F' (newObjA A m.obj) k
          | none => false)
        (cond (isE o.op)
        (match guardA l F o.guard with
          | some true => execK P cf o.op (evO F.t) A fun v A' => putK n o.dst v F fun F' => pinsK P l (mg M j) pins A' fun ps => drawK P cf n l M r ps F' A' k
          | some false => putK n o.dst (.tuple []) F fun F' => drawK P cf n l M r pins F' A k
          | none => false)
        (match pinV P l o F A with
          | some v => putK n o.dst v F fun F' => drawK P cf n l M r (⟨j, o, F, v⟩ :: pins) F' A k
          | none => false))
      | none => false) := rfl

theorem pinsK_spec {l : List Oper} {m : Nat} {pins : List Pin} {A A' : AH} {k : List Pin → Bool} (h : pinsK P l m pins A' k = true) : ∃ ps, k ps = true ∧
    ∀ p ∈ pins, ¬ bit m p.j = true → pinV P l p.o p.G A = some p.v → p ∈ ps ∧ pinV P l p.o p.G A' = some p.v := by
  obtain ⟨q1, q2⟩ := cond_some' h
  refine ⟨_, q2, fun p hp hnb hpv => ?_⟩
  have hmem' : p ∈ lfilter (fun p => cond (bit m p.j) false true) pins := by
    rw [lfilter_eq, List.mem_filter]
    refine ⟨hp, ?_⟩
    cases hbb : bit m p.j
    · rfl
    · exact absurd hbb hnb
  refine ⟨hmem', ?_⟩
  have := lall_eq _ _ q1 p hmem'
  unfold pinOk at this
  cases hlk : looksW p.o.op with
  | false => rw [← hpv]; exact pinV_blind hlk _ _ _
  | true =>
    rw [hlk, cond_true] at this
    split at this
    · rename_i u hu; rw [hu, eqV_eq _ _ _ this]
    · cases this

theorem EA_of_quiet {D : Nat} {L : Array Bool} {j : Nat} : ∀ i, EA ops (mor D j) L i → EA ops D L i := by
  rintro i ⟨o, h1, h2, h3, h4⟩
  exact ⟨o, h1, h2, h3, (mor_false h4).1⟩

theorem advance [Amb] (so : OkR ops M wr) {E0 : Env} {A0 : AH} {W0 : World} {W : World} {L : Array Bool} {a : Act} : ∀ (plan : List Nat) (D eff : Nat) (pins : List Pin) (F : Fr) (E : Env) (A : AH), Rel E A W → Step E0 A0 W0 E A W → Early P ops D L E W W0.heap.size a →
    Inv P ops M wr n F0 E F A pins D L a → chkP M ops.toList ops.size plan D eff = true → drawK P cf n ops.toList M plan pins F A k = true →
    ∃ (plan' : List Nat) (D' eff' : Nat) (pins' : List Pin) (F' : Fr) (E' : Env) (A' : AH), Rel E' A' W ∧ Step E0 A0 W0 E' A' W ∧ Early P ops D' L E' W W0.heap.size a ∧
      Inv P ops M wr n F0 E' F' A' pins' D' L a ∧ chkP M ops.toList ops.size plan' D' eff' = true ∧
      drawK P cf n ops.toList M plan' pins' F' A' k = true ∧ Head ops L plan' := by
  intro plan
  induction plan with
  | nil => intro D eff pins F E A hr hst hea hI hc hd; exact ⟨[], D, eff, pins, F, E, A, hr, hst, hea, hI, hc, hd, fun j r h => by cases h⟩
  | cons j r ih =>
    intro D eff pins F E A hr hst hea hI hc hd
    obtain ⟨o, ho, h1, h2, h3, h4⟩ := chkP_cons hc
    cases hal : isA o with
    | true =>
      by_cases hl : Li L j
      · rw [drawK_cons, lget_eq, Array.getElem?_toList, ho] at hd
        simp only [hal, cond_true] at hd
        split at hd
        case h_2 => cases hd
        rename_i m hm
        obtain ⟨F', g1, g2, g3⟩ := putK_spec hd
        obtain ⟨ps, q1, q2⟩ := pinsK_spec (A := A) g1
        obtain ⟨Bk, e1, e2⟩ := hea
        have hEA : EA ops D L j := ⟨o, ho, hal, hl, h3⟩
        obtain ⟨m', b, v', kappa, k1, k2, k3, k4, k5, k6, k7⟩ := e1 j hEA o ho
        rw [hm] at k1; cases k1
        have hle : Env.Le E (E.bind A.next (Bk j, 0, kappa)) := Env.bind_le (hr.fresh _ (Nat.le_refl _))
        have hr' : Rel (E.bind A.next (Bk j, 0, kappa)) (newObjA A m.obj) W := hr.window k2 (fun i oi y _ hy => k4 i y hy) k3.2 (k5 _ hle)
        have hst' := hst.tell (hr.fresh _ (Nat.le_refl _)) (x := (Bk j, 0, kappa)) k3.1 m.obj
        have hea' : Early P ops (mor D j) L (E.bind A.next (Bk j, 0, kappa)) W W0.heap.size a := by
          refine ⟨Bk, fun i hi oi hoi => ?_, fun i i' hi hi' => e2 i i' (EA_of_quiet i hi) (EA_of_quiet i' hi')⟩
          obtain ⟨m2, b2, v2, kap2, y1, y2, y3, y4, y5, y6, y7⟩ := e1 i (EA_of_quiet i hi) oi hoi
          have hij : i ≠ j := by
            obtain ⟨_, _, _, _, hd4⟩ := hi
            exact (mor_false hd4).2
          refine ⟨m2, b2, v2, kap2, y1, y2, y3, fun q z hz => ?_, fun E'' hE => y5 E'' (hle.trans hE), y6, y7⟩
          simp only [Env.bind] at hz
          split at hz
          · cases hz; intro e; exact hij (e2 i j (EA_of_quiet i hi) hEA e.symm)
          · exact y4 q z hz
        have hI' := hI.tell so hle (A' := newObjA A m.obj) ho hl h2 h3 g2 (k6 _ A.next Env.bind_same) k7 fun p hp hpv => q2 p hp (by rw [bit_zero]; simp) hpv
        exact ih _ _ _ _ _ _ hr' hst' hea' hI' h4 q1
      · exact ⟨j :: r, D, eff, pins, F, E, A, hr, hst, hea, hI, hc, hd, fun j' r' h => by cases h; exact ⟨o, ho, isA_isE hal, fun _ => hl⟩⟩
    | false =>
      cases he : isE o.op with
      | true => exact ⟨j :: r, D, eff, pins, F, E, A, hr, hst, hea, hI, hc, hd, fun j' r' h => by cases h; exact ⟨o, ho, he, fun h => by rw [hal] at h; cases h⟩⟩
      | false =>
        rw [drawK_cons, lget_eq, Array.getElem?_toList, ho] at hd
        simp only [hal, he, cond_false] at hd
        split at hd
        case h_2 => cases hd
        rename_i v hv
        obtain ⟨F', g1, g2, g3⟩ := putK_spec hd
        rw [he, cond_false] at h4
        exact ih _ _ _ _ _ _ hr hst (hea.step EA_of_quiet (.refl E) (fun k hk hi => ⟨rfl, hi⟩) fun _ _ _ _ _ _ => rfl) (hI.quiet so hr ho he h2 h3 hv g2 g3) h4 g1

theorem count_set {L : Array Bool} {i : Nat} (hi : i < L.size) (h : L.getD i true = false) : (L.setIfInBounds i true).toList.count false + 1 = L.toList.count false := by
  have h2 : L.toList[i]? = some false := by
    rw [Array.getElem?_toList, Array.getElem?_eq_getElem hi]
    rw [Array.getD_eq_getD_getElem?, Array.getElem?_eq_getElem hi] at h
    simpa using h
  have hlen : i < L.toList.length := by simpa using hi
  have h3 : L.toList[i] = false := by rw [List.getElem?_eq_getElem hlen] at h2; simpa using h2
  have hpos : 0 < L.toList.count false := List.count_pos_iff.2 (h3 ▸ List.getElem_mem hlen)
  rw [Array.toList_setIfInBounds, List.count_set hlen]
  simp only [h3]
  have e1 : (if ((false : Bool) == false) = true then 1 else 0 : Nat) = 1 := rfl
  have e2 : (if ((true : Bool) == false) = true then 1 else 0 : Nat) = 0 := rfl
  rw [e1, e2]
  omega

theorem ready_mem {L : Array Bool} {j : Nat} (hs : L.size = ops.size) (h : j ∈ Region.ready .any ops L) : ¬ Li L j ∧ L.getD j true = false ∧ ∃ o, ops[j]? = some o ∧ ∀ e ∈ o.after, Region.binds .any e = true → Li L e.on := by
  obtain ⟨h1, o, ho, h2⟩ := mem_ready.1 h
  refine ⟨fun hl => ?_, h1, o, ho, h2⟩
  have hj : j < L.size := by rw [hs]; exact (Array.getElem?_eq_some_iff.1 ho).1
  unfold Li at hl
  simp [hj] at h1 hl
  rw [h1] at hl; cases hl

theorem not_ready {L : Array Bool} (so : OkR ops M wr) (hs : L.size = ops.size) (h : Region.ready .any ops L = []) : ∀ j, j < ops.size → Li L j := by
  intro j
  induction j using Nat.strongRecOn with
  | _ j ih =>
    intro hj
    refine Classical.byContradiction fun hn => ?_
    have ho : ops[j]? = some ops[j] := Array.getElem?_eq_getElem hj
    have : j ∈ Region.ready .any ops L := by
      refine mem_ready.2 ⟨?_, ops[j], ho, fun e he hb => ?_⟩
      · have hj' : j < L.size := by rw [hs]; exact hj
        unfold Li at hn
        simp [hj'] at hn ⊢
        exact hn
      · have := so.back j _ ho e he hb
        exact ih e.on this (by omega)
    rw [h] at this; cases this

theorem drawn_any [Amb] {Φ : Fence} (hΦ : Wide Φ) (hw : PWF P) (hcf : HkOk P cf) (so : OkR ops M wr) (hA : ∀ (j : Nat) (o : Oper), ops[j]? = some o → isA o = true → (∃ m, allocO P o.op = some m) ∧ ∀ d, o.dst = some d → d < n) {E0 : Env} {A0 : AH} {W0 : World} (hQ : ∀ a' W', PostC E0 A0 W0 n k a' W' → Q .normal a' W') :
    ∀ (fuel : Nat) (plan : List Nat) (D eff : Nat) (pins : List Pin) (F : Fr) (E : Env) (A : AH) (W : World) (L : Array Bool) (a : Act),
    Rel E A W → Step E0 A0 W0 E A W → Early P ops D L E W W0.heap.size a →
    Inv P ops M wr n F0 E F A pins D L a → chkP M ops.toList ops.size plan D eff = true → drawK P cf n ops.toList M plan pins F A k = true → Head ops L plan →
    L.toList.count false ≤ fuel → wpAnyIn Φ 0 P .any ops Q fuel L a W := by
  -- nothing is left
  have fin : ∀ (plan : List Nat) (D eff : Nat) (pins : List Pin) (F : Fr) (E : Env) (A : AH) (W : World) (L : Array Bool) (a : Act),
      Rel E A W → Step E0 A0 W0 E A W → Inv P ops M wr n F0 E F A pins D L a → chkP M ops.toList ops.size plan D eff = true → drawK P cf n ops.toList M plan pins F A k = true → Head ops L plan →
      Region.ready .any ops L = [] → Q .normal a W := by
    intro plan D eff pins F E A W L a hr hst hI hc hd hh hnil
    have all := not_ready so hI.lsz hnil
    cases plan with
    | cons j r =>
      obtain ⟨o, ho, h1, h2, h3, h4⟩ := chkP_cons hc
      obtain ⟨o', ho', _, hna⟩ := hh j r rfl
      rw [ho] at ho'; cases ho'
      have hlj := all j (Array.getElem?_eq_some_iff.1 ho).1
      rcases hI.sub j hlj with h | ⟨o', h5, h6⟩
      · rw [h3] at h; cases h
      · rw [ho] at h5; cases h5; exact absurd hlj (hna h6)
    | nil =>
      refine hQ _ _ ⟨F, A, E, hd, ⟨hI.size, hI.defers, fun t v hv => ?_⟩, hr, hst⟩
      cases hwt : wr.get t with
      | some i =>
        obtain ⟨o, ho, _⟩ := so.wr2 t i hwt
        have hlt := (Array.getElem?_eq_some_iff.1 ho).1
        exact hI.wrt t i hwt (all i hlt) ((chkP_all _ _ _ hc i hlt).resolve_right (by simp)) v hv
      | none =>
        rw [hI.f0 t fun i hi => by rw [hwt] at hi; cases hi] at hv
        exact hI.ini t (fun i hi => by rw [hwt] at hi; cases hi) v hv
  intro fuel
  induction fuel with
  | zero =>
    intro plan D eff pins F E A W L a hr hst hea hI hc hd hh hcnt
    have hnil : Region.ready .any ops L = [] := by
      cases hrd : Region.ready .any ops L with
      | nil => rfl
      | cons j r =>
        have hj : j ∈ Region.ready .any ops L := by rw [hrd]; exact List.mem_cons_self
        obtain ⟨_, h1, o, ho, _⟩ := ready_mem hI.lsz hj
        have hlt : j < L.size := by rw [hI.lsz]; exact (Array.getElem?_eq_some_iff.1 ho).1
        have := count_set hlt h1
        omega
    exact ⟨hnil, fin plan D eff pins F E A W L a hr hst hI hc hd hh hnil⟩
  | succ fuel ih =>
    intro plan D eff pins F E A W L a hr hst hea hI hc hd hh hcnt
    refine ⟨fin plan D eff pins F E A W L a hr hst hI hc hd hh, fun j hj => ?_⟩
    obtain ⟨hnl, h1, o, ho, hedges⟩ := ready_mem hI.lsz hj
    have hlt : j < L.size := by rw [hI.lsz]; exact (Array.getElem?_eq_some_iff.1 ho).1
    have hcnt' : (L.setIfInBounds j true).toList.count false ≤ fuel := by have := count_set hlt h1; omega
    have hready : ∀ i, bit (mg M j) i = true → Li L i := by
      intro i hi
      obtain ⟨e, he, hb, h2⟩ := so.mask j o ho i hi
      rcases h2 with h2 | h2
      · subst h2; exact hedges e he hb
      · exact hI.cl e.on (hedges e he hb) i h2
    -- an early variable's place is its own
    have htmp : ∀ (v' : Value) (D' : Nat), (∀ d, o.dst = some d → d < a.tmps.size) → ∀ i oi d, EA ops D' (L.setIfInBounds j true) i → i ≠ j → ops[i]? = some oi → oi.dst = some d →
        (a.put o.dst v').tmps.getD d undef = a.tmps.getD d undef := by
      intro v' D' hdl i oi d _ hij hoi hdi
      rw [getD_put hdl, if_neg fun e => hij ?_]
      have := so.wr1 i oi d hoi hdi
      rw [so.wr1 j o d ho e] at this; cases this; rfl
    cases hb : bit D j with
    | true =>
      -- looked up ahead
      obtain ⟨x, G, v, g1, g2, g3, g4, g5, g6, g7⟩ := hI.pend j hb hnl
      rw [ho] at g1; cases g1
      have hl := hI.looks so ho hnl hready (fun i hi => hI.dcl j hb i hi) g6 g7
      have hop := rhoc_opnds (a := a) g5 hl
      have hsel := so.sel j o ho
      have hdl : ∀ d, o.dst = some d → d < a.tmps.size := fun d hd => by rw [hI.size]; exact (g4 d hd).2
      have hEA : ∀ i, EA ops D (L.setIfInBounds j true) i → EA ops D L i ∧ i ≠ j := by
        rintro i ⟨oi, i1, i2, i3, i4⟩
        have hij : i ≠ j := fun e => by subst e; rw [hb] at i4; cases i4
        exact ⟨⟨oi, i1, i2, ((Li_set hlt).1 i3).resolve_right hij, i4⟩, hij⟩
      have hea' : ∀ v', Early P ops D (L.setIfInBounds j true) E W W0.heap.size (a.put o.dst v') := fun v' =>
        hea.step (fun i hi => (hEA i hi).1) (.refl E) (fun k hk hi => ⟨rfl, hi⟩) fun i oi d hi hoi hdi => htmp v' D hdl i oi d hi (hEA i hi).2 hoi hdi
      unfold pinV at g3
      unfold wpOpIn
      simp only [ho]
      split at g3
      · rename_i hg
        rw [guardA_sound hg fun j' w y d u hgd hx hdd hu => hl d (guard_looks hgd hx hdd) u hu]
        simp only [if_true]
        obtain ⟨v', hv', hex⟩ := evQ_sound hr (o := o) hop g3
        rw [rhoc_exec hsel] at hex
        have hok0 : OpOk P o a.eval W fun u W' => u = v' ∧ W' = W := by unfold OpOk; rw [hex]; exact ⟨rfl, rfl⟩
        refine OpOk.wp hΦ hok0 ?_
        rintro u W' ⟨hu, hW⟩
        rw [hu, hW]
        exact ih plan D eff pins F E A W _ _ hr hst (hea' v') (hI.run so ho hnl hb hready g4 hv') hc hd (fun j' r' hp => by
          obtain ⟨o', i1, i2, i3⟩ := hh j' r' hp
          refine ⟨o', i1, i2, fun ha hl' => ?_⟩
          rcases (Li_set hlt).1 hl' with h | h
          · exact i3 ha h
          · subst h hp
            obtain ⟨_, _, _, _, c3, _⟩ := chkP_cons hc
            rw [hb] at c3; cases c3) hcnt'
      · rename_i hg
        rw [guardA_sound hg fun j' w y d u hgd hx hdd hu => hl d (guard_looks hgd hx hdd) u hu]
        simp only [Bool.false_eq_true, if_false]
        cases g3
        exact ⟨fun f _ => hΦ.fn f, ih plan D eff pins F E A W _ _ hr hst (hea' undef) (hI.run so ho hnl hb hready g4 rfl) hc hd (fun j' r' hp => by
          obtain ⟨o', i1, i2, i3⟩ := hh j' r' hp
          refine ⟨o', i1, i2, fun ha hl' => ?_⟩
          rcases (Li_set hlt).1 hl' with h | h
          · exact i3 ha h
          · subst h hp
            obtain ⟨_, _, _, _, c3, _⟩ := chkP_cons hc
            rw [hb] at c3; cases c3) hcnt'⟩
      · cases g3
    | false =>
      have hmem : j ∈ plan := (chkP_all _ _ _ hc j (Array.getElem?_eq_some_iff.1 ho).1).resolve_left (by rw [hb]; simp)
      cases hal : isA o with
      | true =>
        -- a variable, ahead of its time
        obtain ⟨⟨m, hm⟩, hdn⟩ := hA j o ho hal
        have hdl : ∀ d, o.dst = some d → d < a.tmps.size := fun d hd => by rw [hI.size]; exact hdn d hd
        unfold isA at hal
        split at hal
        case h_2 => cases hal
        rename_i t hop
        split at hal
        case h_2 => cases hal
        rename_i hgd
        rw [hop] at hm
        obtain ⟨b, v', kappa, y1, y2, y3⟩ := allocA_ok (P := P) (E := E) (W := W) (t := t) (m := m) hm
        have hex : (execOp a.eval o).run P W = .ok (.value v') { W with heap := W.heap.push b } := by
          have e : execOp a.eval o = (do pure (.value (← Instr.alloc t true (.tuple #[])))) := by unfold execOp; rw [hop]
          rw [e, Sem.run_bind, y1]; rfl
        have hok0 : OpOk P o a.eval W fun u W' => u = v' ∧ W' = { W with heap := W.heap.push b } := by unfold OpOk; rw [hex]; exact ⟨rfl, rfl⟩
        have hal' : isA o = true := by unfold isA; rw [hop, hgd]
        have hea' : Early P ops D (L.setIfInBounds j true) E { W with heap := W.heap.push b } W0.heap.size (a.put o.dst v') := by
          obtain ⟨Bk, e1, e2⟩ := hea
          have hEA : ∀ i, EA ops D (L.setIfInBounds j true) i → i ≠ j → EA ops D L i := by
            rintro i ⟨oi, i1, i2, i3, i4⟩ hij
            exact ⟨oi, i1, i2, ((Li_set hlt).1 i3).resolve_right hij, i4⟩
          have hBk : ∀ i, EA ops D L i → Bk i < W.heap.size := by
            intro i hi
            obtain ⟨oi, i1, _⟩ := id hi
            obtain ⟨_, _, _, _, _, z, _⟩ := e1 i hi oi i1
            exact (Array.getElem?_eq_some_iff.1 z).1
          refine ⟨fun i => if i = j then W.heap.size else Bk i, fun i hi oi hoi => ?_, fun i i' hi hi' => ?_⟩
          · by_cases hij : i = j
            · subst hij
              rw [ho] at hoi; cases hoi
              simp only [if_true]
              refine ⟨m, b, v', kappa, by rw [hop]; exact hm, by simp, ⟨hst.size, hr.amb.1⟩, fun q x hx e => ?_, y2, fun E' q hq => y3 E' q hq, fun d hd => ?_⟩
              · have := hr.bound q x hx; omega
              · rw [getD_put hdl, if_pos hd]
            · simp only [if_neg hij]
              obtain ⟨m2, b2, v2, kap2, z1, z2, z3, z4, z5, z6, z7⟩ := e1 i (hEA i hi hij) oi hoi
              have hlt2 := hBk i (hEA i hi hij)
              refine ⟨m2, b2, v2, kap2, z1, ?_, z3, z4, z5, z6, fun d hd => (htmp v' D hdl i oi d hi hij hoi hd).trans (z7 d hd)⟩
              rw [← z2]
              simp [Array.getElem?_push, show Bk i ≠ W.heap.size by omega]
          · by_cases h1 : i = j <;> by_cases h2 : i' = j
            · intro _; rw [h1, h2]
            · simp only [if_pos h1, if_neg h2]
              intro e; have := hBk i' (hEA i' hi' h2); omega
            · simp only [if_neg h1, if_pos h2]
              intro e; have := hBk i (hEA i hi h1); omega
            · simp only [if_neg h1, if_neg h2]
              exact e2 i i' (hEA i hi h1) (hEA i' hi' h2)
        have hI' := hI.early so (v' := v') ho hal' hnl hb hready hdl
        unfold wpOpIn
        simp only [ho]
        have hwant : Region.wanted o (yielded ops a.tmps) = true := by unfold Region.wanted; rw [hgd]
        rw [hwant]
        simp only [if_true]
        refine OpOk.wp hΦ hok0 ?_
        rintro u W' ⟨hu, hW⟩
        rw [hu, hW]
        obtain ⟨plan', D', eff', pins', F'', E'', A'', k1, k2, k3, k4, k5, k6, k7⟩ := advance so plan _ _ _ _ _ _ (hr.push b) (hst.push b) hea' hI' hc hd
        exact ih plan' D' eff' pins' F'' E'' A'' _ _ _ k1 k2 k3 k4 k5 k6 k7 hcnt'
      | false =>
        -- the next effect
        cases plan with
        | nil => cases hmem
        | cons e r =>
          obtain ⟨oe, hoe, hee, hna⟩ := hh e r rfl
          obtain ⟨oe', hoe', c1, c2, c3, c4⟩ := chkP_cons hc
          rw [hoe] at hoe'; cases hoe'
          rw [hee, cond_true] at c4
          have hje : j = e := by
            cases hmem with
            | head => rfl
            | tail _ hm =>
              have h2 := chkP_mem _ _ _ c4 j hm o ho hal e (mor_true.2 (.inr rfl))
              have hle := hready e h2
              rcases hI.sub e hle with h3 | ⟨o', i1, i2⟩
              · rw [c3] at h3; cases h3
              · rw [hoe] at i1; cases i1; exact absurd hle (hna i2)
          subst hje
          rw [ho] at hoe; cases hoe
          have hl := hI.looks so ho hnl hready c2 (hI.coherent so ho hb) (fun t _ i _ _ => rfl)
          have hop := rhoc_opnds (a := a) hI.con hl
          have hsel := so.sel j o ho
          have hEA : ∀ i, EA ops (mor D j) (L.setIfInBounds j true) i → EA ops D L i ∧ i ≠ j := by
            rintro i ⟨oi, i1, i2, i3, i4⟩
            obtain ⟨i5, i6⟩ := mor_false i4
            exact ⟨⟨oi, i1, i2, ((Li_set hlt).1 i3).resolve_right i6, i5⟩, i6⟩
          rw [drawK_cons, lget_eq, Array.getElem?_toList, ho] at hd
          simp only [hal, hee, cond_true, cond_false] at hd
          unfold wpOpIn
          simp only [ho]
          split at hd
          · rename_i hg
            rw [guardA_sound hg fun j' w y d u hgd hx hdd hu => hl d (guard_looks hgd hx hdd) u hu]
            simp only [if_true]
            have hok := execK_sound hw hcf hr hop hd
            have hok' : OpOk P o a.eval W (Post E A W fun v A' => putK n o.dst v F fun F' => pinsK P ops.toList (mg M j) pins A' fun ps => drawK P cf n ops.toList M r ps F' A' k) := by
              unfold OpOk at hok ⊢
              rw [rhoc_exec hsel] at hok
              exact hok
            refine OpOk.wp hΦ hok' fun v' W' hp => ?_
            obtain ⟨av, A', E', p1, p2, p3, p4⟩ := hp
            obtain ⟨F', g1, g2, g3⟩ := putK_spec p1
            obtain ⟨ps, q1, q2⟩ := pinsK_spec (A := A) g1
            have hdl : ∀ d, o.dst = some d → d < a.tmps.size := fun d hd => by rw [hI.size]; exact g3 d hd
            have hI' := hI.effect so p4.le (pins' := ps) (A' := A') ho hnl hready c2 hb g2 g3 p2 q2
            have hea' : Early P ops (mor D j) (L.setIfInBounds j true) E' W' W0.heap.size (a.put o.dst v') :=
              hea.step (fun i hi => (hEA i hi).1) p4.le (fun k hk hi => ⟨p4.frame k hk hi, fun i x hx e => by
                obtain ⟨j', y, hy, ey⟩ := p4.img i x hx (by omega)
                exact hi j' y hy (by omega)⟩) fun i oi d hi hoi hdi => htmp v' _ hdl i oi d hi (hEA i hi).2 hoi hdi
            obtain ⟨plan', D', eff', pins', F'', E'', A'', k1, k2, k3, k4, k5, k6, k7⟩ := advance so r _ _ _ _ _ _ p3 (hst.trans p4) hea' hI' c4 q1
            exact ih plan' D' eff' pins' F'' E'' A'' W' _ _ k1 k2 k3 k4 k5 k6 k7 hcnt'
          · rename_i hg
            rw [guardA_sound hg fun j' w y d u hgd hx hdd hu => hl d (guard_looks hgd hx hdd) u hu]
            simp only [Bool.false_eq_true, if_false]
            obtain ⟨F', g1, g2, g3⟩ := putK_spec hd
            have hdl : ∀ d, o.dst = some d → d < a.tmps.size := fun d hd => by rw [hI.size]; exact g3 d hd
            have hI' := hI.effect so (Env.Le.refl E) (pins' := pins) (A' := A) (v' := undef) ho hnl hready c2 hb g2 g3 rfl fun p hp _ hpv => ⟨hp, hpv⟩
            have hea' : Early P ops (mor D j) (L.setIfInBounds j true) E W W0.heap.size (a.put o.dst undef) :=
              hea.step (fun i hi => (hEA i hi).1) (.refl E) (fun k hk hi => ⟨rfl, hi⟩) fun i oi d hi hoi hdi => htmp undef _ hdl i oi d hi (hEA i hi).2 hoi hdi
            obtain ⟨plan', D', eff', pins', F'', E'', A'', k1, k2, k3, k4, k5, k6, k7⟩ := advance so r _ _ _ _ _ _ hr hst hea' hI' c4 g1
            exact ⟨fun f _ => hΦ.fn f, ih plan' D' eff' pins' F'' E'' A'' W _ _ k1 k2 k3 k4 k5 k6 k7 hcnt'⟩
          · cases hd

/-- A drawn region: what the plan says, whatever the order. -/
theorem drawn_sound [Amb] {Φ : Fence} (hΦ : Wide Φ) (hw : PWF P) (hcf : HkOk P cf) (so : OkR ops M wr) (hA : ∀ (j : Nat) (o : Oper), ops[j]? = some o → isA o = true → (∃ m, allocO P o.op = some m) ∧ ∀ d, o.dst = some d → d < n) {plan : List Nat} {F : Fr} {E : Env} {A : AH} {W : World} {a : Act} (hf : FRel E n F a) (hr : Rel E A W)
    (hc : chkP M ops.toList ops.size plan 0 0 = true) (hd : drawK P cf n ops.toList M plan [] F A k = true) (hQ : ∀ a' W', PostC E A W n k a' W' → Q .normal a' W') {id : Nat} :
    (Code.region id ops true).wpIn Φ 0 P Q a W := by
  refine wpIn_region_any hw.mixed ?_
  have hr' := hr.drawn (W.drawn + 1)
  have hn : ∀ j, ¬ Li (Array.replicate ops.size false) j := by
    intro j h
    unfold Li at h
    rw [Array.getD_eq_getD_getElem?, Array.getElem?_replicate] at h
    split at h <;> simp at h
  have hI : Inv P ops M wr n F E F A [] 0 (Array.replicate ops.size false) a := by
    refine ⟨hf.size, hf.defers, by simp, fun j h => absurd h (hn j), fun j h => absurd h (hn j), fun j o _ _ h => ?_, fun j h => ?_, fun t v hv => ⟨_, hf.get t v hv⟩, fun j h => ?_, fun t i _ h => absurd h (hn i), fun t _ v hv => hf.get t v hv, fun t _ => rfl⟩
    all_goals (rw [bit_zero] at h; cases h)
  have hea : Early P ops 0 (Array.replicate ops.size false) E { W with drawn := W.drawn + 1 } W.heap.size a :=
    ⟨fun _ => 0, fun j hj => by obtain ⟨_, _, _, h, _⟩ := hj; exact absurd h (hn j), fun j j' hj => by obtain ⟨_, _, _, h, _⟩ := hj; exact absurd h (hn j)⟩
  obtain ⟨plan', D', eff', pins', F', E', A', k1, k2, k3, k4, k5, k6, k7⟩ := advance so plan 0 0 [] F E A hr' (Step.drawn (W.drawn + 1)) hea hI hc hd
  exact drawn_any hΦ hw hcf so hA hQ ops.size plan' D' eff' pins' F' E' A' _ _ a k1 k2 k3 k4 k5 k6 k7 (by simp)
end
end Go.PE
