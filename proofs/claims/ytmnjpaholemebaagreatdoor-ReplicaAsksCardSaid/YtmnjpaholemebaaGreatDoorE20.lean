/-
  THE ENGINE, 20: code, loops, calls.
-/
import Derived.Test.YtmnjpaholemebaaGreatDoorE19
namespace Go.PE
open Go

/-! ### Regions -/
noncomputable def maskGo (l : List Oper) (j : Nat) (M : T Nat) : T Nat := List.rec (motive := fun _ => Nat → T Nat → T Nat) (fun _ M => M)
  (fun o _ ih j M => ih (Nat.succ j) (M.set j (maskOf M o.after.toList))) l j M
noncomputable def effGo (l : List Oper) (w : Bool) (j : Nat) : List Nat := List.rec (motive := fun _ => Nat → List Nat) (fun _ => [])
  (fun o _ ih j => cond (bq (isE o.op) w) (j :: ih (Nat.succ j)) (ih (Nat.succ j))) l j
noncomputable def effM (l : List Nat) : Nat := List.rec (motive := fun _ => Nat) 0 (fun j _ ih => mor ih j) l
noncomputable def varsOk (P : Program) (n : Nat) (l : List Oper) : Bool := lall (fun o => cond (isA o) (match allocO P o.op with
  | some _ => (match o.dst with | some d => Nat.blt d n | none => true)
  | none => false) true) l
theorem varsOk_spec {P : Program} {n : Nat} {ops : Array Oper} (h : varsOk P n ops.toList = true) (j : Nat) (o : Oper) (ho : ops[j]? = some o) (ha : isA o = true) : (∃ m, allocO P o.op = some m) ∧ ∀ d, o.dst = some d → d < n := by
  have := lall_eq _ _ h o (by
    have h2 : ops.toList[j]? = some o := by rw [Array.getElem?_toList]; exact ho
    exact List.mem_of_getElem? h2)
  rw [ha, cond_true] at this
  split at this
  case h_2 => cases this
  rename_i m hm
  refine ⟨⟨m, hm⟩, fun d hd => ?_⟩
  rw [hd] at this
  exact Nat.blt_eq ▸ this
noncomputable def idxOf (p : Oper → Bool) (l : List Oper) (j : Nat) : List Nat := List.rec (motive := fun _ => Nat → List Nat) (fun _ => [])
  (fun o _ ih j => cond (p o) (j :: ih (Nat.succ j)) (ih (Nat.succ j))) l j
noncomputable def bnot (b : Bool) : Bool := cond b false true
/-- Effect after effect: ahead of each, what may be looked up, the variables that it wants, and what may be looked up by them. -/
noncomputable def planGo (M : T Nat) (as : List Nat) (all : Nat) (es : List Nat) (q : List Nat) (done : Nat) : List Nat := List.rec (motive := fun _ => List Nat → Nat → List Nat)
  (fun q done => (fun pend => lapp (lfilter (fun j => subm (Nat.land (mg M j) all) done) q) (lapp pend (lfilter (fun j => bnot (subm (Nat.land (mg M j) all) done)) q)))
    (lfilter (fun a => bnot (bit done a)) as))
  (fun e _ ih q done => (fun pend => (fun done1 => (fun q1 => lapp (lfilter (fun j => subm (Nat.land (mg M j) all) done) q) (lapp pend (lapp (lfilter (fun j => subm (Nat.land (mg M j) all) done1) q1)
      (e :: ih (lfilter (fun j => bnot (subm (Nat.land (mg M j) all) done1)) q1) (mor done1 e)))))
        (lfilter (fun j => bnot (subm (Nat.land (mg M j) all) done)) q)) (Nat.lor done (effM pend)))
    (lfilter (fun a => cond (bit (mg M e) a) (bnot (bit done a)) false) as)) es q done
noncomputable def planOf (M : T Nat) (l : List Oper) : List Nat := planGo M (idxOf isA l 0) (effM (idxOf (fun o => isE o.op) l 0)) (idxOf (fun o => cond (isE o.op) (bnot (isA o)) false) l 0) (idxOf (fun o => bnot (isE o.op)) l 0) 0

noncomputable def drawnK (P : Program) (cf : HK) (n : Nat) (l : List Oper) (M : T Nat) (F : Fr) (A : AH) (k : Fr → AH → Bool) : Bool :=
  cond (opsOk M (wrGo l 0 .e) l l 0) (cond (varsOk P n l) (cond (chkP M l (llen l) (planOf M l) 0 0) (drawK P cf n l M (planOf M l) [] F A k) false) false) false

/-! ### Code -/
abbrev KN := Fr → AH → Bool
abbrev KX := Nat → Fr → AH → Bool
abbrev LP := Code → Fr → AH → KN → KX → KN → Bool
abbrev RF := Operand → List Nat → Code → Code → Fr → AH → KN → KX → KN → Bool

noncomputable def condV (v : Option AV) (x y : Bool) : Bool := match v with
  | some (.bool b) => cond b x y
  | _ => false

noncomputable def codeK (P : Program) (cf : HK) (n : Nat) (rf : RF) (lp : LP) (c : Code) : Fr → AH → KN → KX → KN → Bool :=
  Code.rec (motive := fun _ => Fr → AH → KN → KX → KN → Bool)
    (fun F A kn _ _ => kn F A)
    (fun _ ops draw F A kn _ _ => cond draw (drawnK P cf n ops.toList (maskGo ops.toList 0 .e) F A kn) (plainK P cf n ops.toList ops.toList F A kn))
    (fun _ _ iha ihb F A kn kx kr => iha F A (fun F A => ihb F A kn kx kr) kx kr)
    (fun c _ _ iha ihb F A kn kx kr => condV (evO F.t c) (iha F A kn kx kr) (ihb F A kn kx kr))
    (fun id _ ih F A kn kx kr => ih F A kn (fun i F A => cond (Nat.beq i id) (kn F A) (kx i F A)) kr)
    (fun c _ F A kn kx kr => lp c F A kn kx kr)
    (fun g ps as bd _ _ F A kn kx kr => rf g ps.toList as bd F A kn kx kr)
    (fun id F A _ kx _ => kx id F A)
    (fun _ _ _ _ _ _ _ => false)
    (fun _ _ _ _ _ _ => false)
    (fun _ _ _ _ _ _ => false)
    (fun F A _ _ kr => kr F A)
    (fun _ _ _ _ _ _ => false) c

noncomputable def loopK (P : Program) (cf : HK) (n : Nat) (rf : RF) (m : Nat) : LP := Nat.rec (motive := fun _ => LP) (fun _ _ _ _ _ _ => false)
  (fun _ ih c F A kn kx kr => codeK P cf n rf ih c F A (fun F A => ih c F A kn kx kr) kx kr) m

theorem loopK_succ {P : Program} {cf : HK} {n m : Nat} {rf : RF} {c : Code} {F : Fr} {A : AH} {kn : KN} {kx : KX} {kr : KN} :
    loopK P cf n rf (m + 1) c F A kn kx kr = codeK P cf n rf (loopK P cf n rf m) c F A (fun F A => loopK P cf n rf m c F A kn kx kr) kx kr := rfl

def PostX [Amb] (E : Env) (A : AH) (W : World) (n : Nat) (kn : KN) (kx : KX) (kr : KN) : Exit → Act → World → Prop
  | .normal, a, w => PostC E A W n kn a w
  | .exit id, a, w => PostC E A W n (kx id) a w
  | .ret, a, w => PostC E A W n kr a w
  | _, _, _ => False

theorem PostC.from [Amb] {E E1 : Env} {A A1 : AH} {W W1 W2 : World} {n : Nat} {k : KN} {a : Act} (hs : Step E A W E1 A1 W1) (h : PostC E1 A1 W1 n k a W2) : PostC E A W n k a W2 := by
  obtain ⟨F, A', E', h1, h2, h3, h4⟩ := h
  exact ⟨F, A', E', h1, h2, h3, hs.trans h4⟩
theorem PostX.from [Amb] {E E1 : Env} {A A1 : AH} {W W1 W2 : World} {n : Nat} {kn : KN} {kx : KX} {kr : KN} {e : Exit} {a : Act} (hs : Step E A W E1 A1 W1) (h : PostX E1 A1 W1 n kn kx kr e a W2) : PostX E A W n kn kx kr e a W2 := by
  cases e <;> first | exact PostC.from hs h | exact h.elim

section
variable {P : Program} {cf : HK} {n : Nat} {rf : RF} {Φ : Fence}

def LpOk [Amb] (Φ : Fence) (P : Program) (n : Nat) (lp : LP) : Prop := ∀ (c : Code) (E : Env) (A : AH) (W : World) (F : Fr) (a : Act) (kn : KN) (kx : KX) (kr : KN), Rel E A W → FRel E n F a →
  lp c F A kn kx kr = true → (Code.loop c).wpIn Φ 0 P (PostX E A W n kn kx kr) a W
def RfOk [Amb] (Φ : Fence) (P : Program) (n : Nat) (rf : RF) : Prop := ∀ (g : Operand) (ps : Array Tmp) (as bd : Code) (E : Env) (A : AH) (W : World) (F : Fr) (a : Act) (kn : KN) (kx : KX) (kr : KN), Rel E A W → FRel E n F a →
  rf g ps.toList as bd F A kn kx kr = true → (Code.rangeFunc g ps as bd).wpIn Φ 0 P (PostX E A W n kn kx kr) a W

theorem codeK_sound [Amb] (hΦ : Wide Φ) (hw : PWF P) (hcf : HkOk P cf) (hrf : RfOk Φ P n rf) {lp : LP} (hlp : LpOk Φ P n lp) : ∀ (c : Code) (E : Env) (A : AH) (W : World) (F : Fr) (a : Act) (kn : KN) (kx : KX) (kr : KN), Rel E A W → FRel E n F a →
    codeK P cf n rf lp c F A kn kx kr = true → c.wpIn Φ 0 P (PostX E A W n kn kx kr) a W := by
  intro c
  induction c with
  | skip => intro E A W F a kn kx kr hr hf h; exact wpIn_skip ⟨F, A, E, h, hf, hr, Step.refl _ _ _⟩
  | region id ops draw =>
    intro E A W F a kn kx kr hr hf h
    have h' : cond draw (drawnK P cf n ops.toList (maskGo ops.toList 0 .e) F A kn) (plainK P cf n ops.toList ops.toList F A kn) = true := h
    cases draw with
    | false =>
      rw [cond_false] at h'
      refine wpIn_region ?_
      have := plainK_sound hΦ hw hcf (Q := PostX E A W n kn kx kr) ops.toList 0 (fun j => by rw [Array.getElem?_toList, Nat.zero_add]) hr hf h' fun a' W' hp => hp
      rw [List.range_eq_range']
      simpa using this
    | true =>
      rw [cond_true] at h'
      obtain ⟨h1, h2⟩ := cond_some' h'
      obtain ⟨hv, h2⟩ := cond_some' h2
      obtain ⟨h2, h3⟩ := cond_some' h2
      have hlen : llen ops.toList = ops.size := by rw [llen_eq]; simp
      rw [hlen] at h2
      exact drawn_sound hΦ hw hcf (okR_of h1) (varsOk_spec hv) hf hr h2 h3 fun a' W' hp => hp
  | seq x y ihx ihy =>
    intro E A W F a kn kx kr hr hf h
    have h' : codeK P cf n rf lp x F A (fun F A => codeK P cf n rf lp y F A kn kx kr) kx kr = true := h
    refine wpIn_seq (wpIn_mono (ihx E A W F a _ kx kr hr hf h') fun e a' w' hp => ?_)
    cases e with
    | normal =>
      obtain ⟨F1, A1, E1, h1, h2, h3, h4⟩ := hp
      exact wpIn_mono (ihy E1 A1 w' F1 a' kn kx kr h3 h2 h1) fun e a'' w'' hp2 => hp2.from h4
    | exit id => exact hp
    | ret => exact hp
    | goto l => exact hp
    | panic c => exact hp
    | outgrown => exact hp
  | cond c x y ihx ihy =>
    intro E A W F a kn kx kr hr hf h
    have h' : condV (evO F.t c) (codeK P cf n rf lp x F A kn kx kr) (codeK P cf n rf lp y F A kn kx kr) = true := h
    unfold condV at h'
    split at h'
    case h_2 => cases h'
    rename_i b hb
    have := hf.opnds _ _ hb
    simp only [conc, Option.some.injEq] at this
    cases b with
    | true => exact wpIn_cond_true this.symm (ihx E A W F a kn kx kr hr hf h')
    | false => exact wpIn_cond_false this.symm (ihy E A W F a kn kx kr hr hf h')
  | block id x ih =>
    intro E A W F a kn kx kr hr hf h
    have h' : codeK P cf n rf lp x F A kn (fun i F A => cond (Nat.beq i id) (kn F A) (kx i F A)) kr = true := h
    refine wpIn_block (wpIn_mono (ih E A W F a _ _ kr hr hf h') fun e a' w' hp => ?_)
    cases e with
    | normal => exact hp
    | exit i =>
      obtain ⟨F1, A1, E1, h1, h2⟩ := hp
      by_cases hi : i = id
      · subst hi
        simp only [Exit.inBlock, if_true]
        have : Nat.beq i i = true := by rw [beq_eq]; simp
        dsimp only at h1
        rw [this] at h1
        exact ⟨F1, A1, E1, h1, h2⟩
      · simp only [Exit.inBlock, hi, if_false]
        have : Nat.beq i id = false := by rw [beq_eq]; simp [hi]
        dsimp only at h1
        rw [this] at h1
        exact ⟨F1, A1, E1, h1, h2⟩
    | ret => exact hp
    | goto l => exact hp
    | panic c => exact hp
    | outgrown => exact hp
  | loop x _ => intro E A W F a kn kx kr hr hf h; exact hlp x E A W F a kn kx kr hr hf h
  | rangeFunc g ps as bd _ _ => intro E A W F a kn kx kr hr hf h; exact hrf g ps as bd E A W F a kn kx kr hr hf h
  | exit id => intro E A W F a kn kx kr hr hf h; exact wpIn_exit ⟨F, A, E, h, hf, hr, Step.refl _ _ _⟩
  | ret => intro E A W F a kn kx kr hr hf h; exact wpIn_ret ⟨F, A, E, h, hf, hr, Step.refl _ _ _⟩
  | _ => intro E A W F a kn kx kr hr hf h; cases h

theorem loopK_sound [Amb] (hΦ : Wide Φ) (hw : PWF P) (hcf : HkOk P cf) (hrf : RfOk Φ P n rf) : ∀ m, LpOk Φ P n (loopK P cf n rf m) := by
  intro m
  have main : ∀ m, (∀ m', m' < m → LpOk Φ P n (loopK P cf n rf m')) → LpOk Φ P n (loopK P cf n rf m) := by
    intro m ih c E A W F a kn kx kr hr hf h
    refine wpIn_loop_ghost (fun m' a' w' => m' ≤ m ∧ PostC E A W n (fun F A => loopK P cf n rf m' c F A kn kx kr) a' w') m ⟨Nat.le_refl _, F, A, E, h, hf, hr, Step.refl _ _ _⟩ (fun m' a' w' hI => ?_)
    obtain ⟨hm, F1, A1, E1, h1, h2, h3, h4⟩ := hI
    cases m' with
    | zero => cases h1
    | succ m' =>
      dsimp only at h1
      rw [loopK_succ] at h1
      refine wpIn_mono (codeK_sound hΦ hw hcf hrf (ih m' (by omega)) c E1 A1 w' F1 a' _ kx kr h3 h2 h1) fun e a'' w'' hp => ?_
      cases e with
      | normal => exact ⟨m', Nat.lt_succ_self _, by omega, PostC.from h4 hp⟩
      | exit id => exact PostC.from h4 hp
      | ret => exact PostC.from h4 hp
      | goto l => exact hp
      | panic c => exact hp
      | outgrown => exact hp
  induction m using Nat.strongRecOn with
  | _ m ih => exact main m ih

/-! ### Ranges over functions -/
noncomputable def rfNo : RF := fun _ _ _ _ _ _ _ _ _ => false
theorem rfNo_sound [Amb] : RfOk Φ P n rfNo := by intro g ps as bd E A W F a kn kx kr _ _ h; cases h

noncomputable def loopEnd (A : AH) (id : Nat) (k : AH → Bool) : Bool := match A.heap.get id with
  | some (.loop true _ _ _ _ _) => k ⟨A.heap.del id, A.next⟩
  | _ => false
noncomputable def loopBusy (A : AH) (id : Nat) (k : AH → Bool) : Bool := match A.heap.get id with
  | some (.loop true n F ps as bd) => k ⟨A.heap.set id (.loop false n F ps as bd), A.next⟩
  | _ => false
noncomputable def loopReady (A : AH) (id : Nat) (k : AH → Bool) : Bool := match A.heap.get id with
  | some (.loop false n F ps as bd) => k ⟨A.heap.set id (.loop true n F ps as bd), A.next⟩
  | _ => false

noncomputable def rfK (cf : HK) (n : Nat) : RF := fun g ps as bd F A kn _ _ => match evO F.t g with
  | some (.func (.func gf) first cap) =>
    cf.cf gf (lapp (lapp first [.yld (newObjA A .defer).next]) cap) (newObjA (newObjA A .defer) (.loop true n F.t ps as bd)) fun _ A3 => loopEnd A3 (newObjA A .defer).next fun A4 => kn ⟨F.t, A.next :: F.ds⟩ A4
  | _ => false

theorem Rel.gone [Amb] {E : Env} {A : AH} {W : World} (hr : Rel E A W) {i : Nat} {o : AObj} {x : Nat × Nat × Nat} (hg : A.heap.get i = some o) (hx : E.blk i = some x) (b' : Obj) :
    Rel E ⟨A.heap.del i, A.next⟩ (W.putObj x.1 b') ∧ Step E A W E ⟨A.heap.del i, A.next⟩ (W.putObj x.1 b') := by
  have hfree : ∀ j oj y, (A.heap.del i).get j = some oj → E.blk j = some y → y.1 ≠ x.1 := by
    intro j oj y hj hy e
    rw [T.get_del] at hj
    split at hj
    · cases hj
    · rename_i hne
      exact hne (hr.inj j i oj o y x hj hg hy hx e).symm
  refine ⟨(hr.drop i).raw (hr.amb.2.2 _ _ hx) hfree (fun k hk => World.putObj_heap_other hk) World.putObj_size, ?_⟩
  exact (Step.drop hx).trans (Step.raw hx rfl (fun k hk => World.putObj_heap_other hk) World.putObj_size rfl rfl rfl)

theorem loop_obj [Amb] {E : Env} {A : AH} {W : World} (hr : Rel E A W) {i : Nat} {st : Bool} {n : Nat} {F : T AV} {ps : List Nat} {as bd : Code} {x : Nat × Nat × Nat} (hg : A.heap.get i = some (.loop st n F ps as bd)) (hx : E.blk i = some x) :
    ∃ r : Loop, W.heap[x.1]? = some (.loop r) ∧ r.state = (if st then .ready else .busy) ∧ r.pending = none ∧ r.tmps.size = n ∧ (∀ t v, F.get t = some v → conc E v = some (r.tmps.getD t undef)) ∧
        r.params.toList = ps ∧ r.assign = as ∧ r.body = bd := by
  obtain ⟨b, hb, hrel⟩ := hr.obj i _ x hg hx
  cases b <;> simp only [ObjRel] at hrel
  exact ⟨_, hb, hrel⟩

theorem rfK_sound [Amb] (hw : PWF P) (hcf : HkOk P cf) : RfOk Fence.wide P n (rfK cf n) := by
  intro g ps as bd E A W F a kn kx kr hr hf h
  unfold rfK at h
  split at h
  case h_2 => cases h
  rename_i gf first cap hg
  have hgc := hf.opnds _ _ hg
  simp only [conc, Option.bind_eq_some_iff, Option.map_eq_some_iff] at hgc
  obtain ⟨fs, hfs, cs, hcs, hval⟩ := hgc
  refine wpIn_rangeFunc fun fn _ => ?_
  -- the two blocks
  obtain ⟨r1, s1⟩ := hr.new (o := .defer) (b := .deferred (some [])) 0 rfl
  have hfr := hr.fresh A.next (Nat.le_refl _)
  generalize hE1 : E.bind A.next (W.heap.size, 0, 0) = E1 at r1 s1
  have hfr1 := r1.fresh (newObjA A .defer).next (Nat.le_refl _)
  let rec0 : Loop := { state := .ready, pending := none, fn, tmps := a.tmps, params := ps, assign := as, body := bd, defers := W.heap.size }
  obtain ⟨r2, s2⟩ := r1.new (o := .loop true n F.t ps.toList as bd) (b := .loop rec0) 0 (by
    simp only [ObjRel]
    exact ⟨rfl, rfl, hf.size, fun t v hv => conc_mono (Env.bind_le hfr1) _ _ (conc_mono s1.le _ _ (hf.get t v hv)), rfl, rfl, rfl⟩)
  have hsz : ({ W with heap := W.heap.push (.deferred (some [])) } : World).heap.size = W.heap.size + 1 := by simp
  rw [hsz] at r2 s2
  have hW2 : ({ ({ W with heap := W.heap.push (.deferred (some [])) } : World) with heap := ({ W with heap := W.heap.push (.deferred (some [])) } : World).heap.push (.loop rec0) } : World) = (W.alloc (.deferred (some []))).alloc (.loop rec0) := rfl
  rw [hW2] at r2 s2
  have hbL : (E1.bind (newObjA A .defer).next (W.heap.size + 1, 0, 0)).blk (newObjA A .defer).next = some (W.heap.size + 1, 0, 0) := Env.bind_same
  have hbD : (E1.bind (newObjA A .defer).next (W.heap.size + 1, 0, 0)).blk A.next = some (W.heap.size, 0, 0) := s2.le.blk _ _ (by rw [← hE1]; exact Env.bind_same)
  have le2 : Env.Le E (E1.bind (newObjA A .defer).next (W.heap.size + 1, 0, 0)) := s1.le.trans s2.le
  have s12 := s1.trans s2
  generalize hE2 : E1.bind (newObjA A .defer).next (W.heap.size + 1, 0, 0) = E2 at *
  have hargs : concs E2 (lapp (lapp first [.yld (newObjA A .defer).next]) cap) = some (fs ++ [Value.func (.yield (W.heap.size + 1)) #[] #[]] ++ cs) := by
    rw [lapp_eq, lapp_eq]
    refine concs_append (concs_append (concs_mono le2 _ _ hfs) ?_) (concs_mono le2 _ _ hcs)
    simp [concs, conc, hbL]
  obtain ⟨⟨fn', hfn', hbody⟩, hcall⟩ := hcf.cf _ _ _ _ h E2 _ _ r2 hargs
  refine ⟨W.heap.size + 1, [{ target := .collected W.heap.size, args := #[] }], (W.alloc (.deferred (some []))).alloc (.loop rec0),
    { target := .fn (.func gf) cs.toArray, args := fs.toArray ++ #[Value.func (.yield (W.heap.size + 1)) #[] #[]] }, (W.alloc (.deferred (some []))).alloc (.loop rec0), gf,
    (fs ++ [Value.func (.yield (W.heap.size + 1)) #[] #[]] ++ cs).toArray, (W.alloc (.deferred (some []))).alloc (.loop rec0), ?_, ?_, fun _ _ => trivial, ?_, fun h => by simp [Fence.wide] at h, ?_⟩
  · exact run_enterLoop_outer _ _ _ _ _
  · simp only [resolve, ← hval]
    simp [Deferred.ofValue, Act.eval]
  · have hne : fn'.name ≠ "runtime.NumGoroutine" := by simpa using hw.names _ _ hfn'
    have hbn : fn'.body ≠ none := by intro hx; rw [hx] at hbody; cases hbody
    simp [invoke, callFunc, hfn', hne, hbn]
  · refine callsIn_wide.2 (Calls.mono hcall fun e W3 he => ?_)
    obtain ⟨v, rfl, av, A3, E3, k1, k2, k3, k4⟩ := he
    unfold loopEnd at k1
    dsimp only at k1
    split at k1
    case h_2 => cases k1
    rename_i n' F' ps' as' bd' hgl
    have hbL3 := k4.le.blk _ _ hbL
    obtain ⟨r, q1, q2, q3, _⟩ := loop_obj k3 hgl hbL3
    obtain ⟨g1, g2⟩ := k3.gone hgl hbL3 (.loop { r with state := .exhausted })
    refine ⟨r.pending, _, run_endLoop q1 (by rw [q2]; simp), ?_⟩
    rw [q3]
    rw [q3] at g1 g2
    refine ⟨_, _, E3, k1, ⟨hf.size, ?_, fun t u hu => conc_mono (le2.trans k4.le) _ _ (hf.get t u hu)⟩, g1, s12.trans (k4.trans g2)⟩
    exact .cons ⟨_, k4.le.blk _ _ hbD, rfl⟩ (marks_mono (le2.trans k4.le) hf.defers)

/-! ### One round -/
noncomputable def setPs (n : Nat) (ps : List Nat) (vs : List AV) (F : T AV) (k : T AV → Bool) : Bool := List.rec (motive := fun _ => List AV → T AV → Bool)
  (fun vs F => match vs with | [] => k F | _ => false)
  (fun p _ ih vs F => match vs with
    | v :: vs => cond (Nat.blt p n) (ih vs (F.set p v)) false
    | [] => false) ps vs F

theorem setPs_spec {n : Nat} {k : T AV → Bool} {E : Env} : ∀ {ps : List Nat} {vs : List AV} {F : T AV} {xs : List Value} {tmps : Array Value}, setPs n ps vs F k = true → concs E vs = some xs →
    tmps.size = n → (∀ t v, F.get t = some v → conc E v = some (tmps.getD t undef)) →
    ∃ F', k F' = true ∧ ps.length = xs.length ∧ ((ps.zip xs).foldl (fun tmps (t, a) => tmps.setIfInBounds t a) tmps).size = n ∧
      ∀ t v, F'.get t = some v → conc E v = some (((ps.zip xs).foldl (fun tmps (t, a) => tmps.setIfInBounds t a) tmps).getD t undef) := by
  intro ps
  induction ps with
  | nil =>
    intro vs F xs tmps h hc hs hg
    cases vs with
    | nil => have := concs_nil hc; subst this; exact ⟨F, h, rfl, hs, hg⟩
    | cons => cases h
  | cons p ps ih =>
    intro vs F xs tmps h hc hs hg
    cases vs with
    | nil => cases h
    | cons v vs =>
      have h' : cond (Nat.blt p n) (setPs n ps vs (F.set p v) k) false = true := h
      obtain ⟨h1, h2⟩ := cond_some' h'
      obtain ⟨x, xs', k1, k2, rfl⟩ := concs_cons hc
      have hp : p < tmps.size := by rw [hs]; exact Nat.blt_eq ▸ h1
      obtain ⟨F', g1, g2, g3, g4⟩ := ih (tmps := tmps.setIfInBounds p x) h2 k2 (by simpa using hs) fun t u hu => by
        rw [T.get_set] at hu
        rw [Array.getD_eq_getD_getElem?]
        split at hu
        · rename_i he; subst he; cases hu; simp [hp, k1]
        · rename_i he; rw [Array.getElem?_setIfInBounds_ne he, ← Array.getD_eq_getD_getElem?]; exact hg t u hu
      exact ⟨F', g1, by simp [g2], g3, g4⟩

abbrev RUN := Nat → Code → Fr → AH → KN → KX → KN → Bool
noncomputable def rdK (code : RUN) : RD := fun id args A k => match A.heap.get id with
  | some (.loop true n F ps as bd) => setPs n ps args F fun F1 => code n as ⟨F1, []⟩ A (fun F2 A2 => loopBusy A2 id fun A3 =>
      code n bd F2 A3 (fun _ A4 => loopReady A4 id fun A5 => k (.bool true) A5) (fun _ _ _ => false) (fun _ _ => false)) (fun _ _ _ => false) (fun _ _ => false)
  | _ => false

def RunOk [Amb] (P : Program) (code : RUN) : Prop := ∀ (Φ : Fence) (_ : Wide Φ) (n : Nat) (c : Code) (E : Env) (A : AH) (W : World) (F : Fr) (a : Act) (kn : KN) (kx : KX) (kr : KN), Rel E A W → FRel E n F a →
    code n c F A kn kx kr = true → c.wpIn Φ 0 P (PostX E A W n kn kx kr) a W

theorem rdK_sound [Amb] {code : RUN} (hcode : RunOk P code) : RdOk P (rdK code) := by
  intro id args A k h E W args' x hr hargs hx
  unfold rdK at h
  split at h
  case h_2 => cases h
  rename_i n F ps as bd hg
  obtain ⟨r, q1, q2, q3, q4, q5, q6, q7, q8⟩ := loop_obj hr hg hx
  obtain ⟨F1, g1, g2, g3, g4⟩ := setPs_spec h hargs q4 q5
  subst q6 q7 q8
  have hfold : (r.params.zip args'.toArray).foldl (fun tmps (t, a) => tmps.setIfInBounds t a) r.tmps = (r.params.toList.zip args').foldl (fun tmps (t, a) => tmps.setIfInBounds t a) r.tmps := by
    rw [← Array.foldl_toList, Array.toList_zip]
  refine ⟨r, q1, by rw [← g2]; simp, ?_⟩
  rw [hfold]
  refine roundIn_of_wpIn trivial ?_
  refine wpIn_mono (hcode _ (Wide.inRound x.1) n r.assign E A W ⟨F1, []⟩ _ _ _ _ hr ⟨g3, .nil, g4⟩ g1) fun e a1 w1 hp => ?_
  cases e with
  | exit i => obtain ⟨_, _, _, h1, _⟩ := hp; cases h1
  | ret => obtain ⟨_, _, _, h1, _⟩ := hp; cases h1
  | goto l => exact hp.elim
  | panic c => exact hp.elim
  | outgrown => exact hp.elim
  | normal =>
    obtain ⟨F2, A2, E2, p1, p2, p3, p4⟩ := hp
    unfold loopBusy at p1
    dsimp only at p1
    split at p1
    case h_2 => cases p1
    rename_i n' F' ps' as' bd' hg2
    have hx2 := p4.le.blk _ _ hx
    obtain ⟨r2, m1, m2, m3, m4⟩ := loop_obj p3 hg2 hx2
    obtain ⟨w1', w2'⟩ := writeObj p3 (o' := .loop false n' F' ps' as' bd') (c' := .loop { r2 with state := .busy }) hg2 hx2 m1 (by simp only [ObjRel]; exact ⟨rfl, m3, m4⟩)
    refine ⟨_, run_beginRound m1 (by rw [m2]; rfl), ?_⟩
    refine wpIn_mono (hcode _ (Wide.inRound x.1) n r.body E2 _ _ F2 a1 _ _ _ w1' p2 p1) fun e a3 w3 hp3 => ?_
    cases e with
    | exit i => obtain ⟨_, _, _, h1, _⟩ := hp3; cases h1
    | ret => obtain ⟨_, _, _, h1, _⟩ := hp3; cases h1
    | goto l => exact hp3.elim
    | panic c => exact hp3.elim
    | outgrown => exact hp3.elim
    | normal =>
      obtain ⟨F4, A4, E4, t1, t2, t3, t4⟩ := hp3
      unfold loopReady at t1
      dsimp only at t1
      split at t1
      case h_2 => cases t1
      rename_i n'' F'' ps'' as'' bd'' hg4
      have hx4 := t4.le.blk _ _ hx2
      obtain ⟨r4, y1, y2, y3, y4⟩ := loop_obj t3 hg4 hx4
      obtain ⟨v1, v2⟩ := writeObj t3 (o' := .loop true n'' F'' ps'' as'' bd'') (c' := .loop { r4 with state := if (none : Option Code).isNone then .ready else .done, pending := none }) hg4 hx4 y1 (⟨rfl, rfl, y4⟩)
      exact ⟨_, _, run_endRound none y1, _, rfl, .bool true, _, E4, t1, rfl, v1, p4.trans (w2'.trans (t4.trans v2))⟩

/-! ### Calls -/
noncomputable def argF (l : List AV) (j : Nat) (F : T AV) : T AV := List.rec (motive := fun _ => Nat → T AV → T AV) (fun _ F => F) (fun v _ ih j F => ih (Nat.succ j) (F.set j v)) l j F

theorem argF_get : ∀ (l : List AV) (j : Nat) (F : T AV) (t : Nat) (v : AV), (argF l j F).get t = some v → (∃ m, l[m]? = some v ∧ t = j + m) ∨ F.get t = some v := by
  intro l
  induction l with
  | nil => intro j F t v h; exact .inr h
  | cons x l ih =>
    intro j F t v h
    have h' : (argF l (j + 1) (F.set j x)).get t = some v := h
    rcases ih _ _ _ _ h' with ⟨m, h1, h2⟩ | h1
    · exact .inl ⟨m + 1, by simpa using h1, by omega⟩
    · rw [T.get_set] at h1
      split at h1
      · rename_i he; cases h1; exact .inl ⟨0, rfl, he.symm⟩
      · exact .inr h1

noncomputable def resV (P : Program) (F : T AV) (A : AH) (r : ResultVar) : Option AV := match r with
  | .tmp t => F.get t
  | .cell a t => (match F.get a with | some x => loadA P t x A | none => none)
noncomputable def resVs (P : Program) (F : T AV) (A : AH) (l : List ResultVar) : Option (List AV) := List.rec (motive := fun _ => Option (List AV)) (some [])
  (fun r _ ih => match resV P F A r with
    | some v => (match ih with | some vs => some (v :: vs) | none => none)
    | none => none) l
noncomputable def retV (P : Program) (l : List ResultVar) (k : AV → AH → Bool) (F : T AV) (A : AH) : Bool := match resVs P F A l with
  | some vs => (match vs with
    | [v] => k v A
    | vs => k (.tuple vs) A)
  | none => false
noncomputable def unmark (ds : List Nat) (A : AH) (k : AH → Bool) : Bool := List.rec (motive := fun _ => AH → Bool) k
  (fun i _ ih A => match A.heap.get i with | some .defer => ih ⟨A.heap.del i, A.next⟩ | _ => false) ds A
noncomputable def retK (P : Program) (l : List ResultVar) (k : AV → AH → Bool) (F : Fr) (A : AH) : Bool := unmark F.ds A fun A => retV P l k F.t A

noncomputable def runK (P : Program) (cf : HK) (rf : HK → Nat → RF) (lf : Nat) : RUN := fun n c => codeK P cf n (rf cf n) (loopK P cf n (rf cf n) lf) c
noncomputable def funcK (P : Program) (FT : T Func) (cf : HK) (lf : Nat) (f : FuncId) (args : List AV) (A : AH) (k : AV → AH → Bool) : Bool := match FT.get f with
  | some fn => (match fn.body with
    | some c => cond (Nat.ble (llen args) fn.ntmps) (runK P cf rfK lf fn.ntmps c ⟨argF args 0 .e, []⟩ A (retK P fn.results.toList k) (fun _ _ _ => false) (retK P fn.results.toList k)) false
    | none => false)
  | none => false

/-- One result, as the model reads it. -/
def resS (tmps : Array Value) (r : ResultVar) : Sem Value := match r with
  | .tmp t => pure (tmps.getD t undef)
  | .cell x t => do loadVar t (← asAddr (tmps.getD x undef))
theorem results_eq (fn : Func) (tmps : Array Value) : results fn tmps = (do
    let vs ← fn.results.mapM (resS tmps)
    pure (if h : vs.size = 1 then vs[0] else .tuple vs)) := by
  have e : (fun r : ResultVar => (match r with
      | .tmp t => pure (tmps.getD t undef)
      | .cell x t => do loadVar t (← asAddr (tmps.getD x undef)) : Sem Value)) = resS tmps := by funext r; cases r <;> rfl
  rw [← e]
  rfl

def GetRel (E : Env) (F : T AV) (tmps : Array Value) : Prop := ∀ t v, F.get t = some v → conc E v = some (tmps.getD t undef)

theorem resV_run [Amb] {E : Env} {A : AH} {W : World} {F : T AV} {tmps : Array Value} (hr : Rel E A W) (hf : GetRel E F tmps) {r : ResultVar} {v : AV} (h : resV P F A r = some v) :
    ∃ v', conc E v = some v' ∧ (resS tmps r).run P W = .ok v' W := by
  cases r with
  | tmp t => exact ⟨_, hf t v h, rfl⟩
  | cell x t =>
    unfold resV at h
    simp only at h
    split at h
    case h_2 => cases h
    rename_i y hy
    have hc := hf x y hy
    obtain ⟨addr, v', g1, g2, g3⟩ := loadVar_run (P := P) hr h hc
    refine ⟨v', g2, ?_⟩
    show (do loadVar t (← asAddr (tmps.getD x undef)) : Sem Value).run P W = _
    rw [g1]
    simp [asAddr, g3]

theorem resVs_run [Amb] {E : Env} {A : AH} {W : World} {F : T AV} {tmps : Array Value} (hr : Rel E A W) (hf : GetRel E F tmps) : ∀ {l : List ResultVar} {vs : List AV}, resVs P F A l = some vs →
    ∃ vs', concs E vs = some vs' ∧ (l.mapM (resS tmps)).run P W = .ok vs' W := by
  intro l
  induction l with
  | nil => intro vs h; cases h; exact ⟨[], rfl, rfl⟩
  | cons r l ih =>
    intro vs h
    have h' : (match resV P F A r with
      | some v => (match resVs P F A l with | some vs => some (v :: vs) | none => none)
      | none => none) = some vs := h
    split at h'
    case h_2 => cases h'
    rename_i v hv
    split at h'
    case h_2 => cases h'
    rename_i us hus
    cases h'
    obtain ⟨v', g1, g2⟩ := resV_run (P := P) hr hf hv
    obtain ⟨us', g3, g4⟩ := ih hus
    refine ⟨v' :: us', by simp [concs, g1, g3], ?_⟩
    rw [List.mapM_cons, Sem.run_bind, g2, Result.andThen_ok, Sem.run_bind, g4, Result.andThen_ok]
    rfl

theorem retV_run [Amb] {E : Env} {A : AH} {W : World} {F : T AV} {tmps : Array Value} {fn : Func} {k : AV → AH → Bool} (hr : Rel E A W) (hf : GetRel E F tmps) (h : retV P fn.results.toList k F A = true) :
    ∃ av v, k av A = true ∧ conc E av = some v ∧ (results fn tmps).run P W = .ok v W := by
  unfold retV at h
  split at h
  case h_2 => cases h
  rename_i vs hvs
  obtain ⟨vs', g1, g2⟩ := resVs_run (P := P) hr hf hvs
  have hlen := concs_length g1
  have hres : (results fn tmps).run P W = .ok (if h : vs'.toArray.size = 1 then vs'.toArray[0] else .tuple vs'.toArray) W := by
    rw [results_eq, Sem.run_bind, Array.mapM_eq_mapM_toList]
    simp only [Sem.run_map, g2, Result.andThen_ok, Sem.run_pure]
  split at h
  · rename_i v
    obtain ⟨x, _, k1, k2, k3⟩ := concs_cons g1
    have := concs_nil k2; subst this; subst k3
    exact ⟨v, x, h, k1, by rw [hres]; simp⟩
  · rename_i hne
    refine ⟨.tuple vs, .tuple vs'.toArray, h, by simp [conc, g1], ?_⟩
    rw [hres]
    have : ¬ vs'.toArray.size = 1 := by
      intro hs
      have hl : vs.length = 1 := by rw [← hlen]; simpa using hs
      obtain ⟨v, hv⟩ := List.length_eq_one_iff.1 hl
      exact hne v hv
    rw [dif_neg this]

theorem unmark_leaves [Amb] {E : Env} {fn : Func} {tmps : Array Value} {R : Ending → World → Prop} {k : AH → Bool} : ∀ {ds : List Nat} {defers : List Deferred} {A : AH} {W : World}, F2 (Mark E) ds defers → Rel E A W → unmark ds A k = true →
    (∀ A' W', k A' = true → Rel E A' W' → Step E A W E A' W' → LeavesIn Fence.wide 0 P fn tmps R [] .returning W') → LeavesInM Fence.wide 0 P fn tmps R defers .returning W := by
  intro ds
  induction ds with
  | nil => intro defers A W hm hr h hk; cases hm; exact hk A W h hr (Step.refl _ _ _)
  | cons i ds ih =>
    intro defers A W hm hr h hk
    cases hm with
    | @cons _ d _ m h1 h2 =>
    obtain ⟨x, hx, rfl⟩ := h1
    have h' : (match A.heap.get i with | some .defer => unmark ds ⟨A.heap.del i, A.next⟩ k | _ => false) = true := h
    split at h'
    case h_2 => cases h'
    rename_i hg
    obtain ⟨b, hb, hrel⟩ := hr.obj i _ x hg hx
    cases b <;> simp only [ObjRel] at hrel
    subst hrel
    obtain ⟨g1, g2⟩ := hr.gone hg hx (.deferred none)
    refine ⟨by simp, .inl ⟨x.1, _, rfl, run_takeDeferred hb, ih h2 g1 h' fun A' W' q1 q2 q3 => hk A' W' q1 q2 (g2.trans q3)⟩⟩

theorem runK_sound [Amb] (hw : PWF P) (hcf : HkOk P cf) {lf : Nat} : RunOk P (runK P cf (fun _ _ => rfNo) lf) :=
  fun _ hΦ _ c E A W F a kn kx kr hr hf h => codeK_sound hΦ hw hcf rfNo_sound (loopK_sound hΦ hw hcf rfNo_sound lf) c E A W F a kn kx kr hr hf h

theorem funcK_sound [Amb] (hw : PWF P) {FT : T Func} (hFT : ∀ f fn, FT.get f = some fn → P.funcs[f]? = some fn) (hcf : HkOk P cf) {lf : Nat} : CallOk P (funcK P FT cf lf) := by
  intro f args A k h
  unfold funcK at h
  split at h
  case h_2 => cases h
  rename_i fn hfn
  split at h
  case h_2 => cases h
  rename_i c hc
  obtain ⟨h1, h2⟩ := cond_some' h
  intro E W args' hr hargs
  refine ⟨⟨fn, hFT f fn hfn, by rw [hc]; rfl⟩, ?_⟩
  refine callsIn_wide.1 (callsIn_of_wp_marks (n := 0) (hFT f fn hfn) hc trivial ?_)
  have hlen : args'.length = args.length := concs_length hargs
  have hle : args.length ≤ fn.ntmps := by rw [llen_eq] at h1; exact Nat.le_of_ble_eq_true h1
  have hf : FRel E fn.ntmps ⟨argF args 0 .e, []⟩ { tmps := args'.toArray ++ Array.replicate (fn.ntmps - args'.toArray.size) undef, defers := [] } := by
    refine ⟨by simp; omega, .nil, fun t v hv => ?_⟩
    rcases argF_get _ _ _ _ _ hv with ⟨m, g1, g2⟩ | g1
    · rw [Nat.zero_add] at g2; subst g2
      obtain ⟨x, k1, k2⟩ := concs_get hargs g1
      rw [k1]
      have hm : t < args'.length := (List.getElem?_eq_some_iff.1 k2).1
      rw [Array.getD_eq_getD_getElem?, Array.getElem?_append_left (by simpa using hm)]
      simp [k2]
    · rw [T.get_e] at g1; cases g1
  refine wpIn_mono (codeK_sound Wide.wide hw hcf (rfK_sound hw hcf) (loopK_sound Wide.wide hw hcf (rfK_sound hw hcf) lf) c E A W _ _ _ _ _ hr hf h2) fun e a' w' hp => ?_
  have done : PostC E A W fn.ntmps (retK P fn.results.toList k) a' w' → LeavesInM Fence.wide 0 P fn a'.tmps (fun e W' => ∃ u, e = .returned u ∧ Post E A W k u W') a'.defers .returning w' := by
    rintro ⟨F1, A1, E1, k1, k2, k3, k4⟩
    refine unmark_leaves k2.defers k3 k1 fun A' W' q1 q2 q3 => ?_
    obtain ⟨av, v, m1, m2, m3⟩ := retV_run q2 k2.get q1
    exact ⟨v, m3, v, rfl, av, A', E1, m1, m2, q2, k4.trans q3⟩
  cases e with
  | normal => exact done hp
  | ret => exact done hp
  | exit id => obtain ⟨F1, A1, E1, k1, _⟩ := hp; cases k1
  | goto l => exact hp.elim
  | panic c => exact hp.elim
  | outgrown => exact hp.elim

/-- Calls, some by contracts of their own. -/
noncomputable def hkF (P : Program) (FT : T Func) (has : Nat → Bool) (sm : CF) (lf : Nat) (m : Nat) : HK := Nat.rec (motive := fun _ => HK) ⟨fun _ _ _ _ => false, fun _ _ _ _ => false⟩
  (fun _ ih => ⟨fun f args A k => cond (has f) (sm f args A k) (funcK P FT ih lf f args A k), rdK (runK P ih (fun _ _ => rfNo) lf)⟩) m
noncomputable def callF (P : Program) (FT : T Func) (has : Nat → Bool) (sm : CF) (lf : Nat) (m : Nat) : CF := (hkF P FT has sm lf m).cf

theorem hkF_sound [Amb] (hw : PWF P) {FT : T Func} (hFT : ∀ f fn, FT.get f = some fn → P.funcs[f]? = some fn) {has : Nat → Bool} {sm : CF} (hsm : CallOk P sm) {lf : Nat} : ∀ m, HkOk P (hkF P FT has sm lf m) := by
  intro m
  induction m with
  | zero => exact { cf := fun f args A k h => Bool.noConfusion (show false = true from h), rd := fun f args A k h => Bool.noConfusion (show false = true from h) }
  | succ m ih =>
    refine { cf := ?_, rd := rdK_sound (runK_sound hw ih) }
    intro f args A k h
    have h' : cond (has f) (sm f args A k) (funcK P FT (hkF P FT has sm lf m) lf f args A k) = true := h
    cases hh : has f with
    | true => rw [hh, cond_true] at h'; exact hsm f args A k h'
    | false => rw [hh, cond_false] at h'; exact funcK_sound hw hFT ih f args A k h'
theorem callF_sound [Amb] (hw : PWF P) {FT : T Func} (hFT : ∀ f fn, FT.get f = some fn → P.funcs[f]? = some fn) {has : Nat → Bool} {sm : CF} (hsm : CallOk P sm) {lf m : Nat} : CallOk P (callF P FT has sm lf m) := (hkF_sound hw hFT hsm m).cf

theorem build_funcs (P : Program) : ∀ f fn, (T.build P.funcs.toList).get f = some fn → P.funcs[f]? = some fn := by
  intro f fn h
  have := T.build_get h
  rwa [Array.getElem?_toList] at this
end
end Go.PE
