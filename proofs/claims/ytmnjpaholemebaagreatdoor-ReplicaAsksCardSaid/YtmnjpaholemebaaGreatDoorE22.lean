/-
  THE ENGINE, 22: a function at the top: loops by what holds at each round's head (a number that is not known), calls out of a world.
-/
import Derived.Test.YtmnjpaholemebaaGreatDoorE21
import Derived.Below
namespace Go.PE
open Go

theorem cs' {c : Bool} {x : Bool} (h : cond c x false = true) : c = true ∧ x = true := by cases c <;> simp_all
theorem lall_eq' {α : Type} (p : α → Bool) (a : List α) : lall p a = true → ∀ x ∈ a, p x = true := lall_eq p a
theorem beq_self (i : Nat) : Nat.beq i i = true := Nat.beq_refl i

/-- What stays the same from one round to the next. -/
structure Same (N : Nat) (M : Nat → Option Obj) (V : Nat → Value) (am : Amb) : Prop where
  n0 : am.n0 = N
  mem : am.mem = M
  sv : am.sv = V
structure Good (W0 w : World) : Prop where
  os : w.os = W0.os
  tape : w.tape = W0.tape
  output : w.output = W0.output
theorem Good.step {W0 w w' : World} {E E' : Env} {A A' : AH} (h : Good W0 w) (s : Step E A w E' A' w') : Good W0 w' := ⟨s.os.trans h.os, s.tape.trans h.tape, s.output.trans h.output⟩

def PostT (N : Nat) (M : Nat → Option Obj) (V : Nat → Value) (G : (Nat → Int) → Prop) (W0 : World) (n : Nat) (k : KN) (a : Act) (w : World) : Prop :=
  ∃ (am : Unit → Amb) (F : Fr) (A : AH) (E : Env), k F A = true ∧ FRel E n F a ∧ @Rel (am ()) E A w ∧ Same N M V (am ()) ∧ Good W0 w ∧ G (am ()).sy
def PostXT (N : Nat) (M : Nat → Option Obj) (V : Nat → Value) (G : (Nat → Int) → Prop) (W0 : World) (n : Nat) (kn : KN) (kx : KX) (kr : KN) : Exit → Act → World → Prop
  | .normal, a, w => PostT N M V G W0 n kn a w
  | .exit id, a, w => PostT N M V G W0 n (kx id) a w
  | .ret, a, w => PostT N M V G W0 n kr a w
  | _, _, _ => False

section
variable {P : Program} {cf : HK} {n : Nat} {rf : RF} {N : Nat} {M : Nat → Option Obj} {V : Nat → Value} {G : (Nat → Int) → Prop} {W0 : World}

theorem PostC.top {am : Unit → Amb} {E : Env} {A : AH} {W : World} {k : KN} {a : Act} {w : World} (hs : Same N M V (am ())) (hg : Good W0 W) (hG : G (am ()).sy) (h : @PostC (am ()) E A W n k a w) : PostT N M V G W0 n k a w := by
  obtain ⟨F, A', E', h1, h2, h3, h4⟩ := h
  exact ⟨am, F, A', E', h1, h2, h3, hs, hg.step h4, hG⟩

def LpT (N : Nat) (M : Nat → Option Obj) (V : Nat → Value) (G : (Nat → Int) → Prop) (W0 : World) (P : Program) (n : Nat) (lp : LP) : Prop := ∀ (c : Code) (am : Unit → Amb) (E : Env) (A : AH) (W : World) (F : Fr) (a : Act) (kn : KN) (kx : KX) (kr : KN), Same N M V (am ()) → Good W0 W → G (am ()).sy → @Rel (am ()) E A W → FRel E n F a →
  lp c F A kn kx kr = true → (Code.loop c).wpIn Fence.wide 0 P (PostXT N M V G W0 n kn kx kr) a W
def RfT (N : Nat) (M : Nat → Option Obj) (V : Nat → Value) (P : Program) (n : Nat) (rf : RF) : Prop := ∀ (am : Unit → Amb), Same N M V (am ()) → @RfOk (am ()) Fence.wide P n rf
def CfT (N : Nat) (M : Nat → Option Obj) (V : Nat → Value) (P : Program) (cf : HK) : Prop := ∀ (am : Unit → Amb), Same N M V (am ()) → @HkOk (am ()) P cf

theorem codeT_sound (hw : PWF P) (hcf : CfT N M V P cf) (hrf : RfT N M V P n rf) {lp : LP} (hlp : LpT N M V G W0 P n lp) : ∀ (c : Code) (am : Unit → Amb) (E : Env) (A : AH) (W : World) (F : Fr) (a : Act) (kn : KN) (kx : KX) (kr : KN), Same N M V (am ()) → Good W0 W → G (am ()).sy → @Rel (am ()) E A W → FRel E n F a →
    codeK P cf n rf lp c F A kn kx kr = true → c.wpIn Fence.wide 0 P (PostXT N M V G W0 n kn kx kr) a W := by
  intro c
  induction c with
  | skip => intro am E A W F a kn kx kr hs hg hG hr hf h; exact wpIn_skip ⟨am, F, A, E, h, hf, hr, hs, hg, hG⟩
  | region id ops draw =>
    intro am E A W F a kn kx kr hs hg hG hr hf h
    letI := am ()
    have h' : cond draw (drawnK P cf n ops.toList (maskGo ops.toList 0 .e) F A kn) (plainK P cf n ops.toList ops.toList F A kn) = true := h
    cases draw with
    | false =>
      rw [cond_false] at h'
      refine wpIn_region ?_
      have := plainK_sound Wide.wide hw (hcf am hs) (Q := PostXT N M V G W0 n kn kx kr) ops.toList 0 (fun j => by rw [Array.getElem?_toList, Nat.zero_add]) hr hf h' fun a' W' hp => PostC.top hs hg hG hp
      rw [List.range_eq_range']
      simpa using this
    | true =>
      rw [cond_true] at h'
      obtain ⟨h1, h2⟩ := cs' h'
      obtain ⟨hv, h2⟩ := cs' h2
      obtain ⟨h2, h3⟩ := cs' h2
      have hlen : llen ops.toList = ops.size := by rw [llen_eq]; simp
      rw [hlen] at h2
      exact drawn_sound Wide.wide hw (hcf am hs) (okR_of h1) (varsOk_spec hv) hf hr h2 h3 fun a' W' hp => PostC.top hs hg hG hp
  | seq x y ihx ihy =>
    intro am E A W F a kn kx kr hs hg hG hr hf h
    have h' : codeK P cf n rf lp x F A (fun F A => codeK P cf n rf lp y F A kn kx kr) kx kr = true := h
    refine wpIn_seq (wpIn_mono (ihx am E A W F a _ kx kr hs hg hG hr hf h') fun e a' w' hp => ?_)
    cases e with
    | normal =>
      obtain ⟨am1, F1, A1, E1, h1, h2, h3, h4, h5, h6⟩ := hp
      exact ihy am1 E1 A1 w' F1 a' kn kx kr h4 h5 h6 h3 h2 h1
    | exit id => exact hp
    | ret => exact hp
    | goto l => exact hp
    | panic c => exact hp
    | outgrown => exact hp
  | cond c x y ihx ihy =>
    intro am E A W F a kn kx kr hs hg hG hr hf h
    letI := am ()
    have h' : condV (evO F.t c) (codeK P cf n rf lp x F A kn kx kr) (codeK P cf n rf lp y F A kn kx kr) = true := h
    unfold condV at h'
    split at h'
    case h_2 => cases h'
    rename_i b hb
    have := hf.opnds _ _ hb
    simp only [conc, Option.some.injEq] at this
    cases b with
    | true => exact wpIn_cond_true this.symm (ihx am E A W F a kn kx kr hs hg hG hr hf h')
    | false => exact wpIn_cond_false this.symm (ihy am E A W F a kn kx kr hs hg hG hr hf h')
  | block id x ih =>
    intro am E A W F a kn kx kr hs hg hG hr hf h
    have h' : codeK P cf n rf lp x F A kn (fun i F A => cond (Nat.beq i id) (kn F A) (kx i F A)) kr = true := h
    refine wpIn_block (wpIn_mono (ih am E A W F a _ _ kr hs hg hG hr hf h') fun e a' w' hp => ?_)
    cases e with
    | normal => exact hp
    | exit i =>
      obtain ⟨am1, F1, A1, E1, h1, h2⟩ := hp
      by_cases hi : i = id
      · subst hi
        simp only [Exit.inBlock, if_true]
        have : Nat.beq i i = true := beq_self i
        dsimp only at h1
        rw [this] at h1
        exact ⟨am1, F1, A1, E1, h1, h2⟩
      · simp only [Exit.inBlock, hi, if_false]
        have : Nat.beq i id = false := by
          cases hb : Nat.beq i id with
          | false => rfl
          | true => exact absurd (Nat.eq_of_beq_eq_true hb) hi
        dsimp only at h1
        rw [this] at h1
        exact ⟨am1, F1, A1, E1, h1, h2⟩
    | ret => exact hp
    | goto l => exact hp
    | panic c => exact hp
    | outgrown => exact hp
  | loop x _ => intro am E A W F a kn kx kr hs hg hG hr hf h; exact hlp x am E A W F a kn kx kr hs hg hG hr hf h
  | rangeFunc g ps as bd _ _ =>
    intro am E A W F a kn kx kr hs hg hG hr hf h
    letI := am ()
    refine wpIn_mono (hrf am hs g ps as bd E A W F a kn kx kr hr hf h) fun e a' w' hp => ?_
    cases e with
    | normal => exact PostC.top hs hg hG hp
    | exit i => exact PostC.top hs hg hG hp
    | ret => exact PostC.top hs hg hG hp
    | goto l => exact hp.elim
    | panic c => exact hp.elim
    | outgrown => exact hp.elim
  | exit id => intro am E A W F a kn kx kr hs hg hG hr hf h; exact wpIn_exit ⟨am, F, A, E, h, hf, hr, hs, hg, hG⟩
  | ret => intro am E A W F a kn kx kr hs hg hG hr hf h; exact wpIn_ret ⟨am, F, A, E, h, hf, hr, hs, hg, hG⟩
  | _ => intro am E A W F a kn kx kr hs hg hG hr hf h; cases h

/-! ### Loops that are run -/
theorem loopT_sound (hw : PWF P) (hcf : CfT N M V P cf) (hrf : RfT N M V P n rf) : ∀ m, LpT N M V G W0 P n (loopK P cf n rf m) := by
  intro m c am E A W F a kn kx kr hs hg hG hr hf h
  letI := am ()
  refine wpIn_mono (loopK_sound Wide.wide hw (hcf am hs) (hrf am hs) m c E A W F a kn kx kr hr hf h) fun e a' w' hp => ?_
  cases e with
  | normal => exact PostC.top hs hg hG hp
  | exit i => exact PostC.top hs hg hG hp
  | ret => exact PostC.top hs hg hG hp
  | goto l => exact hp.elim
  | panic c => exact hp.elim
  | outgrown => exact hp.elim

/-! ### Loops by what holds at each round's head -/
structure Alt where
  lo : Nat
  hi : Nat
  splits : List (Nat × Nat)
  st : Nat → Nat → St
structure LI where
  σ : Nat      -- the number's name
  ti : Nat     -- the slot in which it stands, as it is
  top : Nat
  next : Nat
  alts : List Alt

noncomputable def bdOf (L : LI) (F : Fr) : Option (Bd × Nat × Nat) := match F.t.get L.ti with
  | some (.int _ (.ofNat n)) => some (⟨true, n⟩, n, n)
  | some (.symi _ s) => cond (Nat.beq s.name L.σ) (cond (plainS s) (some (⟨false, s.c⟩, s.bot, s.top)) none) none
  | _ => none
noncomputable def covers (hi : Nat) (l : List (Nat × Nat)) : Nat → Bool := List.rec (motive := fun _ => Nat → Bool) (fun x => Nat.beq x (Nat.succ hi))
  (fun p _ ih x => cond (Nat.beq p.1 x) (cond (Nat.ble p.1 p.2) (ih (Nat.succ p.2)) false) false) l
noncomputable def inAlt (L : LI) (F : Fr) (A : AH) (b : Bd × Nat × Nat) (al : Alt) : Bool :=
  cond (Nat.ble al.lo b.2.1) (cond (Nat.ble b.2.2 al.hi) (lall (fun sp => sim L.σ sp.1 sp.2 b.1 L.next (al.st sp.1 sp.2) F A) al.splits) false) false
noncomputable def lany {α : Type} (p : α → Bool) (a : List α) : Bool := List.rec (motive := fun _ => Bool) false (fun x _ ih => cond (p x) true ih) a
noncomputable def anyAlt (L : LI) (F : Fr) (A : AH) : Bool := match bdOf L F with
  | some b => lany (inAlt L F A b) L.alts
  | none => false
noncomputable def moved (L : LI) (al : Alt) (F : Fr) : Bool := match bdOf L F with
  | some b => cond b.1.lit (Nat.blt al.hi b.1.v) (Nat.ble 1 b.1.v)
  | none => false
/-- One round, from what holds at its head. -/
noncomputable def bodyChk (P : Program) (cf : HK) (n : Nat) (rf : RF) (lp : LP) (L : LI) (c : Code) (kx : KX) (kr : KN) (al : Alt) (sp : Nat × Nat) : Bool :=
  codeK P cf n rf lp c (al.st sp.1 sp.2).F ((al.st sp.1 sp.2).A L.next) (fun F A => cond (moved L al F) (anyAlt L F A) false) kx kr
noncomputable def altOk (L : LI) : Bool := lall (fun al => cond (covers al.hi al.splits al.lo) (Nat.ble al.hi L.top) false) L.alts
noncomputable def lpInv (P : Program) (cf : HK) (n : Nat) (rf : RF) (lp : LP) (L : LI) : LP := fun c F A _ kx kr =>
  cond (anyAlt L F A) (cond (altOk L) (lall (fun al => lall (bodyChk P cf n rf lp L c kx kr al) al.splits) L.alts) false) false

theorem lany_eq {α : Type} (p : α → Bool) (a : List α) : lany p a = true → ∃ x ∈ a, p x = true := by
  induction a with
  | nil => intro h; cases h
  | cons x a ih =>
    intro h
    have h' : cond (p x) true (lany p a) = true := h
    cases hp : p x with
    | true => exact ⟨x, by simp, hp⟩
    | false =>
      rw [hp, cond_false] at h'
      obtain ⟨y, h1, h2⟩ := ih h'
      exact ⟨y, by simp [h1], h2⟩
theorem covers_get (hi : Nat) : ∀ (l : List (Nat × Nat)) (x : Nat), covers hi l x = true → ∀ v, x ≤ v → v ≤ hi → ∃ p ∈ l, p.1 ≤ v ∧ v ≤ p.2 := by
  intro l
  induction l with
  | nil =>
    intro x h v h1 h2
    have h' : Nat.beq x (Nat.succ hi) = true := h
    have := Nat.eq_of_beq_eq_true h'
    omega
  | cons p l ih =>
    intro x h v h1 h2
    have h' : cond (Nat.beq p.1 x) (cond (Nat.ble p.1 p.2) (covers hi l (Nat.succ p.2)) false) false = true := h
    obtain ⟨k1, k2⟩ := cs' h'
    obtain ⟨k2, k3⟩ := cs' k2
    have k1 := Nat.eq_of_beq_eq_true k1
    by_cases hv : v ≤ p.2
    · exact ⟨p, by simp, by omega, hv⟩
    · obtain ⟨q, q1, q2⟩ := ih _ k3 v (by omega) h2
      exact ⟨q, by simp [q1], q2⟩

/-- The head of a round. -/
def HeadI (N : Nat) (M : Nat → Option Obj) (V : Nat → Value) (G : (Nat → Int) → Prop) (W0 : World) (n : Nat) (L : LI) (m : Nat) (a : Act) (w : World) : Prop :=
  ∃ (al : Alt) (sp : Nat × Nat) (am : Unit → Amb) (E : Env) (x : Nat), al ∈ L.alts ∧ sp ∈ al.splits ∧ FRel E n (al.st sp.1 sp.2).F a ∧ @Rel (am ()) E ((al.st sp.1 sp.2).A L.next) w ∧ Same N M V (am ()) ∧ Good W0 w ∧ G (am ()).sy ∧
    (am ()).sy L.σ = x ∧ sp.1 ≤ x ∧ x ≤ sp.2 ∧ x ≤ al.hi ∧ m = L.top - x

theorem head_of {L : LI} (hG : ∀ s s' : Nat → Int, (∀ nm, nm < 1000 → nm ≠ L.σ → s' nm = s nm) → G s → G s') {am : Unit → Amb} {E : Env} {A : AH} {w : World} {F : Fr} {a : Act} (hc : ∀ al ∈ L.alts, covers al.hi al.splits al.lo = true) (hs : Same N M V (am ())) (hg : Good W0 w) (hGa : G (am ()).sy) (hr : @Rel (am ()) E A w) (hf : FRel E n F a) (h : anyAlt L F A = true) :
    ∃ (b : Bd × Nat × Nat) (x : Nat), bdOf L F = some b ∧ b.1.val ((am ()).sy L.σ) = (x : Int) ∧ (∃ al ∈ L.alts, x ≤ al.hi) ∧ HeadI N M V G W0 n L (L.top - x) a w := by
  letI := am ()
  unfold anyAlt at h
  split at h
  case h_2 => cases h
  rename_i b hb
  obtain ⟨al, hal, h⟩ := lany_eq _ _ h
  unfold inAlt at h
  obtain ⟨h1, h⟩ := cs' h
  obtain ⟨h2, h3⟩ := cs' h
  have h1 := Nat.le_of_ble_eq_true h1
  have h2 := Nat.le_of_ble_eq_true h2
  have hEn : E.sy = (am ()).sy := hr.names.1
  have key : ∃ x : Nat, b.1.val ((am ()).sy L.σ) = (x : Int) ∧ b.2.1 ≤ x ∧ x ≤ b.2.2 := by
    unfold bdOf at hb
    split at hb
    · rename_i k q hq
      cases hb
      exact ⟨q, rfl, Nat.le_refl _, Nat.le_refl _⟩
    · rename_i k s hq
      obtain ⟨hn, hb⟩ := cond_some hb
      obtain ⟨hp, hb⟩ := cond_some hb
      cases hb
      have hnm := Nat.eq_of_beq_eq_true hn
      have hcc := hf.get _ _ hq
      obtain ⟨hok, _⟩ := conc_symi hcc
      obtain ⟨q, e0, e1, e2, e, b1, b2⟩ := Sy.nat hok
      obtain ⟨p1, _, _⟩ := plainS_val hp E.sy
      rw [hnm, hEn] at p1
      refine ⟨s.k * q + s.c, ?_, b1, b2⟩
      show (am ()).sy L.σ + (s.c : Int) = _
      rw [← e, hEn, p1]
    · cases hb
  obtain ⟨x, hx, hx1, hx2⟩ := key
  obtain ⟨sp, hsp, s1, s2⟩ := covers_get _ _ _ (hc al hal) x (by omega) (by omega)
  have hsim := lall_eq _ _ h3 sp hsp
  obtain ⟨am2, E2, m1, m2, m3, m4, m5, r2, f2⟩ := regain (σ := L.σ) (lo := sp.1) (hi := sp.2) (b := b.1) (next := L.next) (x := (x : Int)) hx (by omega) (by omega) hr hf hsim
  exact ⟨b, x, hb, hx, ⟨al, hal, by omega⟩, al, sp, am2, E2, x, hal, hsp, f2, r2, ⟨m1.trans hs.n0, m2.trans hs.mem, m3.trans hs.sv⟩, hg, hG _ _ (fun nm hlt hne => m4 nm hlt hne) hGa, m5, s1, s2, by omega, rfl⟩

theorem loop_of (hw : PWF P) (hcf : CfT N M V P cf) (hrf : RfT N M V P n rf) {lp : LP} (hlp : ∀ G, LpT N M V G W0 P n lp) (L : LI) (hGu : ∀ s s' : Nat → Int, (∀ nm, nm < 1000 → nm ≠ L.σ → s' nm = s nm) → G s → G s') {c : Code} {kx : KX} {kr : KN}
    (hok : altOk L = true) (hbody : ∀ al ∈ L.alts, ∀ sp ∈ al.splits, bodyChk P cf n rf lp L c kx kr al sp = true) {am : Unit → Amb} {E : Env} {A : AH} {W : World} {F : Fr} {a : Act} {kn : KN} (hs : Same N M V (am ())) (hg : Good W0 W) (hG : G (am ()).sy) (hr : @Rel (am ()) E A W) (hf : FRel E n F a)
    (h1 : anyAlt L F A = true) : (Code.loop c).wpIn Fence.wide 0 P (PostXT N M V G W0 n kn kx kr) a W := by
  have hc : ∀ al ∈ L.alts, covers al.hi al.splits al.lo = true ∧ al.hi ≤ L.top := by
    intro al hal
    have := lall_eq _ _ hok al hal
    obtain ⟨g1, g2⟩ := cs' this
    exact ⟨g1, Nat.le_of_ble_eq_true g2⟩
  obtain ⟨b0, x0, _, _, _, hI0⟩ := head_of (G := G) hGu (fun al hal => (hc al hal).1) hs hg hG hr hf h1
  refine wpIn_loop_ghost (fun m a' w' => HeadI N M V G W0 n L m a' w') _ hI0 (fun m a' w' hI => ?_)
  obtain ⟨al, sp, am1, E1, x, k1, k2, k3, k4, k5, k6, k6', k7, k8, k9, k10, rfl⟩ := hI
  obtain ⟨q1, q2⟩ := hc al k1
  have weak : ∀ {k : KN} {a2 : Act} {w2 : World}, PostT N M V (fun s => s L.σ = (x : Int) ∧ G s) W0 n k a2 w2 → PostT N M V G W0 n k a2 w2 := by
    rintro k a2 w2 ⟨am3, F3, A3, E3, g1, g2, g3, g4, g5, g6⟩
    exact ⟨am3, F3, A3, E3, g1, g2, g3, g4, g5, g6.2⟩
  refine wpIn_mono (codeT_sound (G := fun s => s L.σ = (x : Int) ∧ G s) hw hcf hrf (hlp _) c am1 E1 _ w' _ a' _ kx kr k5 k6 ⟨k7, k6'⟩ k4 k3 (hbody al k1 sp k2)) fun e a2 w2 hp => ?_
  cases e with
  | normal =>
    obtain ⟨am3, F3, A3, E3, g1, g2, g3, g4, g5, g6, g7⟩ := hp
    obtain ⟨m1, m2⟩ := cs' g1
    obtain ⟨b, y, y1, y2, ⟨al2, z1, z2⟩, y3⟩ := head_of (G := G) hGu (fun al hal => (hc al hal).1) g4 g5 g7 g3 g2 m2
    refine ⟨_, ?_, y3⟩
    unfold moved at m1
    rw [y1] at m1
    have m1 : cond b.1.lit (Nat.blt al.hi b.1.v) (Nat.ble 1 b.1.v) = true := m1
    rw [g6] at y2
    obtain ⟨⟨lt, v⟩, r1, r2⟩ := b
    have := (hc al2 z1).2
    cases lt with
    | true =>
      have m1 := blt_iff (show Nat.blt al.hi v = true from m1)
      have y2 : (v : Int) = y := y2
      omega
    | false =>
      have m1 := Nat.le_of_ble_eq_true (show Nat.ble 1 v = true from m1)
      have y2 : (x : Int) + (v : Int) = y := y2
      omega
  | exit id => exact weak hp
  | ret => exact weak hp
  | goto l => exact hp
  | panic c => exact hp
  | outgrown => exact hp

theorem lpInv_sound (hw : PWF P) (hcf : CfT N M V P cf) (hrf : RfT N M V P n rf) {lp : LP} (hlp : ∀ G, LpT N M V G W0 P n lp) (L : LI) (hGu : ∀ s s' : Nat → Int, (∀ nm, nm < 1000 → nm ≠ L.σ → s' nm = s nm) → G s → G s') : LpT N M V G W0 P n (lpInv P cf n rf lp L) := by
  intro c am E A W F a kn kx kr hs hg hG hr hf h
  unfold lpInv at h
  obtain ⟨h1, h2⟩ := cs' h
  obtain ⟨h2, h3⟩ := cs' h2
  exact loop_of hw hcf hrf hlp L hGu h2 (fun al hal sp hsp => lall_eq _ _ (lall_eq _ _ h3 al hal) sp hsp) hs hg hG hr hf h1
end
end Go.PE
