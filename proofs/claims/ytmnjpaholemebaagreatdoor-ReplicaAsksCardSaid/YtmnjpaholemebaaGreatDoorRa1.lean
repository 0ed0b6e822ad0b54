/-
  Arrays of six uint8 that can be read as data bear what Au asks; so ReplicaAsks returns true for every input, handed as data.
-/
import Derived.Test.YtmnjpaholemebaaGreatDoorRows
import Derived.Test.YtmnjpaholemebaaGreatDoorAu
import Derived.ProofKit
import Derived.LaidMore
import Derived.OpenShut
import Derived.Stop.Joined
namespace Go.Proofs.YtmnjpaholemebaaGreatDoor
open Go.ChangeShapes Go.WideShapes Go.ChangeAt Go.WideMaps Go.WideElems Go.RowKit
theorem replicaAsksOwn : ownKnob Tryz.prog.godebug = none := by kernel_rfl
theorem replicaAsksLaidOut : laidOutB Tryz.prog = true := by kernel_rfl
theorem replicaAsksC5 : Tryz.prog.cellsOf 5 = 1 := by kernel_rfl
theorem replicaAsksC72 : Tryz.prog.cellsOf 72 = 6 := by kernel_rfl

section
variable {H : Type} {enc : TypeId × Value → H} {W : World} {base : Nat} {spare : Nat → Bool} {held : Bool} {fuel : Nat} {x : DataW H × List MemPlace}
theorem wf_u8 {a : Int} (h : (Lit.int .u8 a).wf = true) : 0 ≤ a ∧ a ≤ 255 := by simpa [Lit.wf, IntKind.min, IntKind.max, IntKind.signed, IntKind.bits] using h
theorem open_six {cs : List Value} (h : DataW.trod enc Tryz.prog W base spare held fuel 72 cs = some x) :
    ∃ a0 a1 a2 a3 a4 a5 : Int, cs = [.int .u8 a0, .int .u8 a1, .int .u8 a2, .int .u8 a3, .int .u8 a4, .int .u8 a5] ∧ ∀ z ∈ [a0, a1, a2, a3, a4, a5], 0 ≤ z ∧ z ≤ 255 := by
  obtain ⟨xs, m, _, _, hlen, hl, hf⟩ := DataW.trod_array Tryz.underlying72 h
  rw [replicaAsksC72] at hlen
  rw [replicaAsksC5] at hf
  match cs, hlen with
  | [c0, c1, c2, c3, c4, c5], _ =>
    have F : ∀ i, i < 6 → ∃ y, DataW.trod enc Tryz.prog W base spare held m 5 (([c0, c1, c2, c3, c4, c5].drop (i * 1)).take 1) = some y := fun i hi =>
      ⟨xs[i]'(by omega), by rw [hf i hi]; exact List.getElem?_eq_getElem (by omega)⟩
    obtain ⟨_, g0⟩ := F 0 (by omega)
    obtain ⟨_, g1⟩ := F 1 (by omega)
    obtain ⟨_, g2⟩ := F 2 (by omega)
    obtain ⟨_, g3⟩ := F 3 (by omega)
    obtain ⟨_, g4⟩ := F 4 (by omega)
    obtain ⟨_, g5⟩ := F 5 (by omega)
    have I : ∀ {v : Value} {y : DataW H × List MemPlace}, DataW.trod enc Tryz.prog W base spare held m 5 [v] = some y → ∃ a : Int, v = .int .u8 a ∧ 0 ≤ a ∧ a ≤ 255 := by
      intro v y hv
      obtain ⟨n, h1, _, h2⟩ := DataW.trod_int Tryz.underlying5 hv
      simp only [List.cons.injEq, and_true] at h1
      exact ⟨n, h1, wf_u8 h2⟩
    obtain ⟨a0, rfl, r0⟩ := I g0
    obtain ⟨a1, rfl, r1⟩ := I g1
    obtain ⟨a2, rfl, r2⟩ := I g2
    obtain ⟨a3, rfl, r3⟩ := I g3
    obtain ⟨a4, rfl, r4⟩ := I g4
    obtain ⟨a5, rfl, r5⟩ := I g5
    refine ⟨a0, a1, a2, a3, a4, a5, rfl, fun z hz => ?_⟩
    simp only [List.mem_cons, List.not_mem_nil, or_false] at hz
    rcases hz with rfl | rfl | rfl | rfl | rfl | rfl
    · exact r0
    · exact r1
    · exact r2
    · exact r3
    · exact r4
    · exact r5
end

theorem replicaAsksMet (os : Os) (args : Array Value) : laidMetH Tryz.prog Rows.replicaAsksRow.laid ((World.doorLaid Tryz.prog 400 os).forCall (fun _ _ => 0) ⟨#[], args, []⟩).memory :=
  laidMetH_of_parts3 (fuel := 8) (laidMet_of_run' 8 (by kernel_rfl) (by kernel_rfl)) (by kernel_rfl) (by kernel_rfl)
def six : Value := .agg #[.int .u8 0, .int .u8 0, .int .u8 0, .int .u8 0, .int .u8 0, .int .u8 0]

set_option maxRecDepth 100000 in
theorem replicaAsksLifted (os : Os) (started : os.Started) (H : Type) (enc : TypeId × Value → H) :
    ReturnsInHanded {} Tryz.checked os 5 .any (fun w args => (Rows.replicaAsksSpec.pre enc Tryz.prog Tryz.f5 [] false w args ∧ laidMetH Tryz.prog Rows.replicaAsksRow.laid w) ∧ sizedMet enc Tryz.prog Tryz.f5 (OpenSpec.ofChange Rows.replicaAsksSpec) false w args)
      (Rows.replicaAsksSpec.post enc Tryz.prog Tryz.f5 false true false false) := by
  refine returnsInHanded_of_change_and (C := Tryz.checked) (X := fun w _ => laidMetH Tryz.prog Rows.replicaAsksRow.laid w) (fun _ _ _ hh h => h.of_heap hh) replicaAsksOwn started (by kernel_rfl) Tryz.func5
    (ChangeSpec.witness_shaped (enc := enc) (C := Tryz.checked) (os := os) (X := fun w _ => laidMetH Tryz.prog Rows.replicaAsksRow.laid w) false (World.doorLaid Tryz.prog 400 os) #[six, six, .int .u8 0] 8 rfl (World.shaped_of_RefB (by kernel_rfl) (by kernel_rfl)) (by kernel_rfl) (by kernel_rfl) (by kernel_rfl) (replicaAsksMet os _)) ?_
  intro W base args ds gs before hval0 hW _ _ hL _
  have hval : ∀ (j : Nat) t v, Tryz.f5.params[j]? = some t → args[j]? = some v → Value.okWide Tryz.prog W .any base t v := hval0
  have hW' := hW
  obtain ⟨p, q, hA0, hV, rfl, hfz, hnd⟩ := hW
  have hA : DataW.TrodAll enc Tryz.prog W 0 (fun _ => true) true Tryz.f5.params.toList args.toList ds p := hA0
  rw [Tryz.params5] at hA hval
  obtain ⟨v0, v1, v2, d0, d1, d2, p0, p1, p2, rfl, rfl, rfl, h0, h1, h2⟩ := trodAll_three hA
  obtain ⟨rfl, rfl⟩ := trodVars_none hV
  have h0k := h0
  have h1k := h1
  have hok0 := hval 0 72 v0 rfl rfl
  have hok1 := hval 1 72 v1 rfl rfl
  obtain ⟨o, rfl, rfl, rfl, wo⟩ := open_int Tryz.underlying5 (hval 2 5 v2 rfl rfl) h2
  have agg : ∀ {v : Value}, Value.okWide Tryz.prog W .any base 72 v → ∃ cs, v = .agg cs := by
    intro v hok
    unfold Value.okWide at hok
    rw [Tryz.underlying72] at hok
    obtain ⟨cs, h, _⟩ := hok
    exact ⟨cs, h⟩
  obtain ⟨cs0, rfl⟩ := agg hok0
  obtain ⟨cs1, rfl⟩ := agg hok1
  obtain ⟨f0, hm0⟩ := h0
  obtain ⟨f1, hm1⟩ := h1
  obtain ⟨a0, a1, a2, a3, a4, a5, hcs0, ha⟩ := open_six (show DataW.trod enc Tryz.prog W 0 (fun _ => true) true f0 72 cs0.toList = some _ from hm0)
  obtain ⟨b0, b1, b2, b3, b4, b5, hcs1, hb⟩ := open_six (show DataW.trod enc Tryz.prog W 0 (fun _ => true) true f1 72 cs1.toList = some _ from hm1)
  obtain ⟨l0⟩ := cs0
  obtain rfl : l0 = _ := hcs0
  obtain ⟨l1⟩ := cs1
  obtain rfl : l1 = _ := hcs1
  have hlt0 : ∀ x ∈ p0, x.block < W.heap.size := fun x hx => hW'.lt x (by simp [hx])
  have hlt1 : ∀ x ∈ p1, x.block < W.heap.size := fun x hx => hW'.lt x (by simp [hx])
  refine (PE.As.asks_any (a0 := a0) (a1 := a1) (a2 := a2) (a3 := a3) (a4 := a4) (a5 := a5) (b0 := b0) (b1 := b1) (b2 := b2) (b3 := b3) (b4 := b4) (b5 := b5) (o := o) ?_ W).mono ?_
  · intro z hz
    simp only [List.mem_cons, List.not_mem_nil, or_false] at hz
    rcases hz with h | h | h | h | h | h | h | h | h | h | h | h | h
    · subst h; exact ha _ (by simp)
    · subst h; exact ha _ (by simp)
    · subst h; exact ha _ (by simp)
    · subst h; exact ha _ (by simp)
    · subst h; exact ha _ (by simp)
    · subst h; exact ha _ (by simp)
    · subst h; exact hb _ (by simp)
    · subst h; exact hb _ (by simp)
    · subst h; exact hb _ (by simp)
    · subst h; exact hb _ (by simp)
    · subst h; exact hb _ (by simp)
    · subst h; exact hb _ (by simp)
    · subst h; exact wf_u8 wo
  rintro e W' ⟨rfl, bel⟩
  refine ⟨_, rfl, _, _, _, [], p0 ++ (p1 ++ []), [], hW', ?_, ?_, ?_, bel.frame _, fun h => by cases h⟩
  · exact trodAll_mk1 (shut_bool Tryz.underlying4 _)
  · exact trodAll_mk3 (Below.trod replicaAsksLaidOut (by kernel_rfl) (of_decide_eq_true (by kernel_rfl)) h0k bel hlt0) (Below.trod replicaAsksLaidOut (by kernel_rfl) (of_decide_eq_true (by kernel_rfl)) h1k bel hlt1) (shut_int Tryz.underlying5 wo)
  · rfl
end Go.Proofs.YtmnjpaholemebaaGreatDoor
