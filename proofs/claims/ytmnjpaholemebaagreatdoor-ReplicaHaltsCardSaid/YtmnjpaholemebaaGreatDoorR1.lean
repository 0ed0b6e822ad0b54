/-
  A message that can be read as data bears what Hb asks; so ReplicaHalts returns true for every input, handed as data.
-/
import Derived.Test.YtmnjpaholemebaaGreatDoorTie
import Derived.Test.YtmnjpaholemebaaGreatDoorCards
import Derived.Test.YtmnjpaholemebaaGreatDoorHb
import Derived.ProofKit
import Derived.LaidMore
import Derived.OpenShut
import Derived.Stop.Joined
namespace Go.Proofs.YtmnjpaholemebaaGreatDoor
open Go.ChangeShapes Go.WideShapes Go.ChangeAt Go.WideMaps Go.WideElems Go.RowKit

theorem own : ownKnob Tryz.prog.godebug = none := by kernel_rfl
theorem laidOut : laidOutB Tryz.prog = true := by kernel_rfl

section
variable {H : Type} {enc : TypeId × Value → H} {W : World} {base : Nat} {spare : Nat → Bool} {held : Bool} {fuel : Nat} {x : DataW H × List MemPlace}

theorem cell_int {t : TypeId} {k : IntKind} {v : Value} (ht : Tryz.prog.underlying t = some (.int k)) (h : DataW.trod enc Tryz.prog W base spare held fuel t [v] = some x) : PE.isCell v = true := by
  obtain ⟨n, h1, _⟩ := DataW.trod_int ht h
  simp only [List.cons.injEq, and_true] at h1
  subst h1; rfl
theorem cell_slice {t e : TypeId} {v : Value} (ht : Tryz.prog.underlying t = some (.slice e)) (h : DataW.trod enc Tryz.prog W base spare held fuel t [v] = some x) : ∃ p n c, v = .slice p n c := by
  rcases DataW.trod_slice ht h with ⟨h1, _⟩ | ⟨a, len, cap, _, _, _, _, h1, _⟩
  · simp only [List.cons.injEq, and_true] at h1; exact ⟨_, _, _, h1⟩
  · simp only [List.cons.injEq, and_true] at h1; exact ⟨_, _, _, h1⟩
theorem field_at {fs : Array Field} {n : Nat} {cs : List Value} {xs : List (DataW H × List MemPlace)} (hl : xs.length = fs.size)
    (h : ∀ (i : Nat) (f : Field), fs[i]? = some f → DataW.trod enc Tryz.prog W base spare held n f.type ((cs.drop f.offset).take (Tryz.prog.cellsOf f.type)) = xs[i]?) (i t off m : Nat) (hf : (fs[i]?).map (fun f => (f.type, f.offset)) = some (t, off)) (hm : Tryz.prog.cellsOf t = m) :
    ∃ y, DataW.trod enc Tryz.prog W base spare held n t ((cs.drop off).take m) = some y := by
  obtain ⟨f, hf', he⟩ := Option.map_eq_some_iff.1 hf
  simp only [Prod.mk.injEq] at he
  obtain ⟨rfl, rfl⟩ := he
  subst hm
  have hi : i < fs.size := (Array.getElem?_eq_some_iff.1 hf').1
  exact ⟨xs[i]'(by omega), by rw [h i f hf']; exact List.getElem?_eq_getElem (by omega)⟩
theorem c5 : Tryz.prog.cellsOf 5 = 1 := by kernel_rfl
theorem c30 : Tryz.prog.cellsOf 30 = 1 := by kernel_rfl
theorem c31 : Tryz.prog.cellsOf 31 = 1 := by kernel_rfl
theorem c36 : Tryz.prog.cellsOf 36 = 1 := by kernel_rfl
theorem c37 : Tryz.prog.cellsOf 37 = 1 := by kernel_rfl
theorem c38 : Tryz.prog.cellsOf 38 = 1 := by kernel_rfl
theorem c41 : Tryz.prog.cellsOf 41 = 1 := by kernel_rfl
theorem c42 : Tryz.prog.cellsOf 42 = 1 := by kernel_rfl
theorem c43 : Tryz.prog.cellsOf 43 = 1 := by kernel_rfl
theorem c33 : Tryz.prog.cellsOf 33 = 3 := by kernel_rfl
theorem c35 : Tryz.prog.cellsOf 35 = 5 := by kernel_rfl
theorem c40 : Tryz.prog.cellsOf 40 = 7 := by kernel_rfl
theorem c45 : Tryz.prog.cellsOf 45 = 25 := by kernel_rfl

theorem open_vote {a0 a1 a2 a3 a4 a5 a6 : Value} (h : DataW.trod enc Tryz.prog W base spare held fuel 40 [a0, a1, a2, a3, a4, a5, a6] = some x) :
    PE.isCell a0 = true ∧ PE.isCell a1 = true ∧ PE.isCell a2 = true ∧ PE.isCell a3 = true ∧ (∃ p n c, a4 = .slice p n c) ∧ (∃ p n c, a5 = .slice p n c) ∧ (∃ p n c, a6 = .slice p n c) := by
  obtain ⟨xs, n, _, _, _, hl, hf⟩ := DataW.trod_struct Tryz.underlying40 h
  have F := field_at hl hf
  obtain ⟨_, g0⟩ := F 0 5 0 1 rfl c5
  obtain ⟨_, g1⟩ := F 1 5 1 1 rfl c5
  obtain ⟨_, g2⟩ := F 2 30 2 1 rfl c30
  obtain ⟨_, g3⟩ := F 3 30 3 1 rfl c30
  obtain ⟨_, g4⟩ := F 4 37 4 1 rfl c37
  obtain ⟨_, g5⟩ := F 5 38 5 1 rfl c38
  obtain ⟨_, g6⟩ := F 6 38 6 1 rfl c38
  exact ⟨cell_int Tryz.underlying5 g0, cell_int Tryz.underlying5 g1, cell_int Tryz.underlying30 g2, cell_int Tryz.underlying30 g3, cell_slice Tryz.underlying37 g4, cell_slice Tryz.underlying38 g5, cell_slice Tryz.underlying38 g6⟩

theorem open_votes {a : Value} (h : DataW.trod enc Tryz.prog W base spare held fuel 41 [a] = some x) : ∃ p n c, a = .slice p n c ∧ VotesAt W p n := by
  rcases DataW.trod_slice Tryz.underlying41 h with ⟨h1, _⟩ | ⟨a', len, cap, elems, _, n, _, h1, _, _, _, _, hlen, hel, _⟩
  · simp only [List.cons.injEq, and_true] at h1
    exact ⟨_, _, _, h1, fun i hi => by omega⟩
  · simp only [List.cons.injEq, and_true] at h1
    refine ⟨_, _, _, h1, fun i hi => ?_⟩
    have at_ : ∀ i, i < len → ∃ cs y, W.cells? base (a'.add (i * 7)) 7 = some cs ∧ DataW.trod enc Tryz.prog W base spare held n 40 cs = some y := by
      intro i hi
      have h2 := hel i hi
      rw [c40, List.getElem?_eq_getElem (by omega), Option.bind_eq_some_iff] at h2
      obtain ⟨cs, h3, h4⟩ := h2
      exact ⟨cs, _, h3, h4⟩
    have hsp : a' = ⟨a'.block, a'.off, none⟩ := by
      obtain ⟨cs, y, h2, _⟩ := at_ 0 (by omega)
      obtain ⟨_, h3, h4⟩ := World.cells?_some h2
      have h5 := h4 0 (by omega)
      have e0 : (a'.add (0 * 7)).add 0 = a' := by simp [Addr.add]
      rw [e0, List.getElem?_eq_getElem (by omega)] at h5
      unfold World.cell? at h5
      split at h5
      · split at h5
        · cases h5
        · rename_i hs
          cases a' with
          | mk b o sp => cases sp with
            | none => rfl
            | some _ => simp at hs
      · cases h5
    obtain ⟨cs, y, h2, h3⟩ := at_ i hi
    obtain ⟨_, h4, h5⟩ := World.cells?_some h2
    have hadd : ∀ j, (a'.add (i * 7)).add j = ⟨a'.block, a'.off + i * 7 + j, none⟩ := by
      intro j
      rw [hsp]
      by_cases hi0 : i * 7 = 0 <;> by_cases hj0 : j = 0 <;> simp [Addr.add, hi0, hj0]
    match cs, h4 with
    | [a0, a1, a2, a3, a4, a5, a6], _ =>
      obtain ⟨_, _, _, _, ⟨q1, m1, d1, rfl⟩, ⟨q2, m2, d2, rfl⟩, ⟨q3, m3, d3, rfl⟩⟩ := open_vote h3
      have cell : ∀ j, j < 7 → W.cell? ⟨a'.block, a'.off + i * 7 + j, none⟩ = [a0, a1, a2, a3, .slice q1 m1 d1, .slice q2 m2 d2, .slice q3 m3 d3][j]? := fun j hj => by rw [← hadd j]; exact h5 j hj
      refine ⟨a'.block, a'.off, a0, a1, a2, a3, q1, q2, q3, m1, m2, m3, d1, d2, d3, by rw [← hsp], ?_, cell 0 (by omega), cell 1 (by omega), cell 2 (by omega), cell 3 (by omega), cell 4 (by omega), cell 5 (by omega), cell 6 (by omega)⟩
      have := cell 0 (by omega)
      unfold World.cell? at this
      rcases Nat.lt_or_ge a'.block W.heap.size with h | h
      · exact h
      · rw [Array.getElem?_eq_none (by simpa using h)] at this
        cases this

set_option maxRecDepth 100000 in
theorem open_msg {cs : List Value} (h : DataW.trod enc Tryz.prog W base spare held fuel 45 cs = some x) :
    ∃ (k f t e v s q0 q1 q2 q3 q4 root count page result vf ve vv vl : Value) (p1 p2 p3 pv ps pd : Option Addr) (n1 n2 n3 nv ns nd c1 c2 c3 cv cs' cd : Nat),
      cs = [k, f, t, e, v, s, q0, q1, q2, q3, q4, root, count, page, result, vf, ve, vv, vl, .slice p1 n1 c1, .slice p2 n2 c2, .slice p3 n3 c3, .slice pv nv cv, .slice ps ns cs', .slice pd nd cd] ∧
      (∀ x ∈ [k, f, t, e, v, s, q0, q1, q2, q3, q4, root, count, page, result, vf, ve, vv, vl], PE.isCell x = true) ∧ VotesAt W pv nv := by
  obtain ⟨xs, n, _, _, hlen, hl, hf⟩ := DataW.trod_struct Tryz.underlying45 h
  rw [c45] at hlen
  match cs, hlen with
  | [k, f, t, e, v, s, q0, q1, q2, q3, q4, root, count, page, result, vf, ve, vv, vl, z1, z2, z3, zv, zs, zd], _ =>
    have F := field_at hl hf
    obtain ⟨_, g0⟩ := F 0 5 0 1 rfl c5
    obtain ⟨_, g1⟩ := F 1 5 1 1 rfl c5
    obtain ⟨_, g2⟩ := F 2 5 2 1 rfl c5
    obtain ⟨_, g3⟩ := F 3 5 3 1 rfl c5
    obtain ⟨_, g4⟩ := F 4 30 4 1 rfl c30
    obtain ⟨_, g5⟩ := F 5 30 5 1 rfl c30
    obtain ⟨_, g6⟩ := F 6 35 6 5 rfl c35
    obtain ⟨_, g7⟩ := F 7 36 11 1 rfl c36
    obtain ⟨_, g8⟩ := F 8 5 12 1 rfl c5
    obtain ⟨_, g9⟩ := F 9 5 13 1 rfl c5
    obtain ⟨_, g10⟩ := F 10 30 14 1 rfl c30
    obtain ⟨_, g11⟩ := F 11 40 15 7 rfl c40
    obtain ⟨_, g12⟩ := F 12 41 22 1 rfl c41
    obtain ⟨_, g13⟩ := F 13 42 23 1 rfl c42
    obtain ⟨_, g14⟩ := F 14 43 24 1 rfl c43
    obtain ⟨ys, n2, _, _, _, hl2, hf2⟩ := DataW.trod_struct Tryz.underlying35 (show DataW.trod enc Tryz.prog W base spare held n 35 [q0, q1, q2, q3, q4] = some _ from g6)
    have F2 := field_at hl2 hf2
    obtain ⟨_, r0⟩ := F2 0 5 0 1 rfl c5
    obtain ⟨_, r1⟩ := F2 1 30 1 1 rfl c30
    obtain ⟨_, r2⟩ := F2 2 33 2 3 rfl c33
    obtain ⟨zs', n3, _, _, _, hl3, hf3⟩ := DataW.trod_struct Tryz.underlying33 (show DataW.trod enc Tryz.prog W base spare held n2 33 [q2, q3, q4] = some _ from r2)
    have F3 := field_at hl3 hf3
    obtain ⟨_, s0⟩ := F3 0 5 0 1 rfl c5
    obtain ⟨_, s1⟩ := F3 1 5 1 1 rfl c5
    obtain ⟨_, s2⟩ := F3 2 31 2 1 rfl c31
    obtain ⟨v0, v1, v2, v3, ⟨p1, n1, d1, rfl⟩, ⟨p2, n2', d2, rfl⟩, ⟨p3, n3', d3, rfl⟩⟩ := open_vote (show DataW.trod enc Tryz.prog W base spare held n 40 [vf, ve, vv, vl, z1, z2, z3] = some _ from g11)
    obtain ⟨pv, nv, dv, rfl, hv⟩ := open_votes (show DataW.trod enc Tryz.prog W base spare held n 41 [zv] = some _ from g12)
    obtain ⟨ps, ns, ds, rfl⟩ := cell_slice Tryz.underlying42 (show DataW.trod enc Tryz.prog W base spare held n 42 [zs] = some _ from g13)
    obtain ⟨pd, nd, dd, rfl⟩ := cell_slice Tryz.underlying43 (show DataW.trod enc Tryz.prog W base spare held n 43 [zd] = some _ from g14)
    refine ⟨k, f, t, e, v, s, q0, q1, q2, q3, q4, root, count, page, result, vf, ve, vv, vl, p1, p2, p3, pv, ps, pd, n1, n2', n3', nv, ns, nd, d1, d2, d3, dv, ds, dd, rfl, ?_, hv⟩
    intro z hz
    simp only [List.mem_cons, List.not_mem_nil, or_false] at hz
    rcases hz with rfl | rfl | rfl | rfl | rfl | rfl | rfl | rfl | rfl | rfl | rfl | rfl | rfl | rfl | rfl | rfl | rfl | rfl | rfl
    · exact cell_int Tryz.underlying5 (show DataW.trod enc Tryz.prog W base spare held n 5 [z] = some _ from g0)
    · exact cell_int Tryz.underlying5 (show DataW.trod enc Tryz.prog W base spare held n 5 [z] = some _ from g1)
    · exact cell_int Tryz.underlying5 (show DataW.trod enc Tryz.prog W base spare held n 5 [z] = some _ from g2)
    · exact cell_int Tryz.underlying5 (show DataW.trod enc Tryz.prog W base spare held n 5 [z] = some _ from g3)
    · exact cell_int Tryz.underlying30 (show DataW.trod enc Tryz.prog W base spare held n 30 [z] = some _ from g4)
    · exact cell_int Tryz.underlying30 (show DataW.trod enc Tryz.prog W base spare held n 30 [z] = some _ from g5)
    · exact cell_int Tryz.underlying5 (show DataW.trod enc Tryz.prog W base spare held n2 5 [z] = some _ from r0)
    · exact cell_int Tryz.underlying30 (show DataW.trod enc Tryz.prog W base spare held n2 30 [z] = some _ from r1)
    · exact cell_int Tryz.underlying5 (show DataW.trod enc Tryz.prog W base spare held n3 5 [z] = some _ from s0)
    · exact cell_int Tryz.underlying5 (show DataW.trod enc Tryz.prog W base spare held n3 5 [z] = some _ from s1)
    · exact cell_int Tryz.underlying31 (show DataW.trod enc Tryz.prog W base spare held n3 31 [z] = some _ from s2)
    · exact cell_int Tryz.underlying36 (show DataW.trod enc Tryz.prog W base spare held n 36 [z] = some _ from g7)
    · exact cell_int Tryz.underlying5 (show DataW.trod enc Tryz.prog W base spare held n 5 [z] = some _ from g8)
    · exact cell_int Tryz.underlying5 (show DataW.trod enc Tryz.prog W base spare held n 5 [z] = some _ from g9)
    · exact cell_int Tryz.underlying30 (show DataW.trod enc Tryz.prog W base spare held n 30 [z] = some _ from g10)
    · exact v0
    · exact v1
    · exact v2
    · exact v3
end

theorem door_met (os : Os) (args : Array Value) : laidMetH Tryz.prog Rows.replicaHaltsRow.laid ((World.doorLaid Tryz.prog 400 os).forCall (fun _ _ => 0) ⟨#[], args, []⟩).memory :=
  laidMetH_of_parts3 (fuel := 8) (laidMet_of_run' 8 (by kernel_rfl) (by kernel_rfl)) (by kernel_rfl) (by kernel_rfl)
def z25 : Value := .agg #[.int .u8 0, .int .u8 0, .int .u8 0, .int .u8 0, .int .u32 0, .int .u32 0, .int .u8 0, .int .u32 0, .int .u8 0, .int .u8 0, .int .u16 0, .int .u64 0, .int .u8 0, .int .u8 0, .int .u32 0, .int .u8 0, .int .u8 0, .int .u32 0, .int .u32 0, .slice none 0 0, .slice none 0 0, .slice none 0 0, .slice none 0 0, .slice none 0 0, .slice none 0 0]

set_option maxRecDepth 100000 in
theorem lifted (os : Os) (started : os.Started) (H : Type) (enc : TypeId × Value → H) :
    ReturnsInHanded {} Tryz.checked os 7 .any (fun w args => (Rows.replicaHaltsSpec.pre enc Tryz.prog Tryz.f7 [] false w args ∧ laidMetH Tryz.prog Rows.replicaHaltsRow.laid w) ∧ sizedMet enc Tryz.prog Tryz.f7 (OpenSpec.ofChange Rows.replicaHaltsSpec) false w args)
      (Rows.replicaHaltsSpec.post enc Tryz.prog Tryz.f7 false true false false) := by
  refine returnsInHanded_of_change_and (C := Tryz.checked) (X := fun w _ => laidMetH Tryz.prog Rows.replicaHaltsRow.laid w) (fun _ _ _ hh h => h.of_heap hh) own started (by kernel_rfl) Tryz.func7
    (ChangeSpec.witness_shaped (enc := enc) (C := Tryz.checked) (os := os) (X := fun w _ => laidMetH Tryz.prog Rows.replicaHaltsRow.laid w) false (World.doorLaid Tryz.prog 400 os) #[.int .u8 0, z25] 8 rfl (World.shaped_of_RefB (by kernel_rfl) (by kernel_rfl)) (by kernel_rfl) (by kernel_rfl) (by kernel_rfl) (door_met os _)) ?_
  intro W base args ds gs before hval0 hW _ _ hL _
  have hval : ∀ (j : Nat) t v, Tryz.f7.params[j]? = some t → args[j]? = some v → Value.okWide Tryz.prog W .any base t v := hval0
  have hW' := hW
  obtain ⟨p, q, hA0, hV, rfl, hfz, hnd⟩ := hW
  have hA : DataW.TrodAll enc Tryz.prog W 0 (fun _ => true) true Tryz.f7.params.toList args.toList ds p := hA0
  rw [Tryz.params7] at hA hval
  obtain ⟨v0, v1, d0, d1, p0, p1, rfl, rfl, rfl, h0, h1⟩ := trodAll_two hA
  obtain ⟨rfl, rfl⟩ := trodVars_none hV
  have h0k := h0
  have h1k := h1
  obtain ⟨a, rfl, rfl, rfl, wa⟩ := open_int Tryz.underlying5 (hval 0 5 v0 rfl rfl) h0
  have hok1 := hval 1 45 v1 rfl rfl
  obtain ⟨cs, rfl, _, _⟩ : ∃ cs, v1 = .agg cs ∧ cs.size = Tryz.prog.cellsOf 45 ∧ Row.okWide Tryz.prog W .any base 45 cs := by
    unfold Value.okWide at hok1
    rw [Tryz.underlying45] at hok1
    exact hok1
  obtain ⟨fuel, hm⟩ := h1
  obtain ⟨k, f, t, e, v, s, q0, q1, q2, q3, q4, root, count, page, result, vf, ve, vv, vl, p1', p2, p3, pv, ps, pd, n1, n2, n3, nv, ns, nd, c1, c2, c3, cv, cs', cd, hcs, hcell, hv⟩ := open_msg (show DataW.trod enc Tryz.prog W 0 (fun _ => true) true fuel 45 cs.toList = some _ from hm)
  obtain ⟨l⟩ := cs
  obtain rfl : l = _ := hcs
  have hlt : ∀ x ∈ p1, x.block < W.heap.size := fun x hx => hW'.lt x (by simpa using hx)
  have ha : 0 ≤ a ∧ a ≤ 255 := by simpa [Lit.wf, IntKind.min, IntKind.max, IntKind.signed, IntKind.bits] using wa
  refine (PE.Ha.halts_any (k := k) (f := f) (t := t) (e := e) (v := v) (s := s) (q0 := q0) (q1 := q1) (q2 := q2) (q3 := q3) (q4 := q4) (root := root) (count := count) (page := page) (result := result) (vf := vf) (ve := ve) (vv := vv) (vl := vl) (p1 := p1') (p2 := p2) (p3 := p3) (pv := pv) (ps := ps) (pd := pd) (n1 := n1) (n2 := n2) (n3 := n3) (nv := nv) (ns := ns) (nd := nd) (c1 := c1) (c2 := c2) (c3 := c3) (cv := cv) (cs := cs') (cd := cd) a ha.1 ha.2 hcell hv).mono ?_
  rintro e W' ⟨rfl, bel⟩
  refine ⟨_, rfl, _, _, _, [], [] ++ p1, [], hW', ?_, ?_, ?_, bel.frame _, fun h => by cases h⟩
  · exact trodAll_mk1 (shut_bool Tryz.underlying4 _)
  · exact trodAll_mk2 (shut_int Tryz.underlying5 wa) (Below.trod laidOut (by kernel_rfl) (of_decide_eq_true (by kernel_rfl)) h1k bel hlt)
  · rfl

end Go.Proofs.YtmnjpaholemebaaGreatDoor
