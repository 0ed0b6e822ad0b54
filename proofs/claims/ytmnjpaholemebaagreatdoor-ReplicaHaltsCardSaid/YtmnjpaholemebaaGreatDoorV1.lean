/-
  palisadehelp.Vote and palisadehelp.Msg answer some truth value for every message whose votes can be read; what was there is as it was.
-/
import Derived.Test.YtmnjpaholemebaaGreatDoorProg
import Derived.WalkKit
import Derived.WalkSpells
import Derived.Lib.Hide
import Derived.WalkLawsBesides
namespace Go.Proofs
open Go Go.RowKit
theorem bcell {W w1 : World} (hb : Below W.heap.size W w1) : (∀ b o, b < W.heap.size → w1.cell? ⟨b, o, none⟩ = W.cell? ⟨b, o, none⟩) ∧ (∀ b o, b < W.heap.size → w1.frozen? ⟨b, o, none⟩ = W.frozen? ⟨b, o, none⟩) :=
  ⟨fun b o h => hb.cell (p := ⟨b, o, none⟩) h, fun b o h => hb.frozen (p := ⟨b, o, none⟩) h⟩
/-- Some truth value; what was there is as it was. -/
def SomeB (w : World) (e : Ending) (w' : World) : Prop := (∃ b, e = .returned (.bool b)) ∧ Below w.heap.size w w'
theorem someB_mk {w w' : World} (b : Bool) (h : Below w.heap.size w w') : SomeB w (.returned (.bool b)) w' := ⟨⟨b, rfl⟩, h⟩
set_option maxHeartbeats 1000000 in
theorem vote_any (f e v l : Value) (p1 p2 p3 : Option Addr) (n1 n2 n3 c1 c2 c3 : Nat) (W : World) :
    Calls Tryz.prog 45 #[.agg #[f, e, v, l, .slice p1 n1 c1, .slice p2 n2 c2, .slice p3 n3 c3]] W (SomeB W) := by
  go_enter Tryz.func45, Tryz.ntmps45
  go_wp2
  all_goals
    go_ret
    exact someB_mk _ ((Below.refl _ _).alloc (Nat.le_refl _) _)
/-- A row of votes that can be read. -/
def VotesAt (W : World) (pv : Option Addr) (nv : Nat) : Prop := ∀ i, i < nv → ∃ bl off f e v l p1 p2 p3 n1 n2 n3 c1 c2 c3, pv = some ⟨bl, off, none⟩ ∧ bl < W.heap.size ∧
      W.cell? ⟨bl, off + i * 7, none⟩ = some f ∧ W.cell? ⟨bl, off + i * 7 + 1, none⟩ = some e ∧ W.cell? ⟨bl, off + i * 7 + 2, none⟩ = some v ∧ W.cell? ⟨bl, off + i * 7 + 3, none⟩ = some l ∧
      W.cell? ⟨bl, off + i * 7 + 4, none⟩ = some (.slice p1 n1 c1) ∧ W.cell? ⟨bl, off + i * 7 + 5, none⟩ = some (.slice p2 n2 c2) ∧ W.cell? ⟨bl, off + i * 7 + 6, none⟩ = some (.slice p3 n3 c3)
set_option maxHeartbeats 1000000 in
theorem msg_any (k f t e v s q0 q1 q2 q3 q4 root count page result vf ve vv vl : Value) (p1 p2 p3 pv ps pd : Option Addr) (n1 n2 n3 nv ns nd c1 c2 c3 cv cs cd : Nat) (W : World)
    (hv : VotesAt W pv nv) :
    Calls Tryz.prog 12 #[.agg #[k, f, t, e, v, s, q0, q1, q2, q3, q4, root, count, page, result, vf, ve, vv, vl, .slice p1 n1 c1, .slice p2 n2 c2, .slice p3 n3 c3, .slice pv nv cv, .slice ps ns cs, .slice pd nd cd]] W (SomeB W) := by
  have HV := Lib.hid hv
  clear hv
  by_cases hn : nv ≤ 6
  rotate_left
  · go_enter Tryz.func12, Tryz.ntmps12
    go_wp2
    go_ret
    exact someB_mk _ ((Below.refl _ _).alloc (Nat.le_refl _) _)
  by_cases hn2 : ns ≤ 12
  rotate_left
  · go_enter Tryz.func12, Tryz.ntmps12
    go_wp2
    go_ret
    exact someB_mk _ ((Below.refl _ _).alloc (Nat.le_refl _) _)
  by_cases hn3 : nd ≤ 200
  rotate_left
  · go_enter Tryz.func12, Tryz.ntmps12
    go_wp2
    go_ret
    exact someB_mk _ ((Below.refl _ _).alloc (Nat.le_refl _) _)
  go_enter Tryz.func12, Tryz.ntmps12
  go_wp2_with (refine (vote_any _ _ _ _ _ _ _ _ _ _ _ _ _ _).mono ?_; rintro e w' ⟨⟨b, rfl⟩, hb⟩; obtain ⟨hc, hf⟩ := bcell hb; cases b)
  · go_ret
    exact someB_mk _ (((Below.refl _ _).alloc (Nat.le_refl _) _).trans (hb.mono (by simp)))
  · have hz : W.heap.size + 1 ≤ w'.heap.size := by have := hb.size; simp at this; omega
    have hB0 : Below W.heap.size W w' := ((Below.refl _ _).alloc (Nat.le_refl _) _).trans (hb.mono (by simp))
    go_loopw [3] (fun i wr => ∃ j : Nat, j ≤ nv ∧ i = .int .i64 j ∧ Below (W.heap.size + 1) w' wr) (fun i _ => nv - (intOf i).toNat)
    case atStart => exact ⟨0, Nat.zero_le _, rfl, Below.refl _ _⟩
    case round =>
      obtain ⟨j, hj, rfl, hbr⟩ := hrel
      have hW : ∀ b o, b < W.heap.size → wr.cell? ⟨b, o, none⟩ = W.cell? ⟨b, o, none⟩ := fun b o h =>
        ((hbr.cell (p := ⟨b, o, none⟩) (by show b < _; omega)).trans (hc b o (by simp; omega))).trans (((Below.refl W.heap.size W).alloc (Nat.le_refl _) _).cell (p := ⟨b, o, none⟩) h)
      have hm : wr.cell? ⟨W.heap.size, 22, none⟩ = some (.slice pv nv cv) := by
        rw [hbr.cell (p := ⟨W.heap.size, 22, none⟩) (by show W.heap.size < _; omega), hc _ _ (by simp)]
        simp
      have hzr : W.heap.size + 1 ≤ wr.heap.size := by have := hbr.size; omega
      clear hc hf hb
      by_cases hlt : j < nv
      · obtain ⟨bl, off, f', e', v', l', p1', p2', p3', n1', n2', n3', c1', c2', c3', rfl, hbl, h0, h1, h2, h3, h4, h5, h6⟩ := HV.out j hlt
        rw [← hW _ _ hbl] at h0 h1 h2 h3 h4 h5 h6
        clear hW
        go_wp2_with (refine (vote_any _ _ _ _ _ _ _ _ _ _ _ _ _ _).mono ?_; rintro e w2 ⟨⟨b, rfl⟩, hb2⟩; cases b)
        · go_ret
          exact someB_mk _ ((hB0.trans (hbr.mono (by omega))).trans (hb2.mono (by omega)))
        · refine ⟨⟨j + 1, by omega, by go_num, hbr.trans (hb2.mono (by omega))⟩, by simp [intOf]; omega⟩
      · clear hW
        go_wp2
        go_ret
        exact someB_mk _ (hB0.trans (hbr.mono (by omega)))
end Go.Proofs
