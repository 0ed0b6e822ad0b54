/-
  ReplicaAsks answers true in every world, for every who, seqs and old; what was there is as it was.
-/
import Derived.Test.YtmnjpaholemebaaGreatDoorKn
import Derived.Test.YtmnjpaholemebaaGreatDoorAt0
import Derived.Test.YtmnjpaholemebaaGreatDoorAt1
import Derived.Test.YtmnjpaholemebaaGreatDoorAt2
import Derived.Test.YtmnjpaholemebaaGreatDoorAt3
import Derived.Test.YtmnjpaholemebaaGreatDoorAt4
import Derived.Test.YtmnjpaholemebaaGreatDoorAt5
import Derived.Test.YtmnjpaholemebaaGreatDoorAt6
namespace Go.PE.As
open Go Go.Proofs Go.RowKit
theorem smK_ok (am : Unit → Amb) : @CallOk (am ()) Tryz.prog smK := by
  letI := am ()
  intro fid args A kk h E W1 args' hr hargs
  unfold smK at h
  obtain ⟨hb, h1⟩ := cs' h
  have := Nat.eq_of_beq_eq_true hb
  subst this
  split at h1
  case h_2 => cases h1
  simp only [concs, Option.some.injEq] at hargs
  subst hargs
  obtain ⟨g1, g2⟩ := Kn.known_any W1
  exact ⟨g1, g2.mono fun e W2 ⟨he, hbel⟩ => ⟨_, he, Post.below hr hbel h1 rfl⟩⟩
theorem ft : ∀ f fn, FT.get f = some fn → Tryz.prog.funcs[f]? = some fn := build_funcs Tryz.prog
theorem body_eq : Tryz.f5.body = some body5 := by kernel_rfl
theorem loops_eq : loops5 = [t5] := by kernel_rfl
theorem alts_ok : altOk li = true := by decide +kernel
theorem all_ok : lall chk li.alts = true := by
  show lall chk (lapp (few 0) (lapp (lapp (few 1) (ones 1)) (lapp (lapp (few 2) (lapp (ones 2) (twos 2))) (lapp (upTo 3) (lapp (upTo 4) (lapp (upTo 5) (upTo 6))))))) = true
  refine lall_lapp c0 (lall_lapp (lall_lapp qf1 qo1) (lall_lapp (lall_lapp qf2 (lall_lapp qo2 qt2)) (lall_lapp ?_ (lall_lapp ?_ (lall_lapp ?_ ?_)))))
  · exact lall_lapp qf3 (lall_lapp qo3 (lall_lapp qt3 qa3))
  · exact lall_lapp qf4 (lall_lapp qo4 (lall_lapp qt4 qa4))
  · exact lall_lapp qf5 (lall_lapp qo5 (lall_lapp qt5 qa5))
  · exact lall_lapp qf6 (lall_lapp qo6 (lall_lapp qt6 qa6))
def num (l : List Int) (o : Int) (i : Nat) : Int := if i = 12 then o else l.getD i 0
theorem asks_any {a0 a1 a2 a3 a4 a5 b0 b1 b2 b3 b4 b5 o : Int} (h : ∀ x ∈ [a0, a1, a2, a3, a4, a5, b0, b1, b2, b3, b4, b5, o], 0 ≤ x ∧ x ≤ 255) (W : World) :
    Calls Tryz.prog 5 #[.agg #[.int .u8 a0, .int .u8 a1, .int .u8 a2, .int .u8 a3, .int .u8 a4, .int .u8 a5], .agg #[.int .u8 b0, .int .u8 b1, .int .u8 b2, .int .u8 b3, .int .u8 b4, .int .u8 b5], .int .u8 o] W
      fun e W' => e = .returned (.bool true) ∧ Below W.heap.size W W' := by
  let sy := num [a0, a1, a2, a3, a4, a5, b0, b1, b2, b3, b4, b5] o
  have hcf : CfT W.heap.size (fun k => W.heap[k]?) (fun _ => undef) Tryz.prog hk := fun am _ => letI := am (); hkF_sound Kn.wf ft (smK_ok am) 1000
  have one : ∀ i x, sy i = x → 0 ≤ x ∧ x ≤ 255 → conc (E0 sy (fun _ => undef)) (u8s i) = some (.int .u8 x) := by
    intro i x hx hb
    have ht : Sy.t (Sy.plain i 0 255 0) sy = x := by
      unfold Sy.t Sy.plain
      rw [if_pos rfl, hx]; simp
    refine conc_symi_mk (s := Sy.plain i 0 255 0) ⟨?_, ?_, .inl rfl⟩ ?_
    · show (0 : Int) ≤ Sy.t (Sy.plain i 0 255 0) sy; rw [ht]; exact hb.1
    · show Sy.t (Sy.plain i 0 255 0) sy ≤ 255; rw [ht]; exact hb.2
    · show (1 : Int) * Sy.t (Sy.plain i 0 255 0) sy + 0 = x; rw [ht]; omega
  refine topE_true (P := Tryz.prog) (cf := hk) (V := fun _ => undef) Kn.wf (W := W) (sy := sy) hcf Tryz.func5 body_eq (args := args) (args' := [.agg #[.int .u8 a0, .int .u8 a1, .int .u8 a2, .int .u8 a3, .int .u8 a4, .int .u8 a5], .agg #[.int .u8 b0, .int .u8 b1, .int .u8 b2, .int .u8 b3, .int .u8 b4, .int .u8 b5], .int .u8 o]) ?_ run_true ?_
  · have e1 : concs (E0 sy (fun _ => undef)) [u8s 0, u8s 1, u8s 2, u8s 3, u8s 4, u8s 5] = some [.int .u8 a0, .int .u8 a1, .int .u8 a2, .int .u8 a3, .int .u8 a4, .int .u8 a5] := by
      simp only [concs, one 0 a0 rfl (h _ (by simp)), one 1 a1 rfl (h _ (by simp)), one 2 a2 rfl (h _ (by simp)), one 3 a3 rfl (h _ (by simp)), one 4 a4 rfl (h _ (by simp)), one 5 a5 rfl (h _ (by simp)), Option.bind_some, Option.map_some]
    have e2 : concs (E0 sy (fun _ => undef)) [u8s 6, u8s 7, u8s 8, u8s 9, u8s 10, u8s 11] = some [.int .u8 b0, .int .u8 b1, .int .u8 b2, .int .u8 b3, .int .u8 b4, .int .u8 b5] := by
      simp only [concs, one 6 b0 rfl (h _ (by simp)), one 7 b1 rfl (h _ (by simp)), one 8 b2 rfl (h _ (by simp)), one 9 b3 rfl (h _ (by simp)), one 10 b4 rfl (h _ (by simp)), one 11 b5 rfl (h _ (by simp)), Option.bind_some, Option.map_some]
    have f1 : conc (E0 sy (fun _ => undef)) (.agg who) = some (.agg #[.int .u8 a0, .int .u8 a1, .int .u8 a2, .int .u8 a3, .int .u8 a4, .int .u8 a5]) := by
      show (concs _ who).map _ = _
      rw [show concs (E0 sy (fun _ => undef)) who = some _ from e1]; rfl
    have f2 : conc (E0 sy (fun _ => undef)) (.agg seqs) = some (.agg #[.int .u8 b0, .int .u8 b1, .int .u8 b2, .int .u8 b3, .int .u8 b4, .int .u8 b5]) := by
      show (concs _ seqs).map _ = _
      rw [show concs (E0 sy (fun _ => undef)) seqs = some _ from e2]; rfl
    have f3 := one 12 o rfl (h _ (by simp))
    show (conc (E0 sy (fun _ => undef)) (.agg who)).bind (fun v' => ((conc (E0 sy (fun _ => undef)) (.agg seqs)).bind fun v' => ((conc (E0 sy (fun _ => undef)) (u8s 12)).bind fun v' => some [v']).map fun vs' => v' :: vs').map fun vs' => v' :: vs') = _
    rw [f1, f2, f3]; rfl
  · intro t ht p hp _
    have ht : t ∈ loops5 := ht
    rw [loops_eq] at ht
    have ht := List.mem_singleton.1 ht
    subst ht
    have hp : p ∈ [(8, li)] := hp
    have hp := List.mem_singleton.1 hp
    subst hp
    exact ⟨alts_ok, fun al hal sp hsp => lall_eq _ _ (lall_eq _ _ all_ok al hal) sp hsp⟩
end Go.PE.As
