/-
  ReplicaHalts answers true in every world for every uint8 and every message whose votes can be read; what was there is as it was.
-/
import Derived.Test.YtmnjpaholemebaaGreatDoorHa
import Derived.Test.YtmnjpaholemebaaGreatDoorV1
namespace Go.PE.Ha
open Go Go.Proofs Go.RowKit

theorem wf : PWF Tryz.prog := ⟨by kernel_rfl, by
  intro f fn h
  have hall : Tryz.prog.funcs.toList.all (fun fn => !(fn.name == "runtime.NumGoroutine")) = true := by kernel_rfl
  have := List.all_eq_true.1 hall fn (by rw [← Array.getElem?_toList] at h; exact List.mem_of_getElem? h)
  simpa using this⟩
theorem ft : ∀ f fn, FT.get f = some fn → Tryz.prog.funcs[f]? = some fn := letI : Amb := ⟨0, fun _ => none, fun _ => 0, fun _ => undef⟩; build_funcs Tryz.prog
theorem sm0_ok (am : Unit → Amb) : @CallOk (am ()) Tryz.prog sm0 := fun _ _ _ _ h => by cases h
noncomputable def cfK : CF := callF Tryz.prog FT (fun _ => false) sm0 1000000 1000
theorem known_run : cfK 8 [] H0 (fun v _ => eqV 1 v (.bool true)) = true := by decide +kernel
theorem known_any (W : World) : (∃ fn : Func, Tryz.prog.funcs[8]? = some fn ∧ fn.body.isNone = false) ∧ Calls Tryz.prog 8 #[] W fun e W' => e = .returned (.bool true) ∧ Below W.heap.size W W' :=
  frame_call (fun am => letI := am (); callF_sound wf ft (sm0_ok am)) known_run W

theorem has12 : ∃ fn : Func, Tryz.prog.funcs[12]? = some fn ∧ fn.body.isNone = false := ⟨_, Tryz.func12, by kernel_rfl⟩

section
variable {k f t e v s q0 q1 q2 q3 q4 root count page result vf ve vv vl : Value} {p1 p2 p3 pv ps pd : Option Addr} {n1 n2 n3 nv ns nd c1 c2 c3 cv cs cd : Nat} {W : World}

def valOf (l : List Value) (i : Nat) : Value := l.getD i undef
theorem smH_ok (l : List Value) (hl : l = [k, f, t, e, v, s, q0, q1, q2, q3, q4, root, count, page, result, vf, ve, vv, vl, .slice p1 n1 c1, .slice p2 n2 c2, .slice p3 n3 c3, .slice pv nv cv, .slice ps ns cs, .slice pd nd cd])
    (hcell : ∀ x ∈ l, isCell x = true) (hv : VotesAt W pv nv) (am : Unit → Amb) (hs : Same W.heap.size (fun k => W.heap[k]?) (valOf l) (am ())) : @CallOk (am ()) Tryz.prog smH := by
  letI := am ()
  intro fid args A kk h E W1 args' hr hargs
  unfold smH at h
  cases hb : Nat.beq fid 8 with
  | true =>
    rw [hb, cond_true] at h
    have := Nat.eq_of_beq_eq_true hb
    subst this
    split at h
    case h_2 => cases h
    simp only [concs, Option.some.injEq] at hargs
    subst hargs
    obtain ⟨g1, g2⟩ := known_any W1
    refine ⟨g1, g2.mono fun e W2 ⟨he, hbel⟩ => ⟨_, he, Post.below hr hbel h rfl⟩⟩
  | false =>
    rw [hb, cond_false] at h
    obtain ⟨h12, h'⟩ := cs' h
    clear h
    have := Nat.eq_of_beq_eq_true h12
    subst this
    split at h'
    case h_2 => cases h'
    obtain ⟨ha, h2⟩ := cs' h'
    obtain ⟨ht, hf⟩ := cs' h2
    have := eqV_eq _ _ _ ha
    subst this
    refine ⟨has12, ?_⟩
    have hsv : E.sv = valOf l := by rw [hr.names.2]; exact hs.sv
    have hl25 : concs E ms = some l := by
      have one : ∀ i x, l[i]? = some x → conc E (.symv i) = some x := by
        intro i x hx
        have hx2 : valOf l i = x := by unfold valOf; rw [List.getD_eq_getElem?_getD, hx]; rfl
        simp only [conc, hsv, hx2]
        rw [if_pos (hcell x (List.mem_of_getElem? hx))]
      show concs E [.symv 0, .symv 1, .symv 2, .symv 3, .symv 4, .symv 5, .symv 6, .symv 7, .symv 8, .symv 9, .symv 10, .symv 11, .symv 12, .symv 13, .symv 14, .symv 15, .symv 16, .symv 17, .symv 18, .symv 19, .symv 20, .symv 21, .symv 22, .symv 23, .symv 24] = some l
      subst hl
      simp only [concs, one 0 _ rfl, one 1 _ rfl, one 2 _ rfl, one 3 _ rfl, one 4 _ rfl, one 5 _ rfl, one 6 _ rfl, one 7 _ rfl, one 8 _ rfl, one 9 _ rfl, one 10 _ rfl, one 11 _ rfl, one 12 _ rfl, one 13 _ rfl, one 14 _ rfl, one 15 _ rfl, one 16 _ rfl, one 17 _ rfl, one 18 _ rfl, one 19 _ rfl, one 20 _ rfl, one 21 _ rfl, one 22 _ rfl, one 23 _ rfl, one 24 _ rfl, Option.bind_some, Option.map_some]
    have hargs' : args' = [.agg l.toArray] := by
      simp only [concs, conc, hl25, Option.map_some, Option.bind_some, Option.some.injEq] at hargs
      exact hargs.symm
    subst hargs'
    -- the votes can still be read
    have hv1 : VotesAt W1 pv nv := by
      have hcellW : ∀ b o, b < W.heap.size → W1.cell? ⟨b, o, none⟩ = W.cell? ⟨b, o, none⟩ := by
        intro b o hb
        have := hr.amb.2.1 b (by rw [hs.n0]; exact hb)
        rw [hs.mem] at this
        show (match W1.heap[b]? with | some (.cells cs _ _) => cs[o]? | _ => none) = (match W.heap[b]? with | some (.cells cs _ _) => cs[o]? | _ => none)
        rw [this]
      have hsz : W.heap.size ≤ W1.heap.size := by have := hr.amb.1; rw [hs.n0] at this; exact this
      intro i hi
      obtain ⟨bl, off, x1, x2, x3, x4, y1, y2, y3, m1, m2, m3, d1, d2, d3, g1, g2, g3, g4, g5, g6, g7, g8, g9⟩ := hv i hi
      exact ⟨bl, off, x1, x2, x3, x4, y1, y2, y3, m1, m2, m3, d1, d2, d3, g1, by omega, by rw [hcellW _ _ g2]; exact g3, by rw [hcellW _ _ g2]; exact g4, by rw [hcellW _ _ g2]; exact g5, by rw [hcellW _ _ g2]; exact g6, by rw [hcellW _ _ g2]; exact g7, by rw [hcellW _ _ g2]; exact g8, by rw [hcellW _ _ g2]; exact g9⟩
    subst hl
    refine (msg_any k f t e v s q0 q1 q2 q3 q4 root count page result vf ve vv vl p1 p2 p3 pv ps pd n1 n2 n3 nv ns nd c1 c2 c3 cv cs cd W1 hv1).mono fun e W2 ⟨⟨b, he⟩, hbel⟩ => ⟨_, he, ?_⟩
    cases b with
    | true => exact Post.below hr hbel ht rfl
    | false => exact Post.below hr hbel hf rfl

theorem halts_any (n : Int) (hn0 : 0 ≤ n) (hn : n ≤ 255) (hcell : ∀ x ∈ [k, f, t, e, v, s, q0, q1, q2, q3, q4, root, count, page, result, vf, ve, vv, vl], isCell x = true) (hv : VotesAt W pv nv) :
    Calls Tryz.prog 7 #[.int .u8 n, .agg #[k, f, t, e, v, s, q0, q1, q2, q3, q4, root, count, page, result, vf, ve, vv, vl, .slice p1 n1 c1, .slice p2 n2 c2, .slice p3 n3 c3, .slice pv nv cv, .slice ps ns cs, .slice pd nd cd]] W
      fun e W' => e = .returned (.bool true) ∧ Below W.heap.size W W' := by
  let l : List Value := [k, f, t, e, v, s, q0, q1, q2, q3, q4, root, count, page, result, vf, ve, vv, vl, .slice p1 n1 c1, .slice p2 n2 c2, .slice p3 n3 c3, .slice pv nv cv, .slice ps ns cs, .slice pd nd cd]
  have hcl : ∀ x ∈ l, isCell x = true := by
    intro x hx
    simp only [l, List.mem_cons, List.not_mem_nil, or_false] at hx
    rcases hx with h | h | h | h | h | h | h | h | h | h | h | h | h | h | h | h | h | h | h | h | h | h | h | h | h <;> first
      | (subst h; rfl)
      | exact hcell x (by simp [h])
  have hcf : CfT W.heap.size (fun k => W.heap[k]?) (valOf l) Tryz.prog hk := fun am hs => letI := am (); hkF_sound wf ft (smH_ok l rfl hcl hv am hs) 1000
  have hrun := runH_true
  unfold runH at hrun
  split at hrun
  case h_2 => cases hrun
  rename_i fn hfn
  split at hrun
  case h_2 => cases hrun
  rename_i c hc
  refine top_true (P := Tryz.prog) (cf := hk) (V := valOf l) wf (W := W) (sy := fun _ => n) hcf (ft 7 fn hfn) hc (args := args) (args' := [.int .u8 n, .agg l.toArray]) ?_ hrun
  · have one : ∀ i x, l[i]? = some x → conc (E0 (fun _ => n) (valOf l)) (.symv i) = some x := by
      intro i x hx
      have hx2 : valOf l i = x := by unfold valOf; rw [List.getD_eq_getElem?_getD, hx]; rfl
      show (if isCell (valOf l i) then some (valOf l i) else none) = some x
      rw [hx2, if_pos (hcl x (List.mem_of_getElem? hx))]
    have h1 : concs (E0 (fun _ => n) (valOf l)) ms = some l := by
      show concs _ [.symv 0, .symv 1, .symv 2, .symv 3, .symv 4, .symv 5, .symv 6, .symv 7, .symv 8, .symv 9, .symv 10, .symv 11, .symv 12, .symv 13, .symv 14, .symv 15, .symv 16, .symv 17, .symv 18, .symv 19, .symv 20, .symv 21, .symv 22, .symv 23, .symv 24] = some l
      simp only [concs, one 0 _ rfl, one 1 _ rfl, one 2 _ rfl, one 3 _ rfl, one 4 _ rfl, one 5 _ rfl, one 6 _ rfl, one 7 _ rfl, one 8 _ rfl, one 9 _ rfl, one 10 _ rfl, one 11 _ rfl, one 12 _ rfl, one 13 _ rfl, one 14 _ rfl, one 15 _ rfl, one 16 _ rfl, one 17 _ rfl, one 18 _ rfl, one 19 _ rfl, one 20 _ rfl, one 21 _ rfl, one 22 _ rfl, one 23 _ rfl, one 24 _ rfl, Option.bind_some, Option.map_some]
      rfl
    have h2 : conc (E0 (fun _ => n) (valOf l)) (.symi .u8 ⟨0, 0, 255, 0, 0, 0⟩) = some (.int .u8 n) := by
      show (if Sy.ok ⟨0, 0, 255, 0, 0, 0⟩ n then some (Value.int .u8 (n + ((0 : Nat) : Int))) else none) = _
      rw [if_pos (show Sy.ok _ n from ⟨by simpa using hn0, by simpa using hn, .inl rfl⟩)]
      simp
    have h3 : conc (E0 (fun _ => n) (valOf l)) (.agg ms) = some (.agg l.toArray) := by
      show (concs _ ms).map _ = _
      rw [h1]; rfl
    show (conc (E0 (fun _ => n) (valOf l)) (.symi .u8 ⟨0, 0, 255, 0, 0, 0⟩)).bind (fun v' => ((conc (E0 (fun _ => n) (valOf l)) (.agg ms)).bind fun v' => some [v']).map fun vs' => v' :: vs') = _
    rw [h2, h3]; rfl
end
end Go.PE.Ha
