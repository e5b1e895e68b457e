/- Rows sorted with little room: how they are cut, how often they are merged, how many pages that needs. Plain laws, with no program in sight. -/
import Derived.Test.YtcadjekcdokkjaaGreatMLtSq
import Derived.Test.YtcadjekcdokkjaaGreatMSpSMH
namespace Go.Proofs.YtcadjekcdokkjaaGreat
set_option linter.unusedVariables false
set_option linter.unusedSimpArgs false
open Go.RowKit
def rowC (r : RowM) : Nat := 8 + (r.map fun v : Va => 8 + v.s.length).sum
def rowsC (l : List RowM) : Nat := (l.map rowC).sum
theorem rowsC_snoc (l : List RowM) (r : RowM) : rowsC (l ++ [r]) = rowsC l + rowC r := by simp [rowsC]
theorem rowC_pos (r : RowM) : 8 ≤ rowC r := by unfold rowC; omega
def runsF (room : Nat) : Nat → Nat → List RowM → Option Nat
 | n, _, [] => some n
 | n, left, r :: rs => if room < rowC r then none else if n = 0 ∨ left < rowC r then runsF room (n + 1) (room - rowC r) rs else runsF room n (left - rowC r) rs
def runsN (room : Nat) (rs : List RowM) : Option Nat := runsF room 0 0 rs
structure Cuts (room : Nat) (rs : List RowM) (done : List (List RowM)) (held : List RowM) : Prop where
 all_ : done.flatten ++ held = rs
 fit : rowsC held ≤ room
 some_ : ∀ c ∈ done, c ≠ []
 last : held = [] → done = []
 each : ∀ r ∈ rs, rowC r ≤ room
 count : ∀ t, runsF room (done.length + if held = [] then 0 else 1) (if held = [] then 0 else room - rowsC held) t = runsN room (rs ++ t)
namespace Cuts
variable {room : Nat} {rs : List RowM} {done : List (List RowM)} {held : List RowM} {r : RowM}
theorem start (room : Nat) : Cuts room [] [] [] := ⟨rfl, Nat.zero_le _, fun c h => (by cases h), fun _ => rfl, fun r h => (by cases h), fun t => rfl⟩
theorem hold (h : Cuts room rs done held) (hr : rowC r ≤ room - rowsC held) : Cuts room (rs ++ [r]) done (held ++ [r]) := by
 have hf := h.fit
 have hp := rowC_pos r
 refine ⟨by rw [← List.append_assoc, h.all_], by rw [rowsC_snoc]; omega, h.some_, fun e => (by simp at e), fun x hx => ?_, fun t => ?_⟩
 ·rcases List.mem_append.1 hx with hx | hx
  ·exact h.each x hx
  ·rw [List.mem_singleton] at hx
   subst hx
   omega
 ·have hc := h.count (r :: t)
  rw [List.append_assoc, show [r] ++ t = r :: t from rfl, ← hc, if_neg (by simp), if_neg (by simp), rowsC_snoc]
  by_cases he : held = []
  ·have hd := h.last he
   subst hd
   subst he
   rw [if_pos rfl, if_pos rfl, runsF, if_neg (by omega), if_pos (.inl rfl)]
   simp [rowsC]
  ·rw [if_neg he, if_neg he, runsF, if_neg (by omega), if_neg (by omega)]
   congr 1
   omega
theorem put (h : Cuts room rs done held) (hn : held ≠ []) (hr : room - rowsC held < rowC r) (hroom : rowC r ≤ room) : Cuts room (rs ++ [r]) (done ++ [held]) [r] := by
 have hf := h.fit
 refine ⟨by rw [List.flatten_append, List.append_assoc, ← h.all_]; simp, by simpa [rowsC] using hroom, fun c hc => ?_, fun e => (by simp at e), fun x hx => ?_, fun t => ?_⟩
 ·rcases List.mem_append.1 hc with hc | hc
  ·exact h.some_ c hc
  ·rw [List.mem_singleton] at hc
   subst hc
   exact hn
 ·rcases List.mem_append.1 hx with hx | hx
  ·exact h.each x hx
  ·rw [List.mem_singleton] at hx
   subst hx
   exact hroom
 ·have hc := h.count (r :: t)
  rw [List.append_assoc, show [r] ++ t = r :: t from rfl, ← hc, if_neg (by simp), if_neg (by simp), if_neg hn, if_neg hn, runsF, if_neg (by omega), if_pos (.inr hr), List.length_append]
  simp [rowsC]
theorem great (h : Cuts room rs done held) (hr : room < rowC r) (t : List RowM) : runsN room (rs ++ r :: t) = none := by
 rw [← h.count, runsF, if_pos hr]
theorem ended (h : Cuts room rs done held) : runsN room rs = some (done.length + if held = [] then 0 else 1) := by
 have := h.count []
 rw [List.append_nil] at this
 rw [← this]
 rfl
end Cuts
theorem runsF_le (room : Nat) : ∀ (rs : List RowM) (n left k : Nat), runsF room n left rs = some k → n ≤ k
 | [], n, left, k, h => by
  unfold runsF at h
  have := Option.some.inj h
  omega
 | r :: rs, n, left, k, h => by
  unfold runsF at h
  split at h
  ·cases h
  ·split at h
   ·have := runsF_le room rs _ _ _ h
    omega
   ·exact runsF_le room rs _ _ _ h
theorem Cuts.le {room : Nat} {rs t : List RowM} {done : List (List RowM)} {held : List RowM} (h : Cuts room rs done held) {k : Nat} (hk : runsN room (rs ++ t) = some k) : done.length + (if held = [] then 0 else 1) ≤ k := by
 rw [← h.count] at hk
 exact runsF_le room t _ _ _ hk
/-! ### Merging runs -/
def passesF (fan : Nat) : Nat → Nat → Nat → Nat
 | 0, runs, n => if 1 < runs then n + 1 else n
 | d + 1, runs, n => if fan < runs then passesF fan d ((runs - 1) / fan + 1) (n + 1) else if 1 < runs then n + 1 else n
theorem need_le (n : Nat) : Pg.need n ≤ n / 56 + 1 := by unfold Pg.need; split <;> omega
theorem need_mono {a b : Nat} (h : a ≤ b) : Pg.need a ≤ Pg.need b := by unfold Pg.need; split <;> split <;> omega
theorem need_ge56 (n : Nat) : n / 56 ≤ Pg.need n := by unfold Pg.need; split <;> omega
def needs (l : List (List RowM)) : Nat := (l.map fun c => Pg.need (rowsB c).length).sum
theorem needs_cons (l : List (List RowM)) (c : List RowM) : needs (c :: l) = Pg.need (rowsB c).length + needs l := by simp [needs]
theorem rowsB_app (a b : List RowM) : rowsB (a ++ b) = rowsB a ++ rowsB b := by simp [rowsB]
theorem needs_le : ∀ l : List (List RowM), needs l ≤ (rowsB l.flatten).length / 56 + l.length
 | [] => by simp [needs]
 | c :: l => by
  have ih := needs_le l
  have h1 := need_le (rowsB c).length
  rw [needs_cons, List.flatten_cons, rowsB_app, List.length_append, List.length_cons]
  omega
theorem rowsB_perm {a b : List RowM} (h : a.Perm b) : (rowsB a).length = (rowsB b).length := by
 unfold rowsB
 exact (h.flatMap_right _).length_eq
theorem sort_perm (ks : List Ky) (l : List RowM) : (sortR ks l).Perm l := by
 unfold sortR Sq.sortM
 have hi : ∀ (x : RowM) (l : List RowM), (Sq.ins (leRow ks) x l).Perm (x :: l) := fun x l => by
  induction l with
  | nil => exact List.Perm.refl _
  | cons y l ih =>
   unfold Sq.ins
   split
   ·exact (ih.cons y).trans (List.Perm.swap ..)
   ·exact List.Perm.refl _
 have hf : ∀ (l out : List RowM), (l.foldl (fun out x => Sq.ins (leRow ks) x out) out).Perm (out ++ l) := fun l => by
  induction l with
  | nil => intro out; simp
  | cons x l ih =>
   intro out
   rw [List.foldl_cons]
   refine (ih _).trans (((hi x out).append_right l).trans ?_)
   exact List.perm_middle.symm
 exact hf l []
theorem sortB_len (ks : List Ky) (l : List RowM) : (rowsB (sortR ks l)).length = (rowsB l).length := rowsB_perm (sort_perm ks l)
end Go.Proofs.YtcadjekcdokkjaaGreat
