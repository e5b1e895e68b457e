/- Which pages are taken, and by whom: a plain law, with no program in sight. -/
import Derived.Test.YtjjmnjgkodiibaaMSpH
namespace Go.Proofs.Ytjjmnjgkodiibaa
open Go.RowKit
namespace Pg

/-- The pages A are taken, and no others. -/
structure Has (s : St) (A : List Nat) : Prop where
  nodup : A.Nodup
  at_ : ∀ i ∈ A, ∃ x, s[i]? = some (some x)
  used : used s = A.length

namespace Has
variable {s s' : St} {A A' l l' M : List Nat}
theorem perm (h : Has s A) (p : A.Perm A') : Has s A' := ⟨p.nodup_iff.1 h.nodup, fun i hi => h.at_ i (p.mem_iff.2 hi), by rw [h.used, p.length_eq]⟩
theorem none_ (n : Nat) : Has (List.replicate n none) [] := ⟨List.nodup_nil, fun i h => by simp at h, by simp [Pg.used]⟩
theorem lt (h : Has s A) : ∀ i ∈ A, i < s.length := fun i hi => by
  obtain ⟨x, hx⟩ := h.at_ i hi
  exact (List.getElem?_eq_some_iff.1 hx).1
theorem le (h : Has s A) : A.length ≤ s.length := by
  rw [← h.used]
  exact used_le s
theorem mine (h : Has s (l ++ M)) : Mine s l := ⟨fun i hi => h.lt i (List.mem_append.2 (.inl hi)), by rw [h.used, List.length_append]; omega⟩
theorem step (h : Has s (l ++ M)) {i : Nat} (hi : free1 s = some i) (b : List UInt8) : Has (s.set i (some (page i b))) ((l ++ [i]) ++ M) := by
  obtain ⟨_, _, _, h1, h2⟩ := free1_some hi
  have hni : i ∉ l ++ M := fun hm => by
    obtain ⟨x, hx⟩ := h.at_ i hm
    rw [h2] at hx
    cases hx
  have hp : (i :: (l ++ M)).Perm ((l ++ [i]) ++ M) := by
    rw [List.append_assoc]
    exact List.perm_middle.symm
  refine perm ⟨List.nodup_cons.2 ⟨hni, h.nodup⟩, fun j hj => ?_, ?_⟩ hp
  · rcases List.mem_cons.1 hj with rfl | hj
    · exact ⟨_, List.getElem?_set_self h1⟩
    · rw [List.getElem?_set_ne (fun e => hni (by rw [e]; exact hj))]
      exact h.at_ j hj
  · rw [used_set h2, h.used]
    rfl
theorem lay : ∀ (n : Nat) {s : St} {l : List Nat} {b : List UInt8}, b.length ≤ n → Has s (l ++ M) → Has (Pg.lay s l b).1 ((Pg.lay s l b).2.1 ++ M)
  | n, s, l, b, hn, h => by
    by_cases hb : 56 ≤ b.length
    · cases hf : free1 s with
      | none => rw [lay_no hf]; exact h
      | some i =>
        rw [lay_yes hb hf]
        cases n with
        | zero => omega
        | succ n => exact lay n (by rw [List.length_drop]; omega) (h.step hf _)
    · rw [lay_end (by omega)]
      exact h
theorem drop : ∀ (l : List Nat) {s : St}, Has s (l ++ M) → Has (dropS s (l.map Int.ofNat)) M
  | [], _, h => h
  | i :: l, s, h => by
    have hi := h.at_ i (by simp)
    obtain ⟨x, hx⟩ := hi
    have hf : freeS s (i : Int) = s.set i none := by
      unfold freeS
      rw [at_nat, hx]
      rfl
    have hn := List.nodup_cons.1 h.nodup
    have e : dropS s ((i :: l).map Int.ofNat) = dropS (s.set i none) (l.map Int.ofNat) := by
      show dropS (freeS s (i : Int)) _ = _
      rw [hf]
    rw [e]
    refine drop l ⟨hn.2, fun j hj => ?_, ?_⟩
    · rw [List.getElem?_set_ne (fun e => hn.1 (by rw [e]; exact hj))]
      exact h.at_ j (List.mem_cons_of_mem _ hj)
    · have h1 := used_drop hx
      have h2 := h.used
      rw [List.cons_append, List.length_cons] at h2
      omega
end Has

/-- The pages of three writers. -/
def tot (P : Nat → List Nat) : List Nat := P 0 ++ (P 1 ++ P 2)
def upd {T : Type} (P : Nat → T) (k : Nat) (l : T) : Nat → T := fun j => if j = k then l else P j
theorem upd_same {T : Type} (P : Nat → T) (k : Nat) (l : T) : upd P k l k = l := if_pos rfl
theorem upd_other {T : Type} (P : Nat → T) {k j : Nat} (l : T) (h : j ≠ k) : upd P k l j = P j := if_neg h
theorem upd_upd {T : Type} (P : Nat → T) (k : Nat) (l m : T) : upd (upd P k l) k m = upd P k m := by
  funext j
  unfold upd
  split <;> rfl
theorem upd_id {T : Type} (P : Nat → T) (k : Nat) : upd P k (P k) = P := by
  funext j
  unfold upd
  split
  · rename_i h; rw [h]
  · rfl
theorem tot_at (P : Nat → List Nat) {k : Nat} (hk : k < 3) (X : List Nat) : (tot P ++ X).Perm (P k ++ (tot (upd P k []) ++ X)) := by
  match k, hk with
  | 0, _ =>
    show ((P 0 ++ (P 1 ++ P 2)) ++ X).Perm (P 0 ++ (([] ++ (P 1 ++ P 2)) ++ X))
    simp
  | 1, _ =>
    show ((P 0 ++ (P 1 ++ P 2)) ++ X).Perm (P 1 ++ ((P 0 ++ ([] ++ P 2)) ++ X))
    simp only [List.nil_append, List.append_assoc]
    rw [← List.append_assoc, ← List.append_assoc (P 1)]
    exact List.perm_append_comm.append_right _
  | 2, _ =>
    show ((P 0 ++ (P 1 ++ P 2)) ++ X).Perm (P 2 ++ ((P 0 ++ (P 1 ++ [])) ++ X))
    simp only [List.append_nil]
    rw [← List.append_assoc (P 0), ← List.append_assoc (P 2)]
    exact List.perm_append_comm.append_right _
theorem tot_put {s : St} {P : Nat → List Nat} {k : Nat} (hk : k < 3) {l X : List Nat} (h : Has s (l ++ (tot (upd P k []) ++ X))) : Has s (tot (upd P k l) ++ X) := by
  refine h.perm ?_
  have := (tot_at (upd P k l) hk X).symm
  rw [upd_same, upd_upd] at this
  exact this
theorem flat_at : ∀ (F : List (List Nat)) (n : Nat) (l : List Nat), F[n]? = some l → F.flatten.Perm (l ++ (F.set n []).flatten)
  | [], n, l, h => by simp at h
  | x :: F, 0, l, h => by
    simp at h
    subst h
    simp
  | x :: F, n + 1, l, h => by
    have ih := flat_at F n l (by simpa using h)
    show (x ++ F.flatten).Perm (l ++ (x ++ (F.set n []).flatten))
    refine (List.Perm.append_left x ih).trans ?_
    rw [← List.append_assoc, ← List.append_assoc]
    exact List.perm_append_comm.append_right _
end Pg
end Go.Proofs.Ytjjmnjgkodiibaa
