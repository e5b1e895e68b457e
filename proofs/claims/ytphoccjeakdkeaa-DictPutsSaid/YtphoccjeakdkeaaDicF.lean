/- The first texts of a list, and how long bytes are: plain laws. -/
import Derived.Test.YtphoccjeakdkeaaDicQ
namespace Go.Proofs.Ytphoccjeakdkeaa

/-- Up to 300 texts, of up to 1,100 bytes each, so many together. -/
def fewF : Nat → Nat → List (List UInt8) → List (List UInt8)
  | _, _, [] => []
  | i, left, x :: t => if 300 ≤ i ∨ 1100 < x.length ∨ left < x.length then [] else x :: fewF (i + 1) (left - x.length) t
def fewM (l : List (List UInt8)) : List (List UInt8) := fewF 0 30000 l
theorem few_step {l : List (List UInt8)} {j : Nat} (left : Nat) (hj : j < l.length) : fewF j left (l.drop j) = if 300 ≤ j ∨ 1100 < l[j].length ∨ left < l[j].length then [] else l[j] :: fewF (j + 1) (left - l[j].length) (l.drop (j + 1)) := by
  rw [List.drop_eq_getElem_cons hj, fewF]
theorem few_le : ∀ (l : List (List UInt8)) (i left : Nat), i ≤ 300 → (fewF i left l).length ≤ 300 - i ∧ (∀ x ∈ fewF i left l, x.length ≤ 1100) ∧ (fewF i left l).flatten.length ≤ left
  | [], _, _, _ => by simp [fewF]
  | x :: t, i, left, hi => by
    rw [fewF]
    split
    · simp
    · rename_i h
      obtain ⟨h1, h2, h3⟩ := few_le t (i + 1) (left - x.length) (by omega)
      refine ⟨by rw [List.length_cons]; omega, fun y hy => ?_, ?_⟩
      · rcases List.mem_cons.1 hy with rfl | hy
        · omega
        · exact h2 y hy
      · rw [List.flatten_cons, List.length_append]
        omega
theorem fewM_le (l : List (List UInt8)) : (fewM l).length ≤ 300 ∧ (∀ x ∈ fewM l, x.length ≤ 1100) ∧ (fewM l).flatten.length ≤ 30000 := few_le l 0 30000 (by omega)
/-- They are the list's beginning. -/
theorem few_take : ∀ (l : List (List UInt8)) (i left : Nat), fewF i left l = l.take (fewF i left l).length
  | [], _, _ => by simp [fewF]
  | x :: t, i, left => by
    rw [fewF]
    split
    · simp
    · rw [List.length_cons, List.take_succ_cons, ← few_take t (i + 1) (left - x.length)]
theorem fewM_take (l : List (List UInt8)) : fewM l = l.take (fewM l).length := few_take l 0 30000

/-! ### How long bytes are -/
theorem putF_len : ∀ (l : List (List UInt8)) (last : List UInt8), last.length ≤ 1024 → (∀ x ∈ l, x.length ≤ 1024) → (putF last l).length ≤ l.length * 1042
  | [], _, _, _ => by simp [putF]
  | w :: t, last, hl, h => by
    have hw := h w (List.mem_cons_self ..)
    have hc := comM_le last w
    have h1 := numB_len (n := comM last w) (by omega)
    have hd : (w.drop (comM last w)).length ≤ 1024 := by rw [List.length_drop]; omega
    have h2 := numB_len (n := (w.drop (comM last w)).length) (by omega)
    have h3 := putF_len t w hw (fun x hx => h x (List.mem_cons_of_mem _ hx))
    rw [putF, List.length_append, List.length_append, List.length_append, List.length_cons]
    omega
theorem putM_len {l : List (List UInt8)} {b : List UInt8} (h : putM l = some b) : b.length ≤ 208409 := by
  unfold putM at h
  split at h
  · rename_i hr
    obtain ⟨h1, h2⟩ := rightW_le hr
    have h3 := putF_len l [] (by simp) h1
    have h4 := numB_len (n := l.length) (by omega)
    cases h
    rw [List.length_append]
    have : l.length * 1042 ≤ 200 * 1042 := Nat.mul_le_mul_right _ h2
    omega
  · cases h
theorem putF_snoc : ∀ (l : List (List UInt8)) (last w : List UInt8), putF last (l ++ [w]) = putF last l ++ (numB (comM (l.getLastD last) w) ++ (numB (w.drop (comM (l.getLastD last) w)).length ++ w.drop (comM (l.getLastD last) w)))
  | [], last, w => by simp [putF]
  | x :: t, last, w => by
    rw [List.cons_append, putF, putF, putF_snoc t x w]
    have : (x :: t).getLastD last = t.getLastD x := by cases t <;> rfl
    rw [this]
    simp only [List.append_assoc]
/-- What Take holds: the last word, and the bytes ahead, are no more than there were. -/
theorem takeNum_size {l u : List UInt8} {n : Nat} (h : takeNum l = some (n, u)) : u.length < l.length := (takeNum_lt h).2
theorem takeText_size {l s u : List UInt8} (h : takeText l = some (s, u)) : s.length + u.length < l.length := by
  have h1 := (takeText_inv h).1
  have h2 : 1 ≤ (numB s.length).length := by
    unfold numB
    split <;> simp
  rw [h1, List.length_append, List.length_append]
  omega
end Go.Proofs.Ytphoccjeakdkeaa
