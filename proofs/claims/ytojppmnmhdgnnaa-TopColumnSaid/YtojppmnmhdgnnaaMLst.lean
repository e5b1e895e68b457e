/- A slice that came in, of elements of k cells each, as a list. -/
import Derived.Test.YtojppmnmhdgnnaaMArIn
namespace Go.Proofs.Ytojppmnmhdgnnaa
set_option linter.unusedVariables false
set_option linter.unusedSimpArgs false
open Go.RowKit Go.WideShapes

theorem addr_add_add' (a : Addr) (i j : Nat) : (a.add i).add j = a.add (i + j) := by
  by_cases hi : i = 0
  · subst hi; simp [Addr.add]
  · by_cases hj : j = 0
    · subst hj; simp [Addr.add]
    · simp [Addr.add, hi, hj, Nat.add_assoc]
theorem flat_len {α : Type} (enc : α → List Value) (k : Nat) (henc : ∀ x, (enc x).length = k) : ∀ l : List α, (l.flatMap enc).length = l.length * k
  | [] => by simp
  | x :: l => by
    rw [List.flatMap_cons, List.length_append, flat_len enc k henc l, henc, List.length_cons, Nat.succ_mul, Nat.add_comm]
theorem flat_get {α : Type} (enc : α → List Value) (k : Nat) (henc : ∀ x, (enc x).length = k) : ∀ (l : List α) (j : Nat) (x : α) (t : Nat), l[j]? = some x → t < k → (l.flatMap enc)[j * k + t]? = (enc x)[t]?
  | [], j, x, t, h, _ => by simp at h
  | y :: l, 0, x, t, h, ht => by
    obtain rfl : y = x := by simpa using h
    rw [List.flatMap_cons, Nat.zero_mul, Nat.zero_add, List.getElem?_append_left (by rw [henc]; exact ht)]
  | y :: l, j + 1, x, t, h, ht => by
    have h1 := flat_get enc k henc l j x t (by simpa using h) ht
    have h2 : (j + 1) * k + t = k + (j * k + t) := by rw [Nat.succ_mul]; omega
    rw [List.flatMap_cons, h2, List.getElem?_append_right (by rw [henc]; omega), henc, Nat.add_sub_cancel_left]
    exact h1
/-- A field of a struct that came in: k cells from off on. -/
theorem Reads.field {P : Program} {w : World} {t : TypeId} {cs : List Value} {fs : Array Field} (ht : P.underlying t = some (.struct fs)) (h : Reads P w t cs) (i : Nat) {f : Field} (hf : fs[i]? = some f) {u : TypeId} {off k : Nat} (hu : f.type = u) (ho : f.offset = off) (hk : P.cellsOf u = k) : Reads P w u ((cs.drop off).take k) := by
  have := (h.struct ht).2 i f hf
  rw [hu, ho, hk] at this
  exact this
/-- Elements read one by one. -/
theorem Reads.list {P : Program} {w : World} {t e : TypeId} {α : Type} (enc : α → List Value) (ok : α → Prop) (k : Nat) (hk : 0 < k) (henc : ∀ x, (enc x).length = k)
    (ht : P.underlying t = some (.slice e)) (hce : P.cellsOf e = k) (hone : ∀ cs, Reads P w e cs → ∃ x, cs = enc x ∧ ok x) {X : Option Addr} {n c : Nat} (h : Reads P w t [.slice X n c]) :
    ∃ l : List α, l.length = n ∧ Rd w X (l.flatMap enc) ∧ (∀ x ∈ l, ok x) ∧ n ≤ c ∧ c ≤ maxLen := by
  obtain ⟨X', n', c', hcs, hnc, hcm, hX, hel⟩ := h.slice ht
  cases hcs
  rw [hce] at hel
  have key : ∀ m, m ≤ n → ∃ r : List α, r.length = m ∧ (∀ v ∈ r, ok v) ∧ ∀ i v, r[i]? = some v → ∃ ad, X = some ad ∧ ∀ t, t < k → w.cell? (ad.add (i * k + t)) = (enc v)[t]? := by
    intro m
    induction m with
    | zero => intro _; exact ⟨[], rfl, by simp, by simp⟩
    | succ m ih =>
      intro hm
      obtain ⟨r, h1, h2, h4⟩ := ih (by omega)
      obtain ⟨ad, cs, hx, _, hc, hr⟩ := hel m (by omega)
      obtain ⟨v, rfl, hv⟩ := hone cs hr
      refine ⟨r ++ [v], by simp [h1], fun y hy => ?_, fun i y hy => ?_⟩
      · rcases List.mem_append.1 hy with hy | hy
        · exact h2 y hy
        · rw [List.mem_singleton.1 hy]; exact hv
      · rw [List.getElem?_append] at hy
        split at hy
        · exact h4 i y hy
        · have hi : i = m := by
            have := (List.getElem?_eq_some_iff.1 hy).1
            simp at this
            omega
          subst hi
          simp [h1] at hy
          subst hy
          refine ⟨ad, hx, fun t ht => ?_⟩
          have := hc t ht
          rwa [addr_add_add'] at this
  obtain ⟨r, h1, h2, h4⟩ := key n (Nat.le_refl _)
  refine ⟨r, h1, ?_, h2, hnc, hcm⟩
  cases X with
  | none =>
    have : r = [] := List.eq_nil_of_length_eq_zero (by have := (hX rfl).1; omega)
    subst this
    exact Rd.nil _ _
  | some ad =>
    refine rd_of_cells fun i u hu => ?_
    have hdm := Nat.div_add_mod i k
    have hmul : k * (i / k) = i / k * k := Nat.mul_comm _ _
    have hlt : i / k < r.length := by
      have h0 := (List.getElem?_eq_some_iff.1 hu).1
      rw [flat_len enc k henc] at h0
      exact (Nat.div_lt_iff_lt_mul hk).2 h0
    have hml := Nat.mod_lt i hk
    obtain ⟨ad', e, hc⟩ := h4 (i / k) _ (List.getElem?_eq_getElem hlt)
    injection e with e
    subst e
    have h := hc (i % k) hml
    rw [show i / k * k + i % k = i from by omega] at h
    rw [h]
    have := flat_get enc k henc r (i / k) _ (i % k) (List.getElem?_eq_getElem hlt) hml
    rw [show i / k * k + i % k = i from by omega, hu] at this
    exact this.symm
end Go.Proofs.Ytojppmnmhdgnnaa
