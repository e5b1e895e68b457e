/- Values, rows and lists of rows that came in as arguments, as plain data. -/
import Derived.Test.YtojppmnmhdgnnaaGreatMJoMW
import Derived.Test.YtojppmnmhdgnnaaGreatMArIn
namespace Go.Proofs.YtojppmnmhdgnnaaGreat
set_option linter.unusedVariables false
set_option linter.unusedSimpArgs false
open Go.RowKit

theorem Reads.str {P : Program} {w : World} {t : TypeId} {cs : List Value} (ht : P.underlying t = some .string) (h : Reads P w t cs) : ∃ s : List UInt8, cs = [.string (St8 s)] ∧ s.length ≤ maxLen := by
  obtain ⟨H, enc, fuel, x, h⟩ := h
  obtain ⟨s, h1, _, h2⟩ := DataW.trod_string ht h
  refine ⟨s.data.toList, h1, ?_⟩
  have : s.data.toList.length = s.size := Array.length_toList
  exact Nat.le_trans (Nat.le_of_eq this) h2
theorem va_of {w : World} {cs : List Value} (h : Reads Tryz.prog w 60 cs) : ∃ v : Va, cs = v.cells ∧ v.ok := by
  obtain ⟨hlen, hf⟩ := h.cells Tryz.underlying60 (by kernel_rfl) (by kernel_rfl)
  match cs, hlen with
  | [c0, c1, c2], _ =>
    obtain ⟨_, e0, f0⟩ := hf 0 _ rfl
    obtain ⟨_, e1, f1⟩ := hf 1 _ rfl
    obtain ⟨_, e2, f2⟩ := hf 2 _ rfl
    cases e0; cases e1; cases e2
    obtain ⟨k, h0, w0⟩ := f0.int Tryz.underlying5
    obtain ⟨n, h1, w1⟩ := f1.int Tryz.underlying3
    obtain ⟨s, h2, w2⟩ := f2.str Tryz.underlying9
    cases h0; cases h1; cases h2
    unfold maxLen at w2
    refine ⟨⟨k, n, s⟩, rfl, wf_u8_bounds w0, wf_i64_bounds w1, by omega⟩

theorem addr_add_add (a : Addr) (i j : Nat) : (a.add i).add j = a.add (i + j) := by
  by_cases hi : i = 0
  · subst hi; simp [Addr.add]
  · by_cases hj : j = 0
    · subst hj; simp [Addr.add]
    · simp [Addr.add, hi, hj, Nat.add_assoc]

set_option maxRecDepth 100000 in
theorem row_of {w : World} {X : Option Addr} {n c : Nat} {t : TypeId} (ht : Tryz.prog.underlying t = some (.slice 60)) (h : Reads Tryz.prog w t [.slice X n c]) : ∃ r : RowM, r.length = n ∧ Rd w X (rcells r) ∧ (∀ v ∈ r, v.ok) ∧ n ≤ c ∧ c ≤ maxLen := by
  obtain ⟨X', n', c', hcs, hnc, hcm, hX, hel⟩ := h.slice ht
  cases hcs
  have h3 : Tryz.prog.cellsOf 60 = 3 := by kernel_rfl
  rw [h3] at hel
  have key : ∀ m, m ≤ n → ∃ r : RowM, r.length = m ∧ (∀ v ∈ r, v.ok) ∧ ∀ i v, r[i]? = some v → ∃ ad, X = some ad ∧ ∀ t, t < 3 → w.cell? (ad.add (i * 3 + t)) = v.cells[t]? := by
    intro m
    induction m with
    | zero => intro _; exact ⟨[], rfl, by simp, by simp⟩
    | succ m ih =>
      intro hm
      obtain ⟨r, h1, h2, h4⟩ := ih (by omega)
      obtain ⟨ad, cs, hx, _, hc, hr⟩ := hel m (by omega)
      obtain ⟨v, rfl, hv⟩ := va_of hr
      refine ⟨r ++ [v], by simp [h1], fun y hy => ?_, fun i y hy => ?_⟩
      · rcases List.mem_append.1 hy with hy | hy
        · exact h2 y hy
        · rw [List.mem_singleton.1 hy]; exact hv
      · rw [List.getElem?_append] at hy
        split at hy
        · exact h4 i y hy
        · have hi : i = m := by
            have := (List.getElem?_eq_some_iff.1 hy).1
            simp at this
            omega
          subst hi
          simp [h1] at hy
          subst hy
          refine ⟨ad, hx, fun t ht => ?_⟩
          have := hc t ht
          rwa [addr_add_add] at this
  obtain ⟨r, h1, h2, h4⟩ := key n (Nat.le_refl _)
  refine ⟨r, h1, ?_, h2, hnc, hcm⟩
  cases X with
  | none =>
    have : r = [] := List.eq_nil_of_length_eq_zero (by have := (hX rfl).1; omega)
    subst this
    exact Rd.nil _ _
  | some ad =>
    refine rd_of_cells fun i u hu => ?_
    have hlt : i / 3 < r.length := by
      have := (List.getElem?_eq_some_iff.1 hu).1
      have hla := rcells_len r
      omega
    obtain ⟨ad', e, hc⟩ := h4 (i / 3) _ (List.getElem?_eq_getElem hlt)
    injection e with e
    subst e
    have h := hc (i % 3) (Nat.mod_lt _ (by omega))
    rw [show i / 3 * 3 + i % 3 = i from by omega] at h
    rw [h]
    have := rcells_get r (i / 3) _ (i % 3) (List.getElem?_eq_getElem hlt) (Nat.mod_lt _ (by omega))
    rw [show i / 3 * 3 + i % 3 = i from by omega, hu] at this
    exact this.symm

end Go.Proofs.YtojppmnmhdgnnaaGreat
