/- Values, rows and lists of rows that came in as arguments, as plain data. Nodes that came in as arguments, as plain data. -/
import Derived.Test.YtipnglidepfkbaaDoorMGrB
import Derived.Test.YtipnglidepfkbaaDoorMGrH
import Derived.Test.YtipnglidepfkbaaDoorMGrC
namespace Go.Proofs.YtipnglidepfkbaaDoor
set_option linter.unusedVariables false
set_option linter.unusedSimpArgs false
open Go.RowKit

theorem Reads.str {P : Program} {w : World} {t : TypeId} {cs : List Value} (ht : P.underlying t = some .string) (h : Reads P w t cs) : ∃ s : List UInt8, cs = [.string (St8 s)] ∧ s.length ≤ maxLen := by
  obtain ⟨H, enc, fuel, x, h⟩ := h
  obtain ⟨s, h1, _, h2⟩ := DataW.trod_string ht h
  refine ⟨s.data.toList, h1, ?_⟩
  have : s.data.toList.length = s.size := Array.length_toList
  exact Nat.le_trans (Nat.le_of_eq this) h2
theorem va_of {w : World} {cs : List Value} (h : Reads Tryd.prog w 44 cs) : ∃ v : Va, cs = v.cells ∧ v.ok := by
  obtain ⟨hlen, hf⟩ := h.cells Tryd.underlying44 (by kernel_rfl) (by kernel_rfl)
  match cs, hlen with
  | [c0, c1, c2], _ =>
    obtain ⟨_, e0, f0⟩ := hf 0 _ rfl
    obtain ⟨_, e1, f1⟩ := hf 1 _ rfl
    obtain ⟨_, e2, f2⟩ := hf 2 _ rfl
    cases e0; cases e1; cases e2
    obtain ⟨k, h0, w0⟩ := f0.int Tryd.underlying5
    obtain ⟨n, h1, w1⟩ := f1.int Tryd.underlying3
    obtain ⟨s, h2, w2⟩ := f2.str Tryd.underlying9
    cases h0; cases h1; cases h2
    unfold maxLen at w2
    refine ⟨⟨k, n, s⟩, rfl, wf_u8_bounds w0, wf_i64_bounds w1, by omega⟩

theorem addr_add_add (a : Addr) (i j : Nat) : (a.add i).add j = a.add (i + j) := by
  by_cases hi : i = 0
  · subst hi; simp [Addr.add]
  · by_cases hj : j = 0
    · subst hj; simp [Addr.add]
    · simp [Addr.add, hi, hj, Nat.add_assoc]

set_option maxRecDepth 100000 in
theorem row_of {w : World} {X : Option Addr} {n c : Nat} {t : TypeId} (ht : Tryd.prog.underlying t = some (.slice 44)) (h : Reads Tryd.prog w t [.slice X n c]) : ∃ r : RowM, r.length = n ∧ Rd w X (rcells r) ∧ (∀ v ∈ r, v.ok) ∧ n ≤ c ∧ c ≤ maxLen := by
  obtain ⟨X', n', c', hcs, hnc, hcm, hX, hel⟩ := h.slice ht
  cases hcs
  have h3 : Tryd.prog.cellsOf 44 = 3 := by kernel_rfl
  rw [h3] at hel
  have key : ∀ m, m ≤ n → ∃ r : RowM, r.length = m ∧ (∀ v ∈ r, v.ok) ∧ ∀ i v, r[i]? = some v → ∃ ad, X = some ad ∧ ∀ t, t < 3 → w.cell? (ad.add (i * 3 + t)) = v.cells[t]? := by
    intro m
    induction m with
    | zero => intro _; exact ⟨[], rfl, by simp, by simp⟩
    | succ m ih =>
      intro hm
      obtain ⟨r, h1, h2, h4⟩ := ih (by omega)
      obtain ⟨ad, cs, hx, _, hc, hr⟩ := hel m (by omega)
      obtain ⟨v, rfl, hv⟩ := va_of hr
      refine ⟨r ++ [v], by simp [h1], fun y hy => ?_, fun i y hy => ?_⟩
      · rcases List.mem_append.1 hy with hy | hy
        · exact h2 y hy
        · rw [List.mem_singleton.1 hy]; exact hv
      · rw [List.getElem?_append] at hy
        split at hy
        · exact h4 i y hy
        · have hi : i = m := by
            have := (List.getElem?_eq_some_iff.1 hy).1
            simp at this
            omega
          subst hi
          simp [h1] at hy
          subst hy
          refine ⟨ad, hx, fun t ht => ?_⟩
          have := hc t ht
          rwa [addr_add_add] at this
  obtain ⟨r, h1, h2, h4⟩ := key n (Nat.le_refl _)
  refine ⟨r, h1, ?_, h2, hnc, hcm⟩
  cases X with
  | none =>
    have : r = [] := List.eq_nil_of_length_eq_zero (by have := (hX rfl).1; omega)
    subst this
    exact Rd.nil _ _
  | some ad =>
    refine rd_of_cells fun i u hu => ?_
    have hlt : i / 3 < r.length := by
      have := (List.getElem?_eq_some_iff.1 hu).1
      have hla := rcells_len r
      omega
    obtain ⟨ad', e, hc⟩ := h4 (i / 3) _ (List.getElem?_eq_getElem hlt)
    injection e with e
    subst e
    have h := hc (i % 3) (Nat.mod_lt _ (by omega))
    rw [show i / 3 * 3 + i % 3 = i from by omega] at h
    rw [h]
    have := rcells_get r (i / 3) _ (i % 3) (List.getElem?_eq_getElem hlt) (Nat.mod_lt _ (by omega))
    rw [show i / 3 * 3 + i % 3 = i from by omega, hu] at this
    exact this.symm

set_option maxRecDepth 100000 in
theorem rows_of {w : World} {X : Option Addr} {n c : Nat} (h : Reads Tryd.prog w 24 [.slice X n c]) : ∃ (hs : List Value) (rs : List RowM), rs.length = n ∧ Rd w X hs ∧ Rows w hs rs ∧ n ≤ c ∧ c ≤ maxLen := by
  obtain ⟨X', n', c', hcs, hnc, hcm, hX, hel⟩ := h.slice Tryd.underlying24
  cases hcs
  have h1c : Tryd.prog.cellsOf 30 = 1 := by kernel_rfl
  rw [h1c] at hel
  have key : ∀ m, m ≤ n → ∃ (hs : List Value) (rs : List RowM), rs.length = m ∧ Rows w hs rs ∧ ∀ i v, hs[i]? = some v → ∃ ad, X = some ad ∧ w.cell? (ad.add i) = some v := by
    intro m
    induction m with
    | zero => intro _; exact ⟨[], [], rfl, Rows.nil _, by simp⟩
    | succ m ih =>
      intro hm
      obtain ⟨hs, rs, h1, h2, h4⟩ := ih (by omega)
      obtain ⟨ad, cs, hx, hcl, hc, hr⟩ := hel m (by omega)
      obtain ⟨A, rn, rc, hcs, _⟩ := hr.slice Tryd.underlying30
      subst hcs
      obtain ⟨r, hrl, hrd, hok, hrc, hrm⟩ := row_of Tryd.underlying30 hr
      refine ⟨hs ++ [.slice A rn rc], rs ++ [r], by simp [h1], ⟨by rw [List.length_append, List.length_append, h2.len]; rfl, fun i q hi => ?_⟩, fun i y hy => ?_⟩
      · rw [List.getElem?_append] at hi
        split at hi
        · obtain ⟨A', c', e1, e2⟩ := h2.at_ i q hi
          exact ⟨A', c', by rw [List.getElem?_append_left (List.getElem?_eq_some_iff.1 e1).1]; exact e1, e2⟩
        · have e : i = rs.length := by
            have := (List.getElem?_eq_some_iff.1 hi).1
            simp at this
            omega
          subst e
          simp at hi
          subst hi
          exact ⟨A, rc, by rw [← h2.len, hrl]; simp, by rw [hrl]; exact hrc, hrm, hrd, hok⟩
      · rw [List.getElem?_append] at hy
        split at hy
        · exact h4 i y hy
        · have hi : i = m := by
            have := (List.getElem?_eq_some_iff.1 hy).1
            have := h2.len
            simp at *
            omega
          subst hi
          have hll : hs.length = i := by rw [h2.len, h1]
          simp [hll] at hy
          subst hy
          refine ⟨ad, hx, ?_⟩
          have := hc 0 (by omega)
          rw [Nat.mul_one] at this
          have e0 : (ad.add i).add 0 = ad.add i := by simp [Addr.add]
          rw [e0] at this
          exact this
  obtain ⟨hs, rs, h1, h2, h4⟩ := key n (Nat.le_refl _)
  refine ⟨hs, rs, h1, ?_, h2, hnc, hcm⟩
  cases X with
  | none =>
    have : hs = [] := List.eq_nil_of_length_eq_zero (by have := (hX rfl).1; rw [h2.len]; omega)
    subst this
    exact Rd.nil _ _
  | some ad =>
    refine rd_of_cells fun i u hu => ?_
    obtain ⟨ad', e, hc⟩ := h4 i u hu
    injection e with e
    subst e
    exact hc
end Go.Proofs.YtipnglidepfkbaaDoor
namespace Go.Proofs.YtipnglidepfkbaaDoor
set_option linter.unusedVariables false
set_option linter.unusedSimpArgs false
open Go.RowKit

theorem nd_of {w : World} {cs : List Value} (h : Reads Tryd.prog w 46 cs) : ∃ n : Nd, cs = n.cells ∧ n.ok := by
  have hlen := (h.struct Tryd.underlying46).1
  have h6 : Tryd.prog.cellsOf 46 = 6 := by kernel_rfl
  have hu8 : Tryd.prog.cellsOf 5 = 1 := by kernel_rfl
  have hin : Tryd.prog.cellsOf 3 = 1 := by kernel_rfl
  have hva : Tryd.prog.cellsOf 44 = 3 := by kernel_rfl
  rw [h6] at hlen
  match cs, hlen with
  | [c0, c1, c2, c3, c4, c5], _ =>
    have f0 : Reads Tryd.prog w 5 [c0] := h.field Tryd.underlying46 0 (off := 0) (k := 1) rfl rfl rfl hu8
    have f1 : Reads Tryd.prog w 3 [c1] := h.field Tryd.underlying46 1 (off := 1) (k := 1) rfl rfl rfl hin
    have f2 : Reads Tryd.prog w 3 [c2] := h.field Tryd.underlying46 2 (off := 2) (k := 1) rfl rfl rfl hin
    have f3 : Reads Tryd.prog w 44 [c3, c4, c5] := h.field Tryd.underlying46 3 (off := 3) (k := 3) rfl rfl rfl hva
    obtain ⟨op, h0, w0⟩ := f0.int Tryd.underlying5
    obtain ⟨col, h1, w1⟩ := f1.int Tryd.underlying3
    obtain ⟨kids, h2, w2⟩ := f2.int Tryd.underlying3
    obtain ⟨v, h3, w3⟩ := va_of f3
    cases h0; cases h1; cases h2
    unfold Va.cells at h3
    cases h3
    exact ⟨⟨op, col, kids, v⟩, rfl, wf_u8_bounds w0, wf_i64_bounds w1, wf_i64_bounds w2, w3⟩

theorem nodes_of {w : World} {X : Option Addr} {n c : Nat} (h : Reads Tryd.prog w 23 [.slice X n c]) : ∃ l : List Nd, l.length = n ∧ Rd w X (ncells l) ∧ (∀ x ∈ l, x.ok) ∧ n ≤ c ∧ c ≤ maxLen :=
  Reads.list Nd.cells Nd.ok 6 (by omega) (fun _ => rfl) Tryd.underlying23 (by kernel_rfl) (fun _ => nd_of) h
end Go.Proofs.YtipnglidepfkbaaDoor
