/- What a cursor takes from pages: a plain law, with no program in sight. -/
import Derived.Test.YtjjmnjgkodiibaaMCuMW
import Derived.Test.YtjjmnjgkodiibaaMSpH
namespace Go.Proofs.Ytjjmnjgkodiibaa
open Go.RowKit
namespace Pg

/-- What Next comes to, where there are rows left: an error, or a row, the bytes behind it, the pages that were not read. -/
def nextR (s : St) : List Nat → List UInt8 → Sum Int (RowM × List UInt8 × List Nat)
  | [], p => match takeRow p with | some (r, u) => .inr (r, u, []) | none => .inl 6
  | i :: l, p => match takeRow p with | some (r, u) => .inr (r, u, i :: l) | none => if readE s (i : Int) = 0 then nextR s l (p ++ readB s (i : Int)) else .inl (readE s (i : Int))

theorem nextR_now {s : St} {l : List Nat} {p u : List UInt8} {r : RowM} (h : takeRow p = some (r, u)) : nextR s l p = .inr (r, u, l) := by
  cases l <;> (rw [nextR, h])
theorem nextR_end {s : St} {p : List UInt8} (h : takeRow p = none) : nextR s [] p = .inl 6 := by rw [nextR, h]
theorem nextR_err {s : St} {i : Nat} {l : List Nat} {p : List UInt8} (h : takeRow p = none) (he : readE s (i : Int) ≠ 0) : nextR s (i :: l) p = .inl (readE s (i : Int)) := by
  rw [nextR, h]
  dsimp only
  rw [if_neg he]
theorem nextR_on {s : St} {i : Nat} {l : List Nat} {p : List UInt8} (h : takeRow p = none) (he : readE s (i : Int) = 0) : nextR s (i :: l) p = nextR s l (p ++ readB s (i : Int)) := by
  rw [nextR, h]
  dsimp only
  rw [if_pos he]

/-- A row that may be laid, of values that are. -/
structure Fine (r : RowM) : Prop where
  may : mayR r = 0
  ok : ∀ v ∈ r, v.ok
theorem Fine.take {r : RowM} (h : Fine r) (U : List UInt8) : takeRow (rowB r ++ U) = some (r, U) := by
  obtain ⟨h1, h2⟩ := may_right h.may
  exact takeRow_put h1 h2 h.ok U
theorem Fine.short {r : RowM} (h : Fine r) {j : Nat} (hj : j < (rowB r).length) : takeRow ((rowB r).take j) = none := by
  obtain ⟨h1, h2⟩ := may_right h.may
  exact takeRow_short h1 h2 h.ok hj
/-- Bytes that begin as a row's do. -/
theorem Fine.cases {r : RowM} (h : Fine r) {p G U : List UInt8} (e : p ++ G = rowB r ++ U) : (∃ u, p = rowB r ++ u ∧ u ++ G = U ∧ takeRow p = some (r, u)) ∨ (p.length < (rowB r).length ∧ takeRow p = none) := by
  by_cases hl : (rowB r).length ≤ p.length
  · obtain ⟨u, hu, hg⟩ : ∃ u, p = rowB r ++ u ∧ u ++ G = U := by
      rcases List.append_eq_append_iff.1 e with ⟨a, h1, h2⟩ | ⟨a, h1, h2⟩
      · have ha : a = [] := by
          have := congrArg List.length h1
          rw [List.length_append] at this
          exact List.eq_nil_of_length_eq_zero (by omega)
        subst ha
        exact ⟨[], by rw [h1]; simp, by rw [h2]; simp⟩
      · exact ⟨a, h1, h2.symm⟩
    subst hu
    exact .inl ⟨u, rfl, hg, h.take u⟩
  · refine .inr ⟨by omega, ?_⟩
    have hp : p = (rowB r).take p.length := by
      have := congrArg (List.take p.length) e
      rw [List.take_left, List.take_append_of_le_length (by omega)] at this
      exact this
    rw [hp]
    exact h.short (by omega)

/-- The bytes on pages, one behind the other. -/
def onP (s : St) (l : List Nat) : List UInt8 := l.flatMap fun (i : Nat) => readB s (i : Int)
/-- All that lies ahead of a cursor reads as rows, and j bytes of nothing behind them. -/
structure Hon (s : St) (l : List Nat) (p : List UInt8) (rs : List RowM) (j : Nat) : Prop where
  eq : p ++ onP s l = rowsB rs ++ List.replicate j 0
  ok : ∀ i ∈ l, readE s (i : Int) = 0

theorem Hon.next {s : St} {r : RowM} {rs : List RowM} {j : Nat} (hr : Fine r) : ∀ {l : List Nat} {p : List UInt8}, Hon s l p (r :: rs) j → ∃ u l', nextR s l p = .inr (r, u, l') ∧ Hon s l' u rs j ∧ ∃ d, l = d ++ l'
  | [], p, h => by
    have e := h.eq
    have e2 : rowsB (r :: rs) = rowB r ++ rowsB rs := by simp [rowsB]
    rw [e2, List.append_assoc] at e
    rcases hr.cases e with ⟨u, h1, h2, h3⟩ | ⟨h1, h2⟩
    · exact ⟨u, [], nextR_now h3, ⟨h2, h.ok⟩, [], rfl⟩
    · exfalso
      have := congrArg List.length e
      simp only [onP, List.flatMap_nil, List.append_nil, List.length_append] at this
      omega
  | i :: l, p, h => by
    have e := h.eq
    have e2 : rowsB (r :: rs) = rowB r ++ rowsB rs := by simp [rowsB]
    rw [e2, List.append_assoc] at e
    rcases hr.cases e with ⟨u, h1, h2, h3⟩ | ⟨h1, h2⟩
    · exact ⟨u, i :: l, nextR_now h3, ⟨h2, h.ok⟩, [], rfl⟩
    · have h' : Hon s l (p ++ readB s (i : Int)) (r :: rs) j := ⟨by
        have := h.eq
        rw [onP, List.flatMap_cons, ← List.append_assoc] at this
        exact this, fun k hk => h.ok k (by simp [hk])⟩
      obtain ⟨u, l', e1, e2, d, e3⟩ := Hon.next hr h'
      exact ⟨u, l', by rw [nextR_on h2 (h.ok i (by simp))]; exact e1, e2, i :: d, by rw [e3]; rfl⟩
end Pg
end Go.Proofs.Ytjjmnjgkodiibaa
