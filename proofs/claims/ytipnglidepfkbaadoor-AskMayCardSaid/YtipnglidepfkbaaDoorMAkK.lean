/- Walks: the reference's lists of nodes, laid one behind the other and held against one another; the examples. -/
import Derived.Test.YtipnglidepfkbaaDoorMAkJ
namespace Go.Proofs.YtipnglidepfkbaaDoor
set_option linter.unusedVariables false
set_option linter.unusedSimpArgs false
open Go.RowKit

attribute [local go_sem ↓] Go.wp_at_zero Go.wp_at_succ

theorem always_cases {w : World} {l : List Nd} {A : Option Addr} {n : Nat} (hn : l.length = n) (hr : Rd w A (ncells l)) :
    (alwaysM l = false ∧ ((n : Int) == 1) = false) ∨ ∃ b o op, (((n : Int) == 1) = true ∧ (0 : Int) < (n : Int)) ∧ A = some ⟨b, o, none⟩ ∧ w.cell? ⟨b, o, none⟩ = some (.int .u8 op) ∧ alwaysM l = (op == 1) := by
  by_cases h1 : n = 1
  · subst h1
    obtain ⟨x, rfl, hx⟩ := alwaysM_one hn
    obtain ⟨b, o, rfl, c0, c1, c2, c3, c4, c5⟩ := node_cells hr (l := [x]) (j := 0) (n := x) rfl
    rw [Nat.zero_mul, Nat.add_zero] at c0
    exact .inr ⟨b, o, x.op, ⟨rfl, by omega⟩, rfl, c0, by rw [hx]; by_cases h : x.op = 1 <;> simp [h]⟩
  · exact .inl ⟨alwaysM_many (by rw [hn]; exact h1), by rw [beq_eq_false_iff_ne]; omega⟩

end Go.Proofs.YtipnglidepfkbaaDoor
