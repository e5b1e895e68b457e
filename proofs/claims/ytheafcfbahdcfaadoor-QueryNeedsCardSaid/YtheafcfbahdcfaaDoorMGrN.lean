/- Walks: truths; what comes of a node that asks a column. Walks: the reference's truths of values. -/
import Derived.Test.YtheafcfbahdcfaaDoorMGrD
import Derived.Test.YtheafcfbahdcfaaDoorMGrC
import Derived.Test.YtheafcfbahdcfaaDoorMAkR
namespace Go.Proofs.YtheafcfbahdcfaaDoor
set_option linter.unusedVariables false
set_option linter.unusedSimpArgs false
open Go.RowKit

attribute [local go_sem ↓] Go.wp_at_zero Go.wp_at_succ

theorem known_bounds {a : Int} (h : 0 ≤ a ∧ a ≤ 255) : 0 ≤ known a ∧ known a ≤ 2 := by
  unfold known
  split <;> omega
theorem andT_bounds {a b : Int} (h : 0 ≤ a ∧ a ≤ 255) (h' : 0 ≤ b ∧ b ≤ 255) : 0 ≤ andT a b ∧ andT a b ≤ 2 := by
  have h1 := known_bounds h
  have h2 := known_bounds h'
  unfold andT
  omega
theorem orT_bounds {a b : Int} (h : 0 ≤ a ∧ a ≤ 255) (h' : 0 ≤ b ∧ b ≤ 255) : 0 ≤ orT a b ∧ orT a b ≤ 2 := by
  have h1 := known_bounds h
  have h2 := known_bounds h'
  unfold orT
  omega
theorem notT_bounds {a : Int} (h : 0 ≤ a ∧ a ≤ 255) : 0 ≤ notT a ∧ notT a ≤ 2 := by
  have h1 := known_bounds h
  unfold notT
  omega

end Go.Proofs.YtheafcfbahdcfaaDoor
namespace Go.Proofs.YtheafcfbahdcfaaDoor
set_option linter.unusedVariables false
set_option linter.unusedSimpArgs false
open Go.RowKit

attribute [local go_sem ↓] Go.wp_at_zero Go.wp_at_succ

theorem bless_irrefl : ∀ a : List UInt8, Op.bytesLess a a = false
  | [] => by unfold Op.bytesLess; rfl
  | x :: t => by
    have := bless_irrefl t
    unfold Op.bytesLess
    simp [this]
theorem less_str (s s' : List UInt8) : Op.bytesLess (St8 s).toList (St8 s').toList = Op.bytesLess s s' := by rw [St8_list, St8_list]
end Go.Proofs.YtheafcfbahdcfaaDoor
