/- Walks: what a node is, and whether it may be. -/
import Derived.Test.YtheafcfbahdcfaaAkD
import Derived.Test.YtheafcfbahdcfaaAkG
import Derived.Test.YtheafcfbahdcfaaOcR
namespace Go.Proofs.Ytheafcfbahdcfaa
open Go.RowKit

attribute [local go_sem ↓] Go.wp_at_zero Go.wp_at_succ

set_option maxRecDepth 100000 in
theorem asks_any (n : Nd) (w : World) : Calls Try.prog 38 #[n.agg] w fun e w' => e = .returned (.bool n.asks) ∧ Below w.heap.size w w' := by
  obtain ⟨op, col, kids, v⟩ := n
  have hv : Hid ((Nd.mk op col kids v).asks = decide (5 ≤ op ∧ op ≤ 8)) := rfl
  generalize (Nd.mk op col kids v).asks = R at *
  unfold Nd.agg
  by_cases h5 : 5 ≤ op
  · by_cases h8 : op ≤ 8
    · rw [decide_eq_true ⟨h5, h8⟩] at hv
      go_enter Try.func38, Try.ntmps38
      go_wp2_with fail
      go_ret
      rw [hv.out]
      exact ⟨rfl, (Below.refl _ _).alloc (Nat.le_refl _) _⟩
    · rw [decide_eq_false (by omega)] at hv
      go_enter Try.func38, Try.ntmps38
      go_wp2_with fail
      go_ret
      rw [hv.out]
      exact ⟨rfl, (Below.refl _ _).alloc (Nat.le_refl _) _⟩
  · rw [decide_eq_false (by omega)] at hv
    go_enter Try.func38, Try.ntmps38
    go_wp2_with fail
    go_ret
    rw [hv.out]
    exact ⟨rfl, (Below.refl _ _).alloc (Nat.le_refl _) _⟩

set_option maxRecDepth 100000 in
theorem kids_any (n : Nd) (w : World) : Calls Try.prog 45 #[n.agg] w fun e w' => e = .returned (.int .i64 n.parts) ∧ Below w.heap.size w w' := by
  obtain ⟨op, col, kids, v⟩ := n
  have hv : Hid ((Nd.mk op col kids v).parts = if op = 2 ∨ op = 3 then kids else if op = 4 then 1 else 0) := rfl
  generalize (Nd.mk op col kids v).parts = R at *
  unfold Nd.agg
  by_cases h2 : op = 2
  · subst h2
    rw [if_pos (.inl rfl)] at hv
    go_enter Try.func45, Try.ntmps45
    go_wp2_with fail
    go_ret
    rw [hv.out]
    exact ⟨rfl, (Below.refl _ _).alloc (Nat.le_refl _) _⟩
  · have e2 : (op == 2) = false := by rw [beq_eq_false_iff_ne]; exact h2
    by_cases h3 : op = 3
    · subst h3
      rw [if_pos (.inr rfl)] at hv
      go_enter Try.func45, Try.ntmps45
      go_wp2_with fail
      go_ret
      rw [hv.out]
      exact ⟨rfl, (Below.refl _ _).alloc (Nat.le_refl _) _⟩
    · have e3 : (op == 3) = false := by rw [beq_eq_false_iff_ne]; exact h3
      rw [if_neg (by omega)] at hv
      by_cases h4 : op = 4
      · subst h4
        rw [if_pos rfl] at hv
        go_enter Try.func45, Try.ntmps45
        go_wp2_with fail
        go_ret
        rw [hv.out]
        exact ⟨rfl, (Below.refl _ _).alloc (Nat.le_refl _) _⟩
      · have e4 : (op == 4) = false := by rw [beq_eq_false_iff_ne]; exact h4
        rw [if_neg h4] at hv
        go_enter Try.func45, Try.ntmps45
        go_wp2_with fail
        go_ret
        rw [hv.out]
        exact ⟨rfl, (Below.refl _ _).alloc (Nat.le_refl _) _⟩
end Go.Proofs.Ytheafcfbahdcfaa
