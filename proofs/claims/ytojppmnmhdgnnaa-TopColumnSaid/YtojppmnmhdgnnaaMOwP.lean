/- A cell of a row of the call's own is set. -/
import Derived.Test.YtojppmnmhdgnnaaMBaCr
namespace Go.Proofs.Ytojppmnmhdgnnaa
set_option linter.unusedVariables false
set_option linter.unusedSimpArgs false
open Go.RowKit

theorem grown_set (w : World) (g i : Nat) (u : Value) : w.grownBy (w.setCell ⟨g, i, none⟩ u) (some g) := by
  refine ⟨rfl, rfl, rfl, ?_, fun k hk hn => ?_⟩
  · have := size_setCells g [u] i w
    exact Nat.le_of_eq this.symm
  · exact heap_setCell_other _ _ _ _ (fun e => hn (by rw [e]))
/-- A cell of a row of the call's own is set. -/
theorem Own.put {w : World} {base : Nat} {e : TypeId} {size g n c : Nat} {xs : List Value} (h : Own w base e size (some ⟨g, 0, none⟩) n c xs) {i : Nat} (hi : i < n * size) (u : Value) :
    Own (w.setCell ⟨g, i, none⟩ u) base e size (some ⟨g, 0, none⟩) n c (xs.set i u) ∧ w.grownBy (w.setCell ⟨g, i, none⟩ u) (some g) ∧ w.frozen? ⟨g, i, none⟩ = false := by
  have hl := h.1
  rcases h.2 with ⟨hv, _⟩ | ⟨g', cap, cur, hv, hg, hh, hnc, hcm, hcs, ht⟩
  · cases hv
  · injection hv with h1 h2 h3
    injection h1 with h1
    injection h1 with h1
    subst h1
    subst h3
    have hB : Blk w g e cur.toList := hh
    have hB2 := hB.set_ i u
    refine ⟨⟨by rw [List.length_set, hl], .inr ⟨g, c, (cur.toList.set i u).toArray, rfl, hg, hB2, hnc, hcm, ?_, ?_⟩⟩, ?_, hB.frozen i⟩
    · rw [List.size_toArray, List.length_set, Array.length_toList, hcs]
    · show List.take (n * size) (cur.toList.set i u) = _
      rw [← ht, List.take_set]
    · exact grown_set w g i u

end Go.Proofs.Ytojppmnmhdgnnaa
