/- Walks: whether two rows, and two lists of rows, are the same. -/
import Derived.Test.YtheafcfbahdcfaaJoW
namespace Go.Proofs.Ytheafcfbahdcfaa
open Go.RowKit

attribute [local go_sem ↓] Go.wp_at_zero Go.wp_at_succ

theorem rd_drew2 {w : World} {q n : Nat} {A : Option Addr} {xs : List Value} (h : Rd w A xs) : Rd ((w.drewN q).drewN n) A xs :=
  Rd.below (w := w.drewN q) (h.below (below_drewN' (Below.refl _ _) q)) (below_drewN' (Below.refl _ _) n)
/-- Where a header of a list of rows lies. -/
theorem head_cell {w : World} {A : Option Addr} {hs : List Value} {rs : List RowM} (hr : Rd w A hs) (h : Rows w hs rs) {j : Nat} (hj : j < rs.length) :
    ∃ b o A' c, A = some ⟨b, o, none⟩ ∧ w.cell? ⟨b, o + j, none⟩ = some (.slice A' rs[j].length c) ∧ rs[j].length ≤ c ∧ c ≤ maxLen ∧ Rd w A' (rcells rs[j]) := by
  obtain ⟨A', c, h1, h2, h3, h4, _⟩ := h.at_ j rs[j] (List.getElem?_eq_getElem hj)
  obtain ⟨b, o, rfl, hh⟩ := hr (fun e => by rw [e] at h1; simp at h1)
  exact ⟨b, o, A', c, rfl, hh j _ h1, h2, h3, h4⟩

end Go.Proofs.Ytheafcfbahdcfaa
