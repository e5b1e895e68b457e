/- Walks: rows laid one behind the other (slices.Concat). -/
import Derived.Test.YtheafcfbahdcfaaJoX
import Derived.Lib.AppendZeros
namespace Go.Proofs.Ytheafcfbahdcfaa
open Go.RowKit

attribute [local go_sem ↓] Go.wp_at_zero Go.wp_at_succ

theorem Own.base {w : World} {base base' : Nat} {e : TypeId} {size : Nat} {A : Option Addr} {n c : Nat} {xs : List Value} (h : Own w base e size A n c xs) (hb : base' ≤ base) : Own w base' e size A n c xs :=
  ⟨h.1, h.2.imp id fun ⟨g, cap, cur, hv, hg, rest⟩ => ⟨g, cap, cur, hv, Nat.le_trans hb hg, rest⟩⟩
theorem flat_take (rs : List RowM) {j : Nat} (hj : j < rs.length) : (rs.take (j + 1)).flatten = (rs.take j).flatten ++ rs[j] := by
  rw [List.take_succ_eq_append_getElem hj, List.flatten_append, List.flatten_singleton]
theorem flat_le (rs : List RowM) (j : Nat) : (rs.take j).flatten.length ≤ rs.flatten.length := by
  have h := congrArg (fun l => l.flatten.length) (List.take_append_drop j rs)
  simp only [List.flatten_append, List.length_append] at h
  omega

end Go.Proofs.Ytheafcfbahdcfaa
