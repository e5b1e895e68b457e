/- Values, rows and lists of rows that came in as arguments, as plain data. -/
import Derived.Test.YtjfpflnijkokaaaJoX
import Derived.Test.YtjfpflnijkokaaaIn
namespace Go.Proofs.Ytjfpflnijkokaaa
open Go.RowKit

theorem Reads.str {P : Program} {w : World} {t : TypeId} {cs : List Value} (ht : P.underlying t = some .string) (h : Reads P w t cs) : ∃ s : List UInt8, cs = [.string (St8 s)] ∧ s.length ≤ maxLen := by
  obtain ⟨H, enc, fuel, x, h⟩ := h
  obtain ⟨s, h1, _, h2⟩ := DataW.trod_string ht h
  refine ⟨s.data.toList, h1, ?_⟩
  have : s.data.toList.length = s.size := Array.length_toList
  exact Nat.le_trans (Nat.le_of_eq this) h2
theorem addr_add_add (a : Addr) (i j : Nat) : (a.add i).add j = a.add (i + j) := by
  by_cases hi : i = 0
  · subst hi; simp [Addr.add]
  · by_cases hj : j = 0
    · subst hj; simp [Addr.add]
    · simp [Addr.add, hi, hj, Nat.add_assoc]

end Go.Proofs.Ytjfpflnijkokaaa
