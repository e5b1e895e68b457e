/- A text that came in as an argument. -/
import Derived.Test.YtphoccjeakdkeaaJoA
import Derived.WideShapes
namespace Go.Proofs.Ytphoccjeakdkeaa
open Go.RowKit Go.WideShapes

theorem Arg.str {P : Program} {w : World} {t : TypeId} {v : Value} (ht : P.underlying t = some .string) (h : Arg P w t v) : ∃ s : List UInt8, v = .string (St8 s) ∧ s.length ≤ maxLen := by
  obtain ⟨⟨b, hb⟩, hr⟩ := h
  obtain ⟨s, rfl⟩ := okWide_string ht hb
  obtain ⟨s', h1, h2⟩ := hr.str ht
  simp only [Value.cells] at h1
  have h3 : [Value.string s] = [Value.string (St8 s')] := h1
  cases h3
  exact ⟨s', rfl, h2⟩
end Go.Proofs.Ytphoccjeakdkeaa
