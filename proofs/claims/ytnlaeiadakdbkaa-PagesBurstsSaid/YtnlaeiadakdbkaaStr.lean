/- Strings made of bytes, and bytes made of strings. -/
import Derived.Test.YtnlaeiadakdbkaaCrcW
import Derived.Laws.IdiomStrings
namespace Go.Proofs.Ytnlaeiadakdbkaa
open Go.RowKit

/-- A string of these bytes. -/
abbrev St8 (l : List UInt8) : ByteArray := ⟨l.toArray⟩

theorem run_str (w : World) (A : Option Addr) (l : List UInt8) (n c : Nat) (hn : l.length = n) (hr : Rd w A (Bs l)) :
    (convert 22 9 (.slice A n c)).run Try.prog w = .ok (.string (St8 l)) w := by
  subst hn
  have hs : Try.prog.underlying 22 = some (.slice 5) := by kernel_rfl
  have he : Try.prog.underlying 5 = some (.int .u8) := by kernel_rfl
  have hd : Try.prog.underlying 9 = some .string := by kernel_rfl
  cases l with
  | nil =>
    cases A with
    | none =>
      rw [run_convert_bytes_string w _ _ _ none _ c hs he hd]
      simp [Conv.bytesToString]
      rfl
    | some a => exact run_convert_bytes_back w _ _ _ a c [] hs he hd (by simp)
  | cons x l =>
    obtain ⟨b, o, rfl, h⟩ := hr (by simp)
    refine run_convert_bytes_back w _ _ _ ⟨b, o, none⟩ c (x :: l) hs he hd fun j hj => ?_
    have := h j (B ((x :: l)[j])) (by rw [List.getElem?_map, List.getElem?_eq_getElem hj]; rfl)
    rw [Addr.add_mid]
    exact this
theorem St8_eq (l m : List UInt8) : (St8 l == St8 m) = decide (l = m) := by
  have e : (St8 l == St8 m) = (l.toArray == m.toArray) := rfl
  rw [e]
  by_cases h : l = m
  · subst h; simp
  · simp [h]
end Go.Proofs.Ytnlaeiadakdbkaa
