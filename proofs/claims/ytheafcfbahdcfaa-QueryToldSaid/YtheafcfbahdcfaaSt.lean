/- Strings of bytes as lists; slices of bytes. -/
import Derived.Test.YtheafcfbahdcfaaCrcM
import Derived.Test.YtheafcfbahdcfaaChecked
import Derived.Laws.IdiomStrings
namespace Go.Proofs.Ytheafcfbahdcfaa
open Go.RowKit

/-- A string of these bytes. -/
def St8 (l : List UInt8) : ByteArray := ⟨l.toArray⟩
theorem St8_list (l : List UInt8) : (St8 l).toList = l := by rw [ByteArray.toList_eq]; rfl
theorem St8_inj {l m : List UInt8} (h : St8 l = St8 m) : l = m := by
  have := congrArg ByteArray.toList h
  rwa [St8_list, St8_list] at this
theorem St8_eq (l m : List UInt8) : (St8 l == St8 m) = decide (l = m) := by
  have e : (St8 l == St8 m) = (l.toArray == m.toArray) := rfl
  rw [e]
  by_cases h : l = m
  · subst h; simp
  · simp [h]
theorem St8_cmp (l m : List UInt8) : ((St8 l).toList == (St8 m).toList) = decide (l = m) := by
  rw [St8_list, St8_list]
  by_cases h : l = m
  · subst h; simp
  · simp [h]
theorem St8_size (l : List UInt8) : (St8 l).size = l.length := by simp [St8, ByteArray.size]

theorem E8 : ElemT Try.prog 34 5 1 1 (.int .u8 0) := ElemT.mk' (by kernel_rfl) (by kernel_rfl) rfl (by omega)
end Go.Proofs.Ytheafcfbahdcfaa
