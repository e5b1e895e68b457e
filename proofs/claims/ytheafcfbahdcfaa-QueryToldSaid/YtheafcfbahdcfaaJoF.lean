/- Walks: which values and rows may be laid; the first rows of a list. -/
import Derived.Test.YtheafcfbahdcfaaJoW
namespace Go.Proofs.Ytheafcfbahdcfaa
open Go.RowKit

attribute [local go_sem ↓] Go.wp_at_zero Go.wp_at_succ

/-- Whether a value may be. -/
def rightV (v : Va) : Bool :=
  if v.k = 0 then decide (v.n = 0 ∧ v.s = []) else if v.k = 1 then decide ((v.n = 0 ∨ v.n = 1) ∧ v.s = []) else if v.k = 2 then decide (v.s = []) else if v.k = 3 then decide (v.n = 0 ∧ v.s.length ≤ 1024) else false
/-- Why a row can't be laid. -/
def mayR (r : RowM) : Int := if 32 < r.length then 3 else if r.all rightV then 0 else 7

theorem St8_nil_cmp (s : List UInt8) : ((St8 s).toList == (⟨#[]⟩ : ByteArray).toList) = decide (s = []) := St8_cmp s []
theorem St8_empty (s : List UInt8) : (St8 s).toList.isEmpty = decide (s = []) := by
  rw [St8_list]
  cases s <;> simp
theorem St8_nil_eq (s : List UInt8) : (St8 s == ⟨#[]⟩) = decide (s = []) := St8_eq s []
theorem St8_nil_iff (s : List UInt8) : (St8 s = ⟨#[]⟩) ↔ s = [] := ⟨fun h => St8_inj (m := []) h, fun h => by rw [h]; rfl⟩

theorem rcells_ne {r : RowM} (h : 0 < r.length) : rcells r ≠ [] := fun e => by
  have := rcells_len r
  rw [e] at this
  simp at this
  omega
/-- A row that may be laid, of short texts. -/
structure small (r : RowM) : Prop where
  may : mayR r = 0
  txt : ∀ v ∈ r, v.s.length ≤ 200
theorem small_len {r : RowM} (h : small r) : r.length ≤ 32 := by
  have := h.may
  unfold mayR at this
  split at this
  · exact absurd this (by decide)
  · omega
theorem small_right {r : RowM} (h : small r) : ∀ v ∈ r, rightV v = true := by
  have := h.may
  unfold mayR at this
  split at this
  · exact absurd this (by decide)
  · split at this
    · rename_i e; exact List.all_eq_true.1 e
    · exact absurd this (by decide)

end Go.Proofs.Ytheafcfbahdcfaa
