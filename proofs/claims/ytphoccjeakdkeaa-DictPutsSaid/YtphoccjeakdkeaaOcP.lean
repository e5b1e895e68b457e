/- Walks: a value that may be, boxed and unboxed; numbers and texts as bytes. -/
import Derived.Test.YtphoccjeakdkeaaOcW
import Derived.Lib.AppendStr
import Derived.Lib.AppendZeros
import Derived.Deep.RegionLaw
namespace Go.Proofs.Ytphoccjeakdkeaa
open Go.RowKit

attribute [local go_sem ↓] Go.wp_at_zero Go.wp_at_succ

/-- What a value that may be is. -/
theorem right_kinds {v : Va} (h : rightV v = true) : (v = ⟨0, 0, []⟩) ∨ (∃ t : Bool, v = ⟨1, if t then 1 else 0, []⟩) ∨ (∃ n, v = ⟨2, n, []⟩) ∨ (∃ s : List UInt8, v = ⟨3, 0, s⟩ ∧ s.length ≤ 1024) := by
  obtain ⟨k, n, s⟩ := v
  unfold rightV at h
  dsimp only at h
  split at h
  · rename_i hk
    obtain ⟨h1, h2⟩ := of_decide_eq_true h
    exact .inl (by rw [hk, h1, h2])
  · split at h
    · rename_i hk
      obtain ⟨h1, h2⟩ := of_decide_eq_true h
      rcases h1 with h1 | h1
      · exact .inr (.inl ⟨false, by rw [hk, h1, h2]; rfl⟩)
      · exact .inr (.inl ⟨true, by rw [hk, h1, h2]; rfl⟩)
    · split at h
      · rename_i hk
        exact .inr (.inr (.inl ⟨n, by rw [hk, of_decide_eq_true h]⟩))
      · split at h
        · rename_i hk
          obtain ⟨h1, h2⟩ := of_decide_eq_true h
          exact .inr (.inr (.inr ⟨s, by rw [hk, h1], h2⟩))
        · cases h

theorem ta_hit_bool (v : Value) (w : World) : (Instr.typeAssert (.iface 4 v) 20 4 true).run Try.prog w = .ok (.tuple #[v, .bool true]) w := by
  simp [Instr.typeAssert, run_underlying Try.underlying4, Result.andThen]
theorem ta_hit_int (v : Value) (w : World) : (Instr.typeAssert (.iface 3 v) 20 3 true).run Try.prog w = .ok (.tuple #[v, .bool true]) w := by
  simp [Instr.typeAssert, run_underlying Try.underlying3, Result.andThen]
theorem ta_hit_str (v : Value) (w : World) : (Instr.typeAssert (.iface 9 v) 20 9 true).run Try.prog w = .ok (.tuple #[v, .bool true]) w := by
  simp [Instr.typeAssert, run_underlying Try.underlying9, Result.andThen]
theorem ta_one_str (v : Value) (w : World) : (Instr.typeAssert (.iface 9 v) 20 9 false).run Try.prog w = .ok v w := by
  simp [Instr.typeAssert, run_underlying Try.underlying9, Result.andThen]
theorem ta_miss_bool {t : TypeId} (h : t ≠ 4) (v : Value) (w : World) : (Instr.typeAssert (.iface t v) 20 4 true).run Try.prog w = .ok (.tuple #[.bool false, .bool false]) w := by
  have hz : (zeroValue 4).run Try.prog w = .ok (.bool false) w := by kernel_rfl
  simp [Instr.typeAssert, run_underlying Try.underlying4, Result.andThen, h, hz]
theorem ta_miss_int {t : TypeId} (h : t ≠ 3) (v : Value) (w : World) : (Instr.typeAssert (.iface t v) 20 3 true).run Try.prog w = .ok (.tuple #[.int .i64 0, .bool false]) w := by
  have hz : (zeroValue 3).run Try.prog w = .ok (.int .i64 0) w := by kernel_rfl
  simp [Instr.typeAssert, run_underlying Try.underlying3, Result.andThen, h, hz]

end Go.Proofs.Ytphoccjeakdkeaa
