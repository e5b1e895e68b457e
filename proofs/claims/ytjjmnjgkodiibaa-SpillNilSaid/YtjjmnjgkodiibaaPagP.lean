/- The walks of package pages, on: bytes put onto pages. -/
import Derived.Test.YtjjmnjgkodiibaaPagA
namespace Go.Proofs.Ytjjmnjgkodiibaa
open Go.RowKit

theorem need_any (n : Nat) (w : World) (h : n ≤ 9223372036854775807) :
    Calls Try.prog 33 #[.int .i64 (n : Int)] w fun e w' => e = .returned (.int .i64 (Pg.need n : Nat)) ∧ w = w' := by
  by_cases hn : n < 1
  · have hp : Hid ((if n < 1 then 0 else (n - 1) / 56 + 1) = 0) := if_pos hn
    go_enter Try.func33, Try.ntmps33
    go_wp2
    go_ret
    exact ⟨by rw [Pg.need, hp.out]; rfl, rfl⟩
  · have hp : Hid ((if n < 1 then 0 else (n - 1) / 56 + 1) = (n - 1) / 56 + 1) := if_neg hn
    go_enter Try.func33, Try.ntmps33
    go_wp2
    go_ret
    refine ⟨?_, rfl⟩
    rw [Pg.need, hp.out]
    have e : (((n - 1) / 56 + 1 : Nat) : Int) = ((n : Int) - 1) / 56 + 1 := by omega
    rw [e]
    rfl

theorem need_low (n : Int) (w : World) (h : n < 1) :
    Calls Try.prog 33 #[.int .i64 n] w fun e w' => e = .returned (.int .i64 0) ∧ w = w' := by
  go_enter Try.func33, Try.ntmps33
  go_wp2
  go_ret
  exact ⟨rfl, rfl⟩

end Go.Proofs.Ytjjmnjgkodiibaa
