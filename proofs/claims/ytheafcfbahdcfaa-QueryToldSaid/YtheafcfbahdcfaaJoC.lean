/- Walks: how two values stand to each other. -/
import Derived.Test.YtheafcfbahdcfaaJoY
namespace Go.Proofs.Ytheafcfbahdcfaa
open Go.RowKit

attribute [local go_sem ↓] Go.wp_at_zero Go.wp_at_succ

def cmpI (a b : Int) : Int := if a < b then -1 else if b < a then 1 else 0
theorem nani_any (a : Int) (w : World) : Calls Try.prog 66 #[.int .i64 a] w fun e w' => e = .returned (.bool false) ∧ w = w' := by
  go_enter Try.func66, Try.ntmps66
  go_wp2_with fail
  go_ret
  exact ⟨by simp, rfl⟩
def cmpS (a b : List UInt8) : Int := if Op.bytesLess a b = true then -1 else if a = b then 0 else 1
def or3 (a b c : Int) : Int := if a ≠ 0 then a else if b ≠ 0 then b else c
def or3At (a b c : Int) (j : Nat) : Prop := (0 < j → a = 0) ∧ (1 < j → b = 0) ∧ (2 < j → c = 0)
/-- How two values stand to each other. -/
def cmpVa (x y : Va) : Int := or3 (cmpI x.k y.k) (cmpI x.n y.n) (cmpS x.s y.s)
theorem below_two' {w w3 : World} {o1 o2 : Obj} (h : Below ((w.alloc o1).alloc o2).heap.size ((w.alloc o1).alloc o2) w3) : Below w.heap.size w w3 := by
  have hb : Below w.heap.size w ((w.alloc o1).alloc o2) := by go_grown
  exact hb.trans (h.mono hb.size)
/-- How two values stand to each other by a rising key. -/
def oneV (x y : Va) : Int := if x.k = 0 ∧ y.k = 0 then 0 else if x.k = 0 then -1 else if y.k = 0 then 1 else cmpVa x y
end Go.Proofs.Ytheafcfbahdcfaa
