/- What the statements of layer 5 share: lists that are compared, and the document's examples. The walk of PagesBursts: it returns true, and turns nothing that was there. -/
import Derived.Test.YtojppmnmhdgnnaaMPgC
import Derived.Test.YtojppmnmhdgnnaaMPgD
import Derived.Test.YtojppmnmhdgnnaaMStSt
namespace Go.Proofs.Ytojppmnmhdgnnaa
set_option linter.unusedVariables false
set_option linter.unusedSimpArgs false
open Go.RowKit

attribute [local go_sem ↓] Go.wp_at_zero Go.wp_at_succ

theorem Rd.of_own_js {w : World} {base : Nat} {A : Option Addr} {n c : Nat} {l : List Nat} (h : Own w base 3 1 A n c (Is l)) : Rd w A (Js (l.map Int.ofNat)) := by
  rw [Js_Is]
  exact h.rd

def sh0 : Pg.St := [none, none]
def sh1 : Pg.St := Pg.putS sh0 (List.replicate 57 0)
def sh2 : Pg.St := Pg.dropS sh1 [0, 1]
theorem sh0_l : Pg.putL sh0 (List.replicate 57 0) = [0, 1] := by kernel_rfl
theorem sh0_e : Pg.putE sh0 (List.replicate 57 0) = 0 := by kernel_rfl
theorem sh1_e : Pg.allocE sh1 1 = 4 := by kernel_rfl
theorem sh1_l : Pg.allocL sh1 1 = [] := by kernel_rfl
theorem sh1_s : Pg.allocS sh1 1 = sh1 := by kernel_rfl
theorem sh2_e : Pg.allocE sh2 1 = 0 := by kernel_rfl
theorem sh2_l : Pg.allocL sh2 1 = [0] := by kernel_rfl

end Go.Proofs.Ytojppmnmhdgnnaa
namespace Go.Proofs.Ytojppmnmhdgnnaa
set_option linter.unusedVariables false
set_option linter.unusedSimpArgs false
open Go.RowKit

attribute [local go_sem ↓] Go.wp_at_zero Go.wp_at_succ

/-- The store at the head of a statement. -/
theorem sto_base {w : World} {B B' bs : Nat} {s : Pg.St} (h : Sto w B bs s) (hB : B' ≤ B) : Sto w B' bs s := by
  obtain ⟨bp, qs, h⟩ := h
  exact ⟨bp, qs, ⟨by have := h.hs; omega, by have := h.hp; omega, h.st, h.row, h.len, h.most, fun i l hi => by
    obtain ⟨g, h1, h2, h3, h4⟩ := h.some_ i l hi
    exact ⟨g, h1, by omega, h3, h4⟩, h.none_, h.inj⟩⟩

/-- What the rounds of a burst hand on: the page's bytes, which bits of the window were turned. -/
structure Burst (P0 l : List UInt8) (f k V : Nat) (t : Bool) : Prop where
  win : Crc.Win k V
  more : Crc.more 4294967295 l = Crc.turnN (512 - f) V
  len : l.length = 64
  on : t = true → V ≠ 0
  off : t = false → l = P0

end Go.Proofs.Ytojppmnmhdgnnaa
