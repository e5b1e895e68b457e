/- The walk of PagesBursts: it returns true, and turns nothing that was there. -/
import Derived.Test.YtjjmnjgkodiibaaMLw5a
import Derived.Test.YtjjmnjgkodiibaaMPagG
import Derived.Test.YtjjmnjgkodiibaaMPagB
import Derived.Test.YtjjmnjgkodiibaaMStr
namespace Go.Proofs.Ytjjmnjgkodiibaa
open Go.RowKit

attribute [local go_sem ↓] Go.wp_at_zero Go.wp_at_succ

/-- The store at the head of a statement. -/
theorem sto_base {w : World} {B B' bs : Nat} {s : Pg.St} (h : Sto w B bs s) (hB : B' ≤ B) : Sto w B' bs s := by
  obtain ⟨bp, qs, h⟩ := h
  exact ⟨bp, qs, ⟨by have := h.hs; omega, by have := h.hp; omega, h.st, h.row, h.len, h.most, fun i l hi => by
    obtain ⟨g, h1, h2, h3, h4⟩ := h.some_ i l hi
    exact ⟨g, h1, by omega, h3, h4⟩, h.none_, h.inj⟩⟩

/-- What the rounds of a burst hand on: the page's bytes, which bits of the window were turned. -/
structure Burst (P0 l : List UInt8) (f k V : Nat) (t : Bool) : Prop where
  win : Crc.Win k V
  more : Crc.more 4294967295 l = Crc.turnN (512 - f) V
  len : l.length = 64
  on : t = true → V ≠ 0
  off : t = false → l = P0

end Go.Proofs.Ytjjmnjgkodiibaa
