/- Walks: a row's value in a column; whether two values are the same; rows that are the same. -/
import Derived.Test.YtheafcfbahdcfaaJoM
namespace Go.Proofs.Ytheafcfbahdcfaa
open Go.RowKit

attribute [local go_sem ↓] Go.wp_at_zero Go.wp_at_succ

theorem row_cells {w : World} {A : Option Addr} {r : RowM} (hr : Rd w A (rcells r)) {k : Nat} (hk : k < r.length) : ∃ b o, A = some ⟨b, o, none⟩ ∧ w.cell? ⟨b, o + k * 3, none⟩ = some (.int .u8 r[k].k) ∧ w.cell? ⟨b, o + k * 3 + 1, none⟩ = some (.int .i64 r[k].n) ∧ w.cell? ⟨b, o + k * 3 + 2, none⟩ = some (.string (St8 r[k].s)) := by
  have hne : rcells r ≠ [] := by
    intro e
    have := rcells_len r
    rw [e] at this
    simp at this
    omega
  obtain ⟨b, o, rfl, hh⟩ := hr hne
  have e := fun t ht => rcells_get r k r[k] t (List.getElem?_eq_getElem hk) ht
  refine ⟨b, o, rfl, ?_, ?_, ?_⟩
  · exact hh (k * 3 + 0) _ (e 0 (by omega))
  · have := hh (k * 3 + 1) _ (e 1 (by omega))
    rwa [← Nat.add_assoc] at this
  · have := hh (k * 3 + 2) _ (e 2 (by omega))
    rwa [← Nat.add_assoc] at this

def knownV (x y : Va) (t : Bool) : Int := if x.k = 0 ∨ y.k = 0 then 1 else if t then 2 else 0
theorem Va.ext' {x y : Va} (h1 : x.k = y.k) (h2 : x.n = y.n) (h3 : x.s = y.s) : x = y := by
  cases x; cases y; simp_all
theorem cell_keep {w w' : World} (hb : Below w.heap.size w w') {p : Addr} {v : Value} (h : w.cell? p = some v) : w'.cell? p = some v := by
  by_cases hp : p.block < w.heap.size
  · rw [hb.cell hp]; exact h
  · exfalso
    have e : w.heap[p.block]? = none := Array.getElem?_eq_none (by omega)
    simp [World.cell?, e] at h
theorem below_two {w w3 : World} {o1 o2 : Obj} (h : Below ((w.alloc o1).alloc o2).drew.heap.size ((w.alloc o1).alloc o2).drew w3) : Below w.heap.size w w3 := by
  have hb : Below w.heap.size w ((w.alloc o1).alloc o2).drew := by go_grown
  exact hb.trans (h.mono hb.size)
theorem va_cases (k n : Int) (s : List UInt8) (k' n' : Int) (s' : List UInt8) : (k = k' ∧ n = n' ∧ s = s') ∨ (¬ k = k') ∨ (k = k' ∧ ¬ n = n') ∨ (k = k' ∧ n = n' ∧ ¬ s = s') := by
  by_cases h1 : k = k'
  · by_cases h2 : n = n'
    · by_cases h3 : s = s'
      · exact .inl ⟨h1, h2, h3⟩
      · exact .inr (.inr (.inr ⟨h1, h2, h3⟩))
    · exact .inr (.inr (.inl ⟨h1, h2⟩))
  · exact .inr (.inl h1)
end Go.Proofs.Ytheafcfbahdcfaa
