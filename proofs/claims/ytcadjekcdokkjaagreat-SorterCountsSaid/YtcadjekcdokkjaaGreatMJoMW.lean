/- Values, rows and lists of rows: plain data, and how they lie in memory. Walks: a row's value in a column; whether two values are the same; rows that are the same. -/
import Derived.Test.YtcadjekcdokkjaaGreatMStSt
import Derived.Test.YtcadjekcdokkjaaGreatChecked
import Derived.Laws.IdiomStrings
namespace Go.Proofs.YtcadjekcdokkjaaGreat
set_option linter.unusedVariables false
set_option linter.unusedSimpArgs false
open Go.RowKit
structure Va where
 k : Int
 n : Int
 s : List UInt8
deriving DecidableEq
namespace Va
def cells (v : Va) : List Value := [.int .u8 v.k, .int .i64 v.n, .string (St8 v.s)]
def agg (v : Va) : Value := .agg #[.int .u8 v.k, .int .i64 v.n, .string (St8 v.s)]
structure ok (v : Va) : Prop where
 k : 0 ≤ v.k ∧ v.k ≤ 255
 n : -9223372036854775808 ≤ v.n ∧ v.n ≤ 9223372036854775807
 s : v.s.length ≤ 9223372036854775807
def nil : Va := ⟨0, 0, []⟩
theorem nil_ok : nil.ok := ⟨⟨by decide, by decide⟩, ⟨by decide, by decide⟩, by show 0 ≤ _; omega⟩
end Va
abbrev RowM := List Va
def rcells (r : RowM) : List Value := r.flatMap Va.cells
theorem rcells_len : ∀ r : RowM, (rcells r).length = r.length * 3
 | [] => rfl
 | v :: r => by
  have := rcells_len r
  unfold rcells at *
  rw [List.flatMap_cons, List.length_append, this, List.length_cons]
  show 3 + _ = _
  omega
theorem rcells_append (r q : RowM) : rcells (r ++ q) = rcells r ++ rcells q := by simp [rcells]
theorem rcells_get : ∀ (r : RowM) (j : Nat) (v : Va) (t : Nat), r[j]? = some v → t < 3 → (rcells r)[j * 3 + t]? = v.cells[t]?
 | [], j, a, t, h, _ => by simp at h
 | x :: l, 0, a, t, h, ht => by
  obtain rfl : x = a := by simpa using h
  unfold rcells
  rw [List.flatMap_cons, Nat.zero_mul, Nat.zero_add, List.getElem?_append_left (by exact ht)]
 | x :: l, j + 1, a, t, h, ht => by
  have := rcells_get l j a t (by simpa using h) ht
  unfold rcells at *
  rw [List.flatMap_cons, List.getElem?_append_right (by show 3 ≤ _; omega), show (j + 1) * 3 + t - x.cells.length = j * 3 + t from by show (j + 1) * 3 + t - 3 = _; omega]
  exact this
theorem rcells_one (r : RowM) : ∀ u ∈ rcells r, u.oneCell' = true := by
 intro u hu
 obtain ⟨v, _, h⟩ := List.mem_flatMap.1 hu
 simp [Va.cells] at h
 rcases h with rfl | rfl | rfl <;> rfl
def colAt (r : RowM) (c : Int) : Va := if c < 0 ∨ (r.length : Int) ≤ c then Va.nil else r.getD c.toNat Va.nil
structure Rows (w : World) (hs : List Value) (rs : List RowM) : Prop where
 len : hs.length = rs.length
 at_ : ∀ (i : Nat) (r : RowM), rs[i]? = some r → ∃ A c, hs[i]? = some (.slice A r.length c) ∧ r.length ≤ c ∧ c ≤ maxLen ∧ Rd w A (rcells r) ∧ ∀ v ∈ r, v.ok
structure RowsO (w : World) (B : Nat) (hs : List Value) (rs : List RowM) : Prop where
 len : hs.length = rs.length
 at_ : ∀ (i : Nat) (r : RowM), rs[i]? = some r → ∃ A c, hs[i]? = some (.slice A r.length c) ∧ Own w B 38 3 A r.length c (rcells r) ∧ ∀ v ∈ r, v.ok
namespace Rows
variable {w w' : World} {hs : List Value} {rs : List RowM}
theorem below (h : Rows w hs rs) (hb : Below w.heap.size w w') : Rows w' hs rs :=
 ⟨h.len, fun i r hi => by
  obtain ⟨A, c, h1, h2, h3, h4, h5⟩ := h.at_ i r hi
  exact ⟨A, c, h1, h2, h3, h4.below hb, h5⟩⟩
theorem take (h : Rows w hs rs) (n : Nat) : Rows w (hs.take n) (rs.take n) :=
 ⟨by rw [List.length_take, List.length_take, h.len], fun i r hi => by
  rw [List.getElem?_take] at hi
  split at hi
  ·obtain ⟨A, c, h1, h2⟩ := h.at_ i r hi
   exact ⟨A, c, by rw [List.getElem?_take, if_pos (by assumption)]; exact h1, h2⟩
  ·cases hi⟩
theorem nil (w : World) : Rows w [] [] := ⟨rfl, fun i r hi => by simp at hi⟩
end Rows
namespace RowsO
variable {w w' : World} {B : Nat} {hs : List Value} {rs : List RowM}
end RowsO
end Go.Proofs.YtcadjekcdokkjaaGreat
namespace Go.Proofs.YtcadjekcdokkjaaGreat
set_option linter.unusedVariables false
set_option linter.unusedSimpArgs false
open Go.RowKit
attribute [local go_sem ↓] Go.wp_at_zero Go.wp_at_succ
theorem row_cells {w : World} {A : Option Addr} {r : RowM} (hr : Rd w A (rcells r)) {k : Nat} (hk : k < r.length) : ∃ b o, A = some ⟨b, o, none⟩ ∧ w.cell? ⟨b, o + k * 3, none⟩ = some (.int .u8 r[k].k) ∧ w.cell? ⟨b, o + k * 3 + 1, none⟩ = some (.int .i64 r[k].n) ∧ w.cell? ⟨b, o + k * 3 + 2, none⟩ = some (.string (St8 r[k].s)) := by
 have hne : rcells r ≠ [] := by
  intro e
  have := rcells_len r
  rw [e] at this
  simp at this
  omega
 obtain ⟨b, o, rfl, hh⟩ := hr hne
 have e := fun t ht => rcells_get r k r[k] t (List.getElem?_eq_getElem hk) ht
 refine ⟨b, o, rfl, ?_, ?_, ?_⟩
 ·exact hh (k * 3 + 0) _ (e 0 (by omega))
 ·have := hh (k * 3 + 1) _ (e 1 (by omega))
  rwa [← Nat.add_assoc] at this
 ·have := hh (k * 3 + 2) _ (e 2 (by omega))
  rwa [← Nat.add_assoc] at this
theorem cell_keep {w w' : World} (hb : Below w.heap.size w w') {p : Addr} {v : Value} (h : w.cell? p = some v) : w'.cell? p = some v := by
 by_cases hp : p.block < w.heap.size
 ·rw [hb.cell hp]; exact h
 ·exfalso
  have e : w.heap[p.block]? = none := Array.getElem?_eq_none (by omega)
  simp [World.cell?, e] at h
theorem va_cases (k n : Int) (s : List UInt8) (k' n' : Int) (s' : List UInt8) : (k = k' ∧ n = n' ∧ s = s') ∨ (¬ k = k') ∨ (k = k' ∧ ¬ n = n') ∨ (k = k' ∧ n = n' ∧ ¬ s = s') := by
 by_cases h1 : k = k'
 ·by_cases h2 : n = n'
  ·by_cases h3 : s = s'
   ·exact .inl ⟨h1, h2, h3⟩
   ·exact .inr (.inr (.inr ⟨h1, h2, h3⟩))
  ·exact .inr (.inr (.inl ⟨h1, h2⟩))
 ·exact .inr (.inl h1)
end Go.Proofs.YtcadjekcdokkjaaGreat
