/- Walks: a row's value in a column; whether two values are the same; rows that are the same. -/
import Derived.Test.YtipnglidepfkbaaDoorJoM
namespace Go.Proofs.YtipnglidepfkbaaDoor
open Go.RowKit

attribute [local go_sem ↓] Go.wp_at_zero Go.wp_at_succ

theorem row_cells {w : World} {A : Option Addr} {r : RowM} (hr : Rd w A (rcells r)) {k : Nat} (hk : k < r.length) : ∃ b o, A = some ⟨b, o, none⟩ ∧ w.cell? ⟨b, o + k * 3, none⟩ = some (.int .u8 r[k].k) ∧ w.cell? ⟨b, o + k * 3 + 1, none⟩ = some (.int .i64 r[k].n) ∧ w.cell? ⟨b, o + k * 3 + 2, none⟩ = some (.string (St8 r[k].s)) := by
  have hne : rcells r ≠ [] := by
    intro e
    have := rcells_len r
    rw [e] at this
    simp at this
    omega
  obtain ⟨b, o, rfl, hh⟩ := hr hne
  have e := fun t ht => rcells_get r k r[k] t (List.getElem?_eq_getElem hk) ht
  refine ⟨b, o, rfl, ?_, ?_, ?_⟩
  · exact hh (k * 3 + 0) _ (e 0 (by omega))
  · have := hh (k * 3 + 1) _ (e 1 (by omega))
    rwa [← Nat.add_assoc] at this
  · have := hh (k * 3 + 2) _ (e 2 (by omega))
    rwa [← Nat.add_assoc] at this

def knownV (x y : Va) (t : Bool) : Int := if x.k = 0 ∨ y.k = 0 then 1 else if t then 2 else 0
set_option maxRecDepth 100000 in
theorem known_any (x y : Va) (t : Bool) (w : World) :
    Calls Tryd.prog 82 #[x.agg, y.agg, .bool t] w fun e w' => e = .returned (.int .u8 (knownV x y t)) ∧ Below w.heap.size w w' := by
  have hv : Hid (knownV x y t = if x.k = 0 ∨ y.k = 0 then 1 else if t then 2 else 0) := rfl
  unfold Va.agg
  by_cases h1 : x.k = 0
  · rw [if_pos (.inl h1)] at hv
    go_enter Tryd.func82, Tryd.ntmps82
    go_wp2_with fail
    go_returns
    rw [hv.out]
    exact ⟨rfl, by go_grown⟩
  · by_cases h2 : y.k = 0
    · rw [if_pos (.inr h2)] at hv
      go_enter Tryd.func82, Tryd.ntmps82
      go_wp2_with fail
      go_returns
      rw [hv.out]
      exact ⟨rfl, by go_grown⟩
    · rw [if_neg (fun h => h.elim h1 h2)] at hv
      have e1 : (x.k == 0) = false := by simp [h1]
      have e2 : (y.k == 0) = false := by simp [h2]
      cases t
      · rw [if_neg (by decide)] at hv
        go_enter Tryd.func82, Tryd.ntmps82
        go_wp2_with fail
        go_returns
        rw [hv.out]
        exact ⟨rfl, by go_grown⟩
      · rw [if_pos rfl] at hv
        go_enter Tryd.func82, Tryd.ntmps82
        go_wp2_with fail
        go_returns
        rw [hv.out]
        exact ⟨rfl, by go_grown⟩

theorem Va.ext' {x y : Va} (h1 : x.k = y.k) (h2 : x.n = y.n) (h3 : x.s = y.s) : x = y := by
  cases x; cases y; simp_all
theorem cell_keep {w w' : World} (hb : Below w.heap.size w w') {p : Addr} {v : Value} (h : w.cell? p = some v) : w'.cell? p = some v := by
  by_cases hp : p.block < w.heap.size
  · rw [hb.cell hp]; exact h
  · exfalso
    have e : w.heap[p.block]? = none := Array.getElem?_eq_none (by omega)
    simp [World.cell?, e] at h
theorem below_two {w w3 : World} {o1 o2 : Obj} (h : Below ((w.alloc o1).alloc o2).drew.heap.size ((w.alloc o1).alloc o2).drew w3) : Below w.heap.size w w3 := by
  have hb : Below w.heap.size w ((w.alloc o1).alloc o2).drew := by go_grown
  exact hb.trans (h.mono hb.size)
theorem va_cases (k n : Int) (s : List UInt8) (k' n' : Int) (s' : List UInt8) : (k = k' ∧ n = n' ∧ s = s') ∨ (¬ k = k') ∨ (k = k' ∧ ¬ n = n') ∨ (k = k' ∧ n = n' ∧ ¬ s = s') := by
  by_cases h1 : k = k'
  · by_cases h2 : n = n'
    · by_cases h3 : s = s'
      · exact .inl ⟨h1, h2, h3⟩
      · exact .inr (.inr (.inr ⟨h1, h2, h3⟩))
    · exact .inr (.inr (.inl ⟨h1, h2⟩))
  · exact .inr (.inl h1)
set_option maxRecDepth 100000 in
theorem equal_any (x y : Va) (w : World) :
    Calls Tryd.prog 60 #[x.agg, y.agg] w fun e w' => e = .returned (.int .u8 (eqV x y)) ∧ Below w.heap.size w w' := by
  have hk := fun w' => known_any x y (decide (x = y)) w'
  have hv : knownV x y (decide (x = y)) = eqV x y := by
    unfold knownV eqV
    by_cases h : x = y <;> simp [h]
  rw [hv] at hk
  clear hv
  generalize eqV x y = E at *
  unfold Va.agg at *
  obtain ⟨k, n, s⟩ := x
  obtain ⟨k', n', s'⟩ := y
  dsimp only at *
  rcases va_cases k n s k' n' s' with ⟨rfl, rfl, rfl⟩ | h | ⟨rfl, h⟩ | ⟨rfl, rfl, h⟩
  · rw [decide_eq_true rfl] at hk
    have Hk := Lib.hid hk
    clear hk
    go_enter Tryd.func60, Tryd.ntmps60
    go_wp2_with fail
    go_region_held3 (fun w' => w'.cell? ⟨w.heap.size, 0, none⟩ = some (.int .u8 k) ∧ w'.cell? ⟨w.heap.size, 1, none⟩ = some (.int .i64 n) ∧ w'.cell? ⟨w.heap.size, 2, none⟩ = some (.string (St8 s)) ∧ w'.cell? ⟨w.heap.size + 1, 0, none⟩ = some (.int .u8 k) ∧ w'.cell? ⟨w.heap.size + 1, 1, none⟩ = some (.int .i64 n) ∧ w'.cell? ⟨w.heap.size + 1, 2, none⟩ = some (.string (St8 s)))
      (first | assumption | (refine ⟨?_, ?_, ?_, ?_, ?_, ?_⟩ <;> go_cell) | (refine ⟨?_, ?_, ?_, ?_, ?_, ?_⟩ <;> exact cell_keep hb3 (by go_cell)))
      (first | (go_at_call 82; refine (Hk.out _).mono ?_; rintro e w3 ⟨rfl, hb3⟩))
    go_wp2_with fail
    go_returns
    exact ⟨rfl, below_two hb3⟩
  · rw [decide_eq_false (fun e => h (congrArg Va.k e))] at hk
    have Hk := Lib.hid hk
    clear hk
    go_enter Tryd.func60, Tryd.ntmps60
    go_wp2_with fail
    go_region_held3 (fun w' => w'.cell? ⟨w.heap.size, 0, none⟩ = some (.int .u8 k) ∧ w'.cell? ⟨w.heap.size, 1, none⟩ = some (.int .i64 n) ∧ w'.cell? ⟨w.heap.size, 2, none⟩ = some (.string (St8 s)) ∧ w'.cell? ⟨w.heap.size + 1, 0, none⟩ = some (.int .u8 k') ∧ w'.cell? ⟨w.heap.size + 1, 1, none⟩ = some (.int .i64 n') ∧ w'.cell? ⟨w.heap.size + 1, 2, none⟩ = some (.string (St8 s')))
      (first | assumption | (refine ⟨?_, ?_, ?_, ?_, ?_, ?_⟩ <;> go_cell) | (refine ⟨?_, ?_, ?_, ?_, ?_, ?_⟩ <;> exact cell_keep hb3 (by go_cell)))
      (first | (go_at_call 82; refine (Hk.out _).mono ?_; rintro e w3 ⟨rfl, hb3⟩))
    go_wp2_with fail
    go_returns
    exact ⟨rfl, below_two hb3⟩
  · rw [decide_eq_false (fun e => h (congrArg Va.n e))] at hk
    have Hk := Lib.hid hk
    clear hk
    go_enter Tryd.func60, Tryd.ntmps60
    go_wp2_with fail
    go_region_held3 (fun w' => w'.cell? ⟨w.heap.size, 0, none⟩ = some (.int .u8 k) ∧ w'.cell? ⟨w.heap.size, 1, none⟩ = some (.int .i64 n) ∧ w'.cell? ⟨w.heap.size, 2, none⟩ = some (.string (St8 s)) ∧ w'.cell? ⟨w.heap.size + 1, 0, none⟩ = some (.int .u8 k) ∧ w'.cell? ⟨w.heap.size + 1, 1, none⟩ = some (.int .i64 n') ∧ w'.cell? ⟨w.heap.size + 1, 2, none⟩ = some (.string (St8 s')))
      (first | assumption | (refine ⟨?_, ?_, ?_, ?_, ?_, ?_⟩ <;> go_cell) | (refine ⟨?_, ?_, ?_, ?_, ?_, ?_⟩ <;> exact cell_keep hb3 (by go_cell)))
      (first | (go_at_call 82; refine (Hk.out _).mono ?_; rintro e w3 ⟨rfl, hb3⟩))
    go_wp2_with fail
    go_returns
    exact ⟨rfl, below_two hb3⟩
  · rw [decide_eq_false (fun e => h (congrArg Va.s e))] at hk
    have Hk := Lib.hid hk
    clear hk
    have h1 : ¬ St8 s = St8 s' := fun e => h (St8_inj e)
    have h2 := St8_cmp s s'
    have h3 := St8_eq s s'
    rw [decide_eq_false h] at h2 h3
    go_enter Tryd.func60, Tryd.ntmps60
    go_wp2_with fail
    go_region_held3 (fun w' => w'.cell? ⟨w.heap.size, 0, none⟩ = some (.int .u8 k) ∧ w'.cell? ⟨w.heap.size, 1, none⟩ = some (.int .i64 n) ∧ w'.cell? ⟨w.heap.size, 2, none⟩ = some (.string (St8 s)) ∧ w'.cell? ⟨w.heap.size + 1, 0, none⟩ = some (.int .u8 k) ∧ w'.cell? ⟨w.heap.size + 1, 1, none⟩ = some (.int .i64 n) ∧ w'.cell? ⟨w.heap.size + 1, 2, none⟩ = some (.string (St8 s')))
      (first | assumption | (refine ⟨?_, ?_, ?_, ?_, ?_, ?_⟩ <;> go_cell) | (refine ⟨?_, ?_, ?_, ?_, ?_, ?_⟩ <;> exact cell_keep hb3 (by go_cell)))
      (first | (go_at_call 82; refine (Hk.out _).mono ?_; rintro e w3 ⟨rfl, hb3⟩))
    go_wp2_with fail
    go_returns
    exact ⟨rfl, below_two hb3⟩
end Go.Proofs.YtipnglidepfkbaaDoor
