/- Values, rows and lists of rows: plain data, and how they lie in memory. Walks: a row's value in a column; whether two values are the same; rows that are the same. Walks: which values and rows may be laid; the first rows of a list. Walks: whether two rows, and two lists of rows, are the same. Walks: rows laid one behind the other (slices.Concat). Walks: how two values stand to each other. Values that stand alike are the same: plain. -/
import Derived.Test.YtipnglidepfkbaaDoorMGrA
import Derived.Test.YtipnglidepfkbaaDoorChecked
import Derived.Laws.IdiomStrings
import Derived.Lib.AppendZeros
namespace Go.Proofs.YtipnglidepfkbaaDoor
set_option linter.unusedVariables false
set_option linter.unusedSimpArgs false
open Go.RowKit

/-- A value: its kind, its number, its text. -/
structure Va where
  k : Int
  n : Int
  s : List UInt8
deriving DecidableEq
namespace Va
def cells (v : Va) : List Value := [.int .u8 v.k, .int .i64 v.n, .string (St8 v.s)]
def agg (v : Va) : Value := .agg #[.int .u8 v.k, .int .i64 v.n, .string (St8 v.s)]
structure ok (v : Va) : Prop where
  k : 0 ≤ v.k ∧ v.k ≤ 255
  n : -9223372036854775808 ≤ v.n ∧ v.n ≤ 9223372036854775807
  s : v.s.length ≤ 9223372036854775807
def nil : Va := ⟨0, 0, []⟩
theorem nil_ok : nil.ok := ⟨⟨by decide, by decide⟩, ⟨by decide, by decide⟩, by show 0 ≤ _; omega⟩
end Va
abbrev RowM := List Va
def rcells (r : RowM) : List Value := r.flatMap Va.cells
theorem rcells_len : ∀ r : RowM, (rcells r).length = r.length * 3
  | [] => rfl
  | v :: r => by
    have := rcells_len r
    unfold rcells at *
    rw [List.flatMap_cons, List.length_append, this, List.length_cons]
    show 3 + _ = _
    omega
theorem rcells_append (r q : RowM) : rcells (r ++ q) = rcells r ++ rcells q := by simp [rcells]
theorem rcells_get : ∀ (r : RowM) (j : Nat) (v : Va) (t : Nat), r[j]? = some v → t < 3 → (rcells r)[j * 3 + t]? = v.cells[t]?
  | [], j, a, t, h, _ => by simp at h
  | x :: l, 0, a, t, h, ht => by
    obtain rfl : x = a := by simpa using h
    unfold rcells
    rw [List.flatMap_cons, Nat.zero_mul, Nat.zero_add, List.getElem?_append_left (by exact ht)]
  | x :: l, j + 1, a, t, h, ht => by
    have := rcells_get l j a t (by simpa using h) ht
    unfold rcells at *
    rw [List.flatMap_cons, List.getElem?_append_right (by show 3 ≤ _; omega), show (j + 1) * 3 + t - x.cells.length = j * 3 + t from by show (j + 1) * 3 + t - 3 = _; omega]
    exact this
theorem rcells_one (r : RowM) : ∀ u ∈ rcells r, u.oneCell' = true := by
  intro u hu
  obtain ⟨v, _, h⟩ := List.mem_flatMap.1 hu
  simp [Va.cells] at h
  rcases h with rfl | rfl | rfl <;> rfl

/-- A row's value in a column; nothing, if it has none there. -/
def colAt (r : RowM) (c : Int) : Va := if c < 0 ∨ (r.length : Int) ≤ c then Va.nil else r.getD c.toNat Va.nil
/-- Whether two values are the same, if that is known. -/
def eqV (x y : Va) : Int := if x.k = 0 ∨ y.k = 0 then 1 else if x = y then 2 else 0
/-- Rows that go together. -/
def goes (l r : Int) (x y : RowM) : Bool := decide (eqV (colAt x l) (colAt y r) = 2)
def nestRow (l r : Int) (x : RowM) (b : List RowM) : List RowM := (b.filter (goes l r x)).map (x ++ ·)
def nested (a b : List RowM) (l r : Int) : List RowM := a.flatMap fun x => nestRow l r x b

/-- The values lie where a row's slice points, in a block from B on. -/
def RdB (w : World) (B : Nat) (A : Option Addr) (xs : List Value) : Prop := xs ≠ [] → ∃ b o, A = some ⟨b, o, none⟩ ∧ B ≤ b ∧ w.rangeAt b o xs
/-- The headers hs are of rows that read as rs. -/
structure Rows (w : World) (hs : List Value) (rs : List RowM) : Prop where
  len : hs.length = rs.length
  at_ : ∀ (i : Nat) (r : RowM), rs[i]? = some r → ∃ A c, hs[i]? = some (.slice A r.length c) ∧ r.length ≤ c ∧ c ≤ maxLen ∧ Rd w A (rcells r) ∧ ∀ v ∈ r, v.ok
/-- The headers hs are of rows of the call's own, in blocks from B on, that read as rs. -/
structure RowsO (w : World) (B : Nat) (hs : List Value) (rs : List RowM) : Prop where
  len : hs.length = rs.length
  at_ : ∀ (i : Nat) (r : RowM), rs[i]? = some r → ∃ A c, hs[i]? = some (.slice A r.length c) ∧ Own w B 44 3 A r.length c (rcells r) ∧ ∀ v ∈ r, v.ok
namespace Rows
variable {w w' : World} {hs : List Value} {rs : List RowM}
theorem below (h : Rows w hs rs) (hb : Below w.heap.size w w') : Rows w' hs rs :=
  ⟨h.len, fun i r hi => by
    obtain ⟨A, c, h1, h2, h3, h4, h5⟩ := h.at_ i r hi
    exact ⟨A, c, h1, h2, h3, h4.below hb, h5⟩⟩
theorem take (h : Rows w hs rs) (n : Nat) : Rows w (hs.take n) (rs.take n) :=
  ⟨by rw [List.length_take, List.length_take, h.len], fun i r hi => by
    rw [List.getElem?_take] at hi
    split at hi
    · obtain ⟨A, c, h1, h2⟩ := h.at_ i r hi
      exact ⟨A, c, by rw [List.getElem?_take, if_pos (by assumption)]; exact h1, h2⟩
    · cases hi⟩
theorem nil (w : World) : Rows w [] [] := ⟨rfl, fun i r hi => by simp at hi⟩
end Rows
namespace RowsO
variable {w w' : World} {B : Nat} {hs : List Value} {rs : List RowM}
theorem below (h : RowsO w B hs rs) (hb : Below w.heap.size w w') : RowsO w' B hs rs :=
  ⟨h.len, fun i r hi => by
    obtain ⟨A, c, h1, h2, h3⟩ := h.at_ i r hi
    exact ⟨A, c, h1, h2.below hb, h3⟩⟩
theorem keeps {T : List TypeId} {B' : Nat} (h : RowsO w B hs rs) (ht : 44 ∉ T) (hk : Keeps T B' w w') : RowsO w' B hs rs :=
  ⟨h.len, fun i r hi => by
    obtain ⟨A, c, h1, h2, h3⟩ := h.at_ i r hi
    exact ⟨A, c, h1, h2.keeps ht hk, h3⟩⟩
theorem nil (w : World) (B : Nat) : RowsO w B [] [] := ⟨rfl, fun i r hi => by simp at hi⟩
theorem snoc (h : RowsO w B hs rs) {A : Option Addr} {r : RowM} {c : Nat} (ho : Own w B 44 3 A r.length c (rcells r)) (hr : ∀ v ∈ r, v.ok) : RowsO w B (hs ++ [.slice A r.length c]) (rs ++ [r]) :=
  ⟨by rw [List.length_append, List.length_append, h.len]; rfl, fun i q hi => by
    rw [List.getElem?_append] at hi
    split at hi
    · obtain ⟨A', c', h1, h2⟩ := h.at_ i q hi
      exact ⟨A', c', by rw [List.getElem?_append_left (List.getElem?_eq_some_iff.1 h1).1]; exact h1, h2⟩
    · rename_i hlt
      have e : i = rs.length := by
        have := (List.getElem?_eq_some_iff.1 hi).1
        simp at this
        omega
      subst e
      simp at hi
      subst hi
      exact ⟨A, c, by rw [← h.len]; simp, ho, hr⟩⟩
theorem rows (h : RowsO w B hs rs) : Rows w hs rs :=
  ⟨h.len, fun i r hi => by
    obtain ⟨A, c, h1, h2, h3⟩ := h.at_ i r hi
    have hc := h2.cap
    exact ⟨A, c, h1, hc.1, hc.2, h2.rd, h3⟩⟩
end RowsO
end Go.Proofs.YtipnglidepfkbaaDoor
namespace Go.Proofs.YtipnglidepfkbaaDoor
set_option linter.unusedVariables false
set_option linter.unusedSimpArgs false
open Go.RowKit

attribute [local go_sem ↓] Go.wp_at_zero Go.wp_at_succ

theorem row_cells {w : World} {A : Option Addr} {r : RowM} (hr : Rd w A (rcells r)) {k : Nat} (hk : k < r.length) : ∃ b o, A = some ⟨b, o, none⟩ ∧ w.cell? ⟨b, o + k * 3, none⟩ = some (.int .u8 r[k].k) ∧ w.cell? ⟨b, o + k * 3 + 1, none⟩ = some (.int .i64 r[k].n) ∧ w.cell? ⟨b, o + k * 3 + 2, none⟩ = some (.string (St8 r[k].s)) := by
  have hne : rcells r ≠ [] := by
    intro e
    have := rcells_len r
    rw [e] at this
    simp at this
    omega
  obtain ⟨b, o, rfl, hh⟩ := hr hne
  have e := fun t ht => rcells_get r k r[k] t (List.getElem?_eq_getElem hk) ht
  refine ⟨b, o, rfl, ?_, ?_, ?_⟩
  · exact hh (k * 3 + 0) _ (e 0 (by omega))
  · have := hh (k * 3 + 1) _ (e 1 (by omega))
    rwa [← Nat.add_assoc] at this
  · have := hh (k * 3 + 2) _ (e 2 (by omega))
    rwa [← Nat.add_assoc] at this

def knownV (x y : Va) (t : Bool) : Int := if x.k = 0 ∨ y.k = 0 then 1 else if t then 2 else 0
set_option maxRecDepth 100000 in
theorem known_any (x y : Va) (t : Bool) (w : World) :
    Calls Tryd.prog 82 #[x.agg, y.agg, .bool t] w fun e w' => e = .returned (.int .u8 (knownV x y t)) ∧ Below w.heap.size w w' := by
  have hv : Hid (knownV x y t = if x.k = 0 ∨ y.k = 0 then 1 else if t then 2 else 0) := rfl
  unfold Va.agg
  by_cases h1 : x.k = 0
  · rw [if_pos (.inl h1)] at hv
    go_enter Tryd.func82, Tryd.ntmps82
    go_wp2_with fail
    go_returns
    rw [hv.out]
    exact ⟨rfl, by go_grown⟩
  · by_cases h2 : y.k = 0
    · rw [if_pos (.inr h2)] at hv
      go_enter Tryd.func82, Tryd.ntmps82
      go_wp2_with fail
      go_returns
      rw [hv.out]
      exact ⟨rfl, by go_grown⟩
    · rw [if_neg (fun h => h.elim h1 h2)] at hv
      have e1 : (x.k == 0) = false := by simp [h1]
      have e2 : (y.k == 0) = false := by simp [h2]
      cases t
      · rw [if_neg (by decide)] at hv
        go_enter Tryd.func82, Tryd.ntmps82
        go_wp2_with fail
        go_returns
        rw [hv.out]
        exact ⟨rfl, by go_grown⟩
      · rw [if_pos rfl] at hv
        go_enter Tryd.func82, Tryd.ntmps82
        go_wp2_with fail
        go_returns
        rw [hv.out]
        exact ⟨rfl, by go_grown⟩

theorem Va.ext' {x y : Va} (h1 : x.k = y.k) (h2 : x.n = y.n) (h3 : x.s = y.s) : x = y := by
  cases x; cases y; simp_all
theorem cell_keep {w w' : World} (hb : Below w.heap.size w w') {p : Addr} {v : Value} (h : w.cell? p = some v) : w'.cell? p = some v := by
  by_cases hp : p.block < w.heap.size
  · rw [hb.cell hp]; exact h
  · exfalso
    have e : w.heap[p.block]? = none := Array.getElem?_eq_none (by omega)
    simp [World.cell?, e] at h
theorem below_two {w w3 : World} {o1 o2 : Obj} (h : Below ((w.alloc o1).alloc o2).drew.heap.size ((w.alloc o1).alloc o2).drew w3) : Below w.heap.size w w3 := by
  have hb : Below w.heap.size w ((w.alloc o1).alloc o2).drew := by go_grown
  exact hb.trans (h.mono hb.size)
theorem va_cases (k n : Int) (s : List UInt8) (k' n' : Int) (s' : List UInt8) : (k = k' ∧ n = n' ∧ s = s') ∨ (¬ k = k') ∨ (k = k' ∧ ¬ n = n') ∨ (k = k' ∧ n = n' ∧ ¬ s = s') := by
  by_cases h1 : k = k'
  · by_cases h2 : n = n'
    · by_cases h3 : s = s'
      · exact .inl ⟨h1, h2, h3⟩
      · exact .inr (.inr (.inr ⟨h1, h2, h3⟩))
    · exact .inr (.inr (.inl ⟨h1, h2⟩))
  · exact .inr (.inl h1)
set_option maxRecDepth 100000 in
theorem equal_any (x y : Va) (w : World) :
    Calls Tryd.prog 60 #[x.agg, y.agg] w fun e w' => e = .returned (.int .u8 (eqV x y)) ∧ Below w.heap.size w w' := by
  have hk := fun w' => known_any x y (decide (x = y)) w'
  have hv : knownV x y (decide (x = y)) = eqV x y := by
    unfold knownV eqV
    by_cases h : x = y <;> simp [h]
  rw [hv] at hk
  clear hv
  generalize eqV x y = E at *
  unfold Va.agg at *
  obtain ⟨k, n, s⟩ := x
  obtain ⟨k', n', s'⟩ := y
  dsimp only at *
  rcases va_cases k n s k' n' s' with ⟨rfl, rfl, rfl⟩ | h | ⟨rfl, h⟩ | ⟨rfl, rfl, h⟩
  · rw [decide_eq_true rfl] at hk
    have Hk := Lib.hid hk
    clear hk
    go_enter Tryd.func60, Tryd.ntmps60
    go_wp2_with fail
    go_region_held3 (fun w' => w'.cell? ⟨w.heap.size, 0, none⟩ = some (.int .u8 k) ∧ w'.cell? ⟨w.heap.size, 1, none⟩ = some (.int .i64 n) ∧ w'.cell? ⟨w.heap.size, 2, none⟩ = some (.string (St8 s)) ∧ w'.cell? ⟨w.heap.size + 1, 0, none⟩ = some (.int .u8 k) ∧ w'.cell? ⟨w.heap.size + 1, 1, none⟩ = some (.int .i64 n) ∧ w'.cell? ⟨w.heap.size + 1, 2, none⟩ = some (.string (St8 s)))
      (first | assumption | (refine ⟨?_, ?_, ?_, ?_, ?_, ?_⟩ <;> go_cell) | (refine ⟨?_, ?_, ?_, ?_, ?_, ?_⟩ <;> exact cell_keep hb3 (by go_cell)))
      (first | (go_at_call 82; refine (Hk.out _).mono ?_; rintro e w3 ⟨rfl, hb3⟩))
    go_wp2_with fail
    go_returns
    exact ⟨rfl, below_two hb3⟩
  · rw [decide_eq_false (fun e => h (congrArg Va.k e))] at hk
    have Hk := Lib.hid hk
    clear hk
    go_enter Tryd.func60, Tryd.ntmps60
    go_wp2_with fail
    go_region_held3 (fun w' => w'.cell? ⟨w.heap.size, 0, none⟩ = some (.int .u8 k) ∧ w'.cell? ⟨w.heap.size, 1, none⟩ = some (.int .i64 n) ∧ w'.cell? ⟨w.heap.size, 2, none⟩ = some (.string (St8 s)) ∧ w'.cell? ⟨w.heap.size + 1, 0, none⟩ = some (.int .u8 k') ∧ w'.cell? ⟨w.heap.size + 1, 1, none⟩ = some (.int .i64 n') ∧ w'.cell? ⟨w.heap.size + 1, 2, none⟩ = some (.string (St8 s')))
      (first | assumption | (refine ⟨?_, ?_, ?_, ?_, ?_, ?_⟩ <;> go_cell) | (refine ⟨?_, ?_, ?_, ?_, ?_, ?_⟩ <;> exact cell_keep hb3 (by go_cell)))
      (first | (go_at_call 82; refine (Hk.out _).mono ?_; rintro e w3 ⟨rfl, hb3⟩))
    go_wp2_with fail
    go_returns
    exact ⟨rfl, below_two hb3⟩
  · rw [decide_eq_false (fun e => h (congrArg Va.n e))] at hk
    have Hk := Lib.hid hk
    clear hk
    go_enter Tryd.func60, Tryd.ntmps60
    go_wp2_with fail
    go_region_held3 (fun w' => w'.cell? ⟨w.heap.size, 0, none⟩ = some (.int .u8 k) ∧ w'.cell? ⟨w.heap.size, 1, none⟩ = some (.int .i64 n) ∧ w'.cell? ⟨w.heap.size, 2, none⟩ = some (.string (St8 s)) ∧ w'.cell? ⟨w.heap.size + 1, 0, none⟩ = some (.int .u8 k) ∧ w'.cell? ⟨w.heap.size + 1, 1, none⟩ = some (.int .i64 n') ∧ w'.cell? ⟨w.heap.size + 1, 2, none⟩ = some (.string (St8 s')))
      (first | assumption | (refine ⟨?_, ?_, ?_, ?_, ?_, ?_⟩ <;> go_cell) | (refine ⟨?_, ?_, ?_, ?_, ?_, ?_⟩ <;> exact cell_keep hb3 (by go_cell)))
      (first | (go_at_call 82; refine (Hk.out _).mono ?_; rintro e w3 ⟨rfl, hb3⟩))
    go_wp2_with fail
    go_returns
    exact ⟨rfl, below_two hb3⟩
  · rw [decide_eq_false (fun e => h (congrArg Va.s e))] at hk
    have Hk := Lib.hid hk
    clear hk
    have h1 : ¬ St8 s = St8 s' := fun e => h (St8_inj e)
    have h2 := St8_cmp s s'
    have h3 := St8_eq s s'
    rw [decide_eq_false h] at h2 h3
    go_enter Tryd.func60, Tryd.ntmps60
    go_wp2_with fail
    go_region_held3 (fun w' => w'.cell? ⟨w.heap.size, 0, none⟩ = some (.int .u8 k) ∧ w'.cell? ⟨w.heap.size, 1, none⟩ = some (.int .i64 n) ∧ w'.cell? ⟨w.heap.size, 2, none⟩ = some (.string (St8 s)) ∧ w'.cell? ⟨w.heap.size + 1, 0, none⟩ = some (.int .u8 k) ∧ w'.cell? ⟨w.heap.size + 1, 1, none⟩ = some (.int .i64 n) ∧ w'.cell? ⟨w.heap.size + 1, 2, none⟩ = some (.string (St8 s')))
      (first | assumption | (refine ⟨?_, ?_, ?_, ?_, ?_, ?_⟩ <;> go_cell) | (refine ⟨?_, ?_, ?_, ?_, ?_, ?_⟩ <;> exact cell_keep hb3 (by go_cell)))
      (first | (go_at_call 82; refine (Hk.out _).mono ?_; rintro e w3 ⟨rfl, hb3⟩))
    go_wp2_with fail
    go_returns
    exact ⟨rfl, below_two hb3⟩
end Go.Proofs.YtipnglidepfkbaaDoor
namespace Go.Proofs.YtipnglidepfkbaaDoor
set_option linter.unusedVariables false
set_option linter.unusedSimpArgs false
open Go.RowKit

attribute [local go_sem ↓] Go.wp_at_zero Go.wp_at_succ

/-- Whether a value may be. -/
def rightV (v : Va) : Bool :=
  if v.k = 0 then decide (v.n = 0 ∧ v.s = []) else if v.k = 1 then decide ((v.n = 0 ∨ v.n = 1) ∧ v.s = []) else if v.k = 2 then decide (v.s = []) else if v.k = 3 then decide (v.n = 0 ∧ v.s.length ≤ 1024) else false
/-- Why a row can't be laid. -/
def mayR (r : RowM) : Int := if 32 < r.length then 3 else if r.all rightV then 0 else 7

theorem St8_nil_cmp (s : List UInt8) : ((St8 s).toList == (⟨#[]⟩ : ByteArray).toList) = decide (s = []) := St8_cmp s []
theorem St8_empty (s : List UInt8) : (St8 s).toList.isEmpty = decide (s = []) := by
  rw [St8_list]
  cases s <;> simp
theorem St8_nil_eq (s : List UInt8) : (St8 s == ⟨#[]⟩) = decide (s = []) := St8_eq s []
theorem St8_nil_iff (s : List UInt8) : (St8 s = ⟨#[]⟩) ↔ s = [] := ⟨fun h => St8_inj (m := []) h, fun h => by rw [h]; rfl⟩

set_option maxHeartbeats 4000000 in
set_option maxRecDepth 100000 in
theorem right_any (v : Va) (w : World) : Calls Tryd.prog 51 #[v.agg] w fun e w' => e = .returned (.bool (rightV v)) ∧ Below w.heap.size w w' := by
  have e1 := St8_nil_cmp v.s
  have e2 := St8_nil_eq v.s
  have e3 := St8_nil_iff v.s
  have e4 := St8_size v.s
  have e5 := St8_empty v.s
  have hv : Hid (rightV v = if v.k = 0 then decide (v.n = 0 ∧ v.s = []) else if v.k = 1 then decide ((v.n = 0 ∨ v.n = 1) ∧ v.s = []) else if v.k = 2 then decide (v.s = []) else if v.k = 3 then decide (v.n = 0 ∧ v.s.length ≤ 1024) else false) := rfl
  obtain ⟨k, n, s⟩ := v
  unfold Va.agg
  dsimp only at *
  generalize rightV ⟨k, n, s⟩ = R at *
  by_cases h0 : k = 0
  · subst h0
    by_cases hn : n = 0
    · subst hn
      by_cases hs : s = []
      · rw [decide_eq_true hs] at e1 e2 e5
        have e3 := e3.2 hs
        subst hs
        have hv' : Hid (R = true) := by show _ = _; rw [hv.out]; simp
        clear hv
        go_enter Tryd.func51, Tryd.ntmps51
        go_wp2_with fail
        go_returns
        rw [hv'.out]
        exact ⟨rfl, by go_grown⟩
      · rw [decide_eq_false hs] at e1 e2 e5
        have e3 := fun h => hs (e3.1 h)
        have hv' : Hid (R = false) := by show _ = _; rw [hv.out]; simp [Nat.le_refl, hs]
        clear hv
        go_enter Tryd.func51, Tryd.ntmps51
        go_wp2_with fail
        go_returns
        rw [hv'.out]
        exact ⟨rfl, by go_grown⟩
    · have hv' : Hid (R = false) := by show _ = _; rw [hv.out]; simp [hn]
      clear hv
      go_enter Tryd.func51, Tryd.ntmps51
      go_wp2_with fail
      go_returns
      rw [hv'.out]
      exact ⟨rfl, by go_grown⟩
  · by_cases h1 : k = 1
    · subst h1
      by_cases hn : n = 0
      · subst hn
        by_cases hs : s = []
        · rw [decide_eq_true hs] at e1 e2 e5
          have e3 := e3.2 hs
          subst hs
          have hv' : Hid (R = true) := by show _ = _; rw [hv.out]; simp
          clear hv
          go_enter Tryd.func51, Tryd.ntmps51
          go_wp2_with fail
          go_returns
          rw [hv'.out]
          exact ⟨rfl, by go_grown⟩
        · rw [decide_eq_false hs] at e1 e2 e5
          have e3 := fun h => hs (e3.1 h)
          have hv' : Hid (R = false) := by show _ = _; rw [hv.out]; simp [Nat.le_refl, hs]
          clear hv
          go_enter Tryd.func51, Tryd.ntmps51
          go_wp2_with fail
          go_returns
          rw [hv'.out]
          exact ⟨rfl, by go_grown⟩
      · by_cases hn1 : n = 1
        · subst hn1
          by_cases hs : s = []
          · rw [decide_eq_true hs] at e1 e2 e5
            have e3 := e3.2 hs
            subst hs
            have hv' : Hid (R = true) := by show _ = _; rw [hv.out]; simp
            clear hv
            go_enter Tryd.func51, Tryd.ntmps51
            go_wp2_with fail
            go_returns
            rw [hv'.out]
            exact ⟨rfl, by go_grown⟩
          · rw [decide_eq_false hs] at e1 e2 e5
            have e3 := fun h => hs (e3.1 h)
            have hv' : Hid (R = false) := by show _ = _; rw [hv.out]; simp [Nat.le_refl, hs]
            clear hv
            go_enter Tryd.func51, Tryd.ntmps51
            go_wp2_with fail
            go_returns
            rw [hv'.out]
            exact ⟨rfl, by go_grown⟩
        · have hv' : Hid (R = false) := by show _ = _; rw [hv.out]; simp [hn, hn1]
          clear hv
          go_enter Tryd.func51, Tryd.ntmps51
          go_wp2_with fail
          go_returns
          rw [hv'.out]
          exact ⟨rfl, by go_grown⟩
    · by_cases h2 : k = 2
      · subst h2
        by_cases hs : s = []
        · rw [decide_eq_true hs] at e1 e2 e5
          have e3 := e3.2 hs
          subst hs
          have hv' : Hid (R = true) := by show _ = _; rw [hv.out]; simp
          clear hv
          go_enter Tryd.func51, Tryd.ntmps51
          go_wp2_with fail
          go_returns
          rw [hv'.out]
          exact ⟨rfl, by go_grown⟩
        · rw [decide_eq_false hs] at e1 e2 e5
          have e3 := fun h => hs (e3.1 h)
          have hv' : Hid (R = false) := by show _ = _; rw [hv.out]; simp [Nat.le_refl, hs]
          clear hv
          go_enter Tryd.func51, Tryd.ntmps51
          go_wp2_with fail
          go_returns
          rw [hv'.out]
          exact ⟨rfl, by go_grown⟩
      · by_cases h3 : k = 3
        · subst h3
          by_cases hn : n = 0
          · subst hn
            by_cases hl : s.length ≤ 1024
            · have e6 : decide ((s.length : Int) ≤ 1024) = true := decide_eq_true (by omega)
              have hv' : Hid (R = true) := by show _ = _; rw [hv.out]; simp [hl]
              clear hv
              go_enter Tryd.func51, Tryd.ntmps51
              go_wp2_with fail
              go_returns
              rw [hv'.out]
              exact ⟨rfl, by go_grown⟩
            · have e6 : decide ((s.length : Int) ≤ 1024) = false := decide_eq_false (by omega)
              have hv' : Hid (R = false) := by show _ = _; rw [hv.out]; simp [hl]
              clear hv
              go_enter Tryd.func51, Tryd.ntmps51
              go_wp2_with fail
              go_returns
              rw [hv'.out]
              exact ⟨rfl, by go_grown⟩
          · have hv' : Hid (R = false) := by show _ = _; rw [hv.out]; simp [hn]
            clear hv
            go_enter Tryd.func51, Tryd.ntmps51
            go_wp2_with fail
            go_returns
            rw [hv'.out]
            exact ⟨rfl, by go_grown⟩
        · have hv' : Hid (R = false) := by show _ = _; rw [hv.out]; simp [h0, h1, h2, h3]
          clear hv
          go_enter Tryd.func51, Tryd.ntmps51
          go_wp2_with fail
          go_returns
          rw [hv'.out]
          exact ⟨rfl, by go_grown⟩

theorem rcells_ne {r : RowM} (h : 0 < r.length) : rcells r ≠ [] := fun e => by
  have := rcells_len r
  rw [e] at this
  simp at this
  omega
/-- A row that may be laid, of short texts. -/
structure small (r : RowM) : Prop where
  may : mayR r = 0
  txt : ∀ v ∈ r, v.s.length ≤ 200
theorem small_len {r : RowM} (h : small r) : r.length ≤ 32 := by
  have := h.may
  unfold mayR at this
  split at this
  · exact absurd this (by decide)
  · omega
theorem small_right {r : RowM} (h : small r) : ∀ v ∈ r, rightV v = true := by
  have := h.may
  unfold mayR at this
  split at this
  · exact absurd this (by decide)
  · split at this
    · rename_i e; exact List.all_eq_true.1 e
    · exact absurd this (by decide)

end Go.Proofs.YtipnglidepfkbaaDoor
namespace Go.Proofs.YtipnglidepfkbaaDoor
set_option linter.unusedVariables false
set_option linter.unusedSimpArgs false
open Go.RowKit

attribute [local go_sem ↓] Go.wp_at_zero Go.wp_at_succ

theorem rd_drew2 {w : World} {q n : Nat} {A : Option Addr} {xs : List Value} (h : Rd w A xs) : Rd ((w.drewN q).drewN n) A xs :=
  Rd.below (w := w.drewN q) (h.below (below_drewN' (Below.refl _ _) q)) (below_drewN' (Below.refl _ _) n)
/-- Where a header of a list of rows lies. -/
theorem head_cell {w : World} {A : Option Addr} {hs : List Value} {rs : List RowM} (hr : Rd w A hs) (h : Rows w hs rs) {j : Nat} (hj : j < rs.length) :
    ∃ b o A' c, A = some ⟨b, o, none⟩ ∧ w.cell? ⟨b, o + j, none⟩ = some (.slice A' rs[j].length c) ∧ rs[j].length ≤ c ∧ c ≤ maxLen ∧ Rd w A' (rcells rs[j]) := by
  obtain ⟨A', c, h1, h2, h3, h4, _⟩ := h.at_ j rs[j] (List.getElem?_eq_getElem hj)
  obtain ⟨b, o, rfl, hh⟩ := hr (fun e => by rw [e] at h1; simp at h1)
  exact ⟨b, o, A', c, rfl, hh j _ h1, h2, h3, h4⟩

end Go.Proofs.YtipnglidepfkbaaDoor
namespace Go.Proofs.YtipnglidepfkbaaDoor
set_option linter.unusedVariables false
set_option linter.unusedSimpArgs false
open Go.RowKit

attribute [local go_sem ↓] Go.wp_at_zero Go.wp_at_succ

theorem Eval : ElemT Tryd.prog 30 44 3 32 (.agg #[.int .u8 0, .int .i64 0, .string ⟨#[]⟩]) := ElemT.mk' (by kernel_rfl) (by kernel_rfl) rfl (by omega)
theorem Erow : ElemT Tryd.prog 24 30 1 24 (.slice none 0 0) := ElemT.mk' (by kernel_rfl) (by kernel_rfl) rfl (by omega)

theorem Own.base {w : World} {base base' : Nat} {e : TypeId} {size : Nat} {A : Option Addr} {n c : Nat} {xs : List Value} (h : Own w base e size A n c xs) (hb : base' ≤ base) : Own w base' e size A n c xs :=
  ⟨h.1, h.2.imp id fun ⟨g, cap, cur, hv, hg, rest⟩ => ⟨g, cap, cur, hv, Nat.le_trans hb hg, rest⟩⟩
theorem flat_take (rs : List RowM) {j : Nat} (hj : j < rs.length) : (rs.take (j + 1)).flatten = (rs.take j).flatten ++ rs[j] := by
  rw [List.take_succ_eq_append_getElem hj, List.flatten_append, List.flatten_singleton]
theorem flat_le (rs : List RowM) (j : Nat) : (rs.take j).flatten.length ≤ rs.flatten.length := by
  have h := congrArg (fun l => l.flatten.length) (List.take_append_drop j rs)
  simp only [List.flatten_append, List.length_append] at h
  omega

end Go.Proofs.YtipnglidepfkbaaDoor
namespace Go.Proofs.YtipnglidepfkbaaDoor
set_option linter.unusedVariables false
set_option linter.unusedSimpArgs false
open Go.RowKit

attribute [local go_sem ↓] Go.wp_at_zero Go.wp_at_succ

def cmpI (a b : Int) : Int := if a < b then -1 else if b < a then 1 else 0
theorem nan8_any (a : Int) (w : World) : Calls Tryd.prog 117 #[.int .u8 a] w fun e w' => e = .returned (.bool false) ∧ w = w' := by
  go_enter Tryd.func117, Tryd.ntmps117
  go_wp2_with fail
  go_ret
  exact ⟨by simp, rfl⟩
theorem nani_any (a : Int) (w : World) : Calls Tryd.prog 116 #[.int .i64 a] w fun e w' => e = .returned (.bool false) ∧ w = w' := by
  go_enter Tryd.func116, Tryd.ntmps116
  go_wp2_with fail
  go_ret
  exact ⟨by simp, rfl⟩
theorem nans_any (s : List UInt8) (w : World) : Calls Tryd.prog 118 #[.string (St8 s)] w fun e w' => e = .returned (.bool false) ∧ w = w' := by
  go_enter Tryd.func118, Tryd.ntmps118
  go_wp2_with fail
  go_ret
  exact ⟨by simp, rfl⟩
set_option maxRecDepth 100000 in
theorem cmp8_any (a b : Int) (w : World) : Calls Tryd.prog 104 #[.int .u8 a, .int .u8 b] w fun e w' => e = .returned (.int .i64 (cmpI a b)) ∧ w = w' := by
  have hv : Hid (cmpI a b = if a < b then -1 else if b < a then 1 else 0) := rfl
  by_cases h1 : a < b
  · rw [if_pos h1] at hv
    go_enter Tryd.func104, Tryd.ntmps104
    go_wp2_with fail
    refine (nan8_any a w).mono ?_
    rintro e w1 ⟨rfl, rfl⟩
    go_wp2_with fail
    refine (nan8_any b w).mono ?_
    rintro e w1 ⟨rfl, rfl⟩
    go_wp2_with fail
    go_ret
    rw [hv.out]
    exact ⟨rfl, rfl⟩
  · rw [if_neg h1] at hv
    by_cases h2 : b < a
    · rw [if_pos h2] at hv
      go_enter Tryd.func104, Tryd.ntmps104
      go_wp2_with fail
      refine (nan8_any a w).mono ?_
      rintro e w1 ⟨rfl, rfl⟩
      go_wp2_with fail
      refine (nan8_any b w).mono ?_
      rintro e w1 ⟨rfl, rfl⟩
      go_wp2_with fail
      go_ret
      rw [hv.out]
      exact ⟨rfl, rfl⟩
    · rw [if_neg h2] at hv
      go_enter Tryd.func104, Tryd.ntmps104
      go_wp2_with fail
      refine (nan8_any a w).mono ?_
      rintro e w1 ⟨rfl, rfl⟩
      go_wp2_with fail
      refine (nan8_any b w).mono ?_
      rintro e w1 ⟨rfl, rfl⟩
      go_wp2_with fail
      go_ret
      rw [hv.out]
      exact ⟨rfl, rfl⟩
set_option maxRecDepth 100000 in
theorem cmpi_any (a b : Int) (w : World) : Calls Tryd.prog 105 #[.int .i64 a, .int .i64 b] w fun e w' => e = .returned (.int .i64 (cmpI a b)) ∧ w = w' := by
  have hv : Hid (cmpI a b = if a < b then -1 else if b < a then 1 else 0) := rfl
  by_cases h1 : a < b
  · rw [if_pos h1] at hv
    go_enter Tryd.func105, Tryd.ntmps105
    go_wp2_with fail
    refine (nani_any a w).mono ?_
    rintro e w1 ⟨rfl, rfl⟩
    go_wp2_with fail
    refine (nani_any b w).mono ?_
    rintro e w1 ⟨rfl, rfl⟩
    go_wp2_with fail
    go_ret
    rw [hv.out]
    exact ⟨rfl, rfl⟩
  · rw [if_neg h1] at hv
    by_cases h2 : b < a
    · rw [if_pos h2] at hv
      go_enter Tryd.func105, Tryd.ntmps105
      go_wp2_with fail
      refine (nani_any a w).mono ?_
      rintro e w1 ⟨rfl, rfl⟩
      go_wp2_with fail
      refine (nani_any b w).mono ?_
      rintro e w1 ⟨rfl, rfl⟩
      go_wp2_with fail
      go_ret
      rw [hv.out]
      exact ⟨rfl, rfl⟩
    · rw [if_neg h2] at hv
      go_enter Tryd.func105, Tryd.ntmps105
      go_wp2_with fail
      refine (nani_any a w).mono ?_
      rintro e w1 ⟨rfl, rfl⟩
      go_wp2_with fail
      refine (nani_any b w).mono ?_
      rintro e w1 ⟨rfl, rfl⟩
      go_wp2_with fail
      go_ret
      rw [hv.out]
      exact ⟨rfl, rfl⟩
def cmpS (a b : List UInt8) : Int := if Op.bytesLess a b = true then -1 else if a = b then 0 else 1
set_option maxRecDepth 100000 in
theorem cmps_any (s s' : List UInt8) (w : World) : Calls Tryd.prog 106 #[.string (St8 s), .string (St8 s')] w fun e w' => e = .returned (.int .i64 (cmpS s s')) ∧ w = w' := by
  have hv : Hid (cmpS s s' = if Op.bytesLess s s' = true then -1 else if s = s' then 0 else 1) := rfl
  have e1 : Op.bytesLess (St8 s).toList (St8 s').toList = Op.bytesLess s s' := by rw [St8_list, St8_list]
  have e2 := St8_cmp s s'
  by_cases h1 : Op.bytesLess s s' = true
  · rw [if_pos h1] at hv
    rw [h1] at e1
    go_enter Tryd.func106, Tryd.ntmps106
    go_wp2_with fail
    refine (nans_any s w).mono ?_
    rintro e w1 ⟨rfl, rfl⟩
    go_wp2_with fail
    refine (nans_any s' w).mono ?_
    rintro e w1 ⟨rfl, rfl⟩
    go_wp2_with fail
    go_ret
    rw [hv.out]
    exact ⟨rfl, rfl⟩
  · rw [if_neg h1] at hv
    have h1 : Op.bytesLess s s' = false := by simpa using h1
    rw [h1] at e1
    by_cases h2 : s = s'
    · rw [if_pos h2] at hv
      rw [decide_eq_true h2] at e2
      clear h2
      go_enter Tryd.func106, Tryd.ntmps106
      go_wp2_with fail
      refine (nans_any s w).mono ?_
      rintro e w1 ⟨rfl, rfl⟩
      go_wp2_with fail
      refine (nans_any s' w).mono ?_
      rintro e w1 ⟨rfl, rfl⟩
      go_wp2_with fail
      go_ret
      rw [hv.out]
      exact ⟨rfl, rfl⟩
    · rw [if_neg h2] at hv
      rw [decide_eq_false h2] at e2
      go_enter Tryd.func106, Tryd.ntmps106
      go_wp2_with fail
      refine (nans_any s w).mono ?_
      rintro e w1 ⟨rfl, rfl⟩
      go_wp2_with fail
      refine (nans_any s' w).mono ?_
      rintro e w1 ⟨rfl, rfl⟩
      go_wp2_with fail
      go_ret
      rw [hv.out]
      exact ⟨rfl, rfl⟩

def or3 (a b c : Int) : Int := if a ≠ 0 then a else if b ≠ 0 then b else c
def or3At (a b c : Int) (j : Nat) : Prop := (0 < j → a = 0) ∧ (1 < j → b = 0) ∧ (2 < j → c = 0)
set_option maxRecDepth 100000 in
theorem or_any (a b c : Int) (g : Nat) (w : World) (h0 : w.cell? ⟨g, 0, none⟩ = some (.int .i64 a)) (h1 : w.cell? ⟨g, 1, none⟩ = some (.int .i64 b)) (h2 : w.cell? ⟨g, 2, none⟩ = some (.int .i64 c)) :
    Calls Tryd.prog 103 #[.slice (some ⟨g, 0, none⟩) 3 3] w fun e w' => e = .returned (.int .i64 (or3 a b c)) ∧ w = w' := by
  have hv : Hid (or3 a b c = if a ≠ 0 then a else if b ≠ 0 then b else c) := rfl
  go_enter Tryd.func103, Tryd.ntmps103
  go_wp2_with fail
  go_loop [8] (fun i => ∃ j : Nat, j ≤ 3 ∧ i = .int .i64 j ∧ Hid (or3At a b c j)) (fun i => 3 - (intOf i).toNat)
  case atStart => exact ⟨0, by omega, rfl, by unfold Hid or3At; omega⟩
  case round =>
    obtain ⟨j, hj, rfl, hat⟩ := hrel
    match j, hj with
    | 0, _ =>
      by_cases hz : a = 0
      · have hn : Hid (or3At a b c 1) := by unfold Hid or3At; omega
        go_wp2_with fail
        go_round
        case rel => exact ⟨1, by omega, by go_num, hn⟩
        case measure => simp [intOf]
      · rw [if_pos hz] at hv
        go_wp2_with fail
        go_ret
        rw [hv.out]
        exact ⟨rfl, rfl⟩
    | 1, _ =>
      have ha : Hid (a = 0) := hat.out.1 (by omega)
      by_cases hz : b = 0
      · have hn : Hid (or3At a b c 2) := by have := ha.out; unfold Hid or3At; omega
        go_wp2_with fail
        go_round
        case rel => exact ⟨2, by omega, by go_num, hn⟩
        case measure => simp [intOf]
      · rw [if_neg (fun h => h ha.out), if_pos hz] at hv
        go_wp2_with fail
        go_ret
        rw [hv.out]
        exact ⟨rfl, rfl⟩
    | 2, _ =>
      have ha : Hid (a = 0) := hat.out.1 (by omega)
      have hb : Hid (b = 0) := hat.out.2.1 (by omega)
      rw [if_neg (fun h => h ha.out), if_neg (fun h => h hb.out)] at hv
      by_cases hz : c = 0
      · have hn : Hid (or3At a b c 3) := by have := ha.out; have := hb.out; unfold Hid or3At; omega
        go_wp2_with fail
        go_round
        case rel => exact ⟨3, by omega, by go_num, hn⟩
        case measure => simp [intOf]
      · go_wp2_with fail
        go_ret
        rw [hv.out]
        exact ⟨rfl, rfl⟩
    | 3, _ =>
      have ha : Hid (a = 0) := hat.out.1 (by omega)
      have hb : Hid (b = 0) := hat.out.2.1 (by omega)
      have hc : Hid (c = 0) := hat.out.2.2 (by omega)
      rw [if_neg (fun h => h ha.out), if_neg (fun h => h hb.out)] at hv
      go_wp2_with fail
      go_ret
      rw [hv.out, hc.out]
      exact ⟨rfl, rfl⟩

/-- How two values stand to each other. -/
def cmpVa (x y : Va) : Int := or3 (cmpI x.k y.k) (cmpI x.n y.n) (cmpS x.s y.s)
set_option maxHeartbeats 4000000 in
set_option maxRecDepth 100000 in
theorem compare_any (x y : Va) (w : World) : Calls Tryd.prog 80 #[x.agg, y.agg] w fun e w' => e = .returned (.int .i64 (cmpVa x y)) ∧ Below w.heap.size w w' := by
  have hv : Hid (cmpVa x y = or3 (cmpI x.k y.k) (cmpI x.n y.n) (cmpS x.s y.s)) := rfl
  generalize cmpVa x y = C at *
  obtain ⟨k, n, s⟩ := x
  obtain ⟨k', n', s'⟩ := y
  unfold Va.agg
  dsimp only at *
  have hc1 := Lib.hid (fun w' => cmp8_any k k' w')
  have hc2 := Lib.hid (fun w' => cmpi_any n n' w')
  have hc3 := Lib.hid (fun w' => cmps_any s s' w')
  generalize cmpI k k' = a at *
  generalize cmpI n n' = b at *
  generalize cmpS s s' = c at *
  go_enter Tryd.func80, Tryd.ntmps80
  go_wp2_with fail
  go_region_held3 (fun w' => w'.cell? ⟨w.heap.size, 0, none⟩ = some (.int .u8 k) ∧ w'.cell? ⟨w.heap.size, 1, none⟩ = some (.int .i64 n) ∧ w'.cell? ⟨w.heap.size, 2, none⟩ = some (.string (St8 s)) ∧ w'.cell? ⟨w.heap.size + 1, 0, none⟩ = some (.int .u8 k') ∧ w'.cell? ⟨w.heap.size + 1, 1, none⟩ = some (.int .i64 n') ∧ w'.cell? ⟨w.heap.size + 1, 2, none⟩ = some (.string (St8 s')))
    (first | assumption | (refine ⟨?_, ?_, ?_, ?_, ?_, ?_⟩ <;> go_cell) | trivial)
    (first | (go_at_call 104; refine (hc1.out _).mono ?_; rintro e w3 ⟨rfl, rfl⟩) | (go_at_call 105; refine (hc2.out _).mono ?_; rintro e w3 ⟨rfl, rfl⟩) | (go_at_call 106; refine (hc3.out _).mono ?_; rintro e w3 ⟨rfl, rfl⟩) | (go_at_call 103; refine (or_any a b c _ _ (by go_cell) (by go_cell) (by go_cell)).mono ?_; rintro e w3 ⟨rfl, rfl⟩))
  go_wp2_with fail
  go_ret
  rw [hv.out]
  exact ⟨rfl, by go_grown⟩

theorem below_two' {w w3 : World} {o1 o2 : Obj} (h : Below ((w.alloc o1).alloc o2).heap.size ((w.alloc o1).alloc o2) w3) : Below w.heap.size w w3 := by
  have hb : Below w.heap.size w ((w.alloc o1).alloc o2) := by go_grown
  exact hb.trans (h.mono hb.size)
/-- How two values stand to each other by a rising key. -/
def oneV (x y : Va) : Int := if x.k = 0 ∧ y.k = 0 then 0 else if x.k = 0 then -1 else if y.k = 0 then 1 else cmpVa x y
end Go.Proofs.YtipnglidepfkbaaDoor
namespace Go.Proofs.YtipnglidepfkbaaDoor
set_option linter.unusedVariables false
set_option linter.unusedSimpArgs false
open Go.RowKit

theorem bless_irrefl : ∀ a : List UInt8, Op.bytesLess a a = false
  | [] => by unfold Op.bytesLess; rfl
  | x :: t => by
    have := bless_irrefl t
    unfold Op.bytesLess
    simp [this]
theorem cmpI_zero {a b : Int} : cmpI a b = 0 ↔ a = b := by
  unfold cmpI
  split
  · omega
  · split <;> omega
theorem cmpS_zero {a b : List UInt8} : cmpS a b = 0 ↔ a = b := by
  unfold cmpS
  constructor
  · intro h
    split at h
    · omega
    · split at h
      · assumption
      · omega
  · rintro rfl
    rw [bless_irrefl, if_neg (by decide), if_pos rfl]
theorem cmpVa_zero {a b : Va} : cmpVa a b = 0 ↔ a = b := by
  obtain ⟨k, n, s⟩ := a
  obtain ⟨k', n', s'⟩ := b
  unfold cmpVa or3
  dsimp only
  constructor
  · intro h
    split at h
    · rename_i h1
      exact absurd h h1
    · rename_i h1
      split at h
      · rename_i h2
        exact absurd h h2
      · rename_i h2
        have e1 := cmpI_zero.1 (Classical.not_not.1 h1)
        have e2 := cmpI_zero.1 (Classical.not_not.1 h2)
        have e3 := cmpS_zero.1 h
        rw [e1, e2, e3]
  · intro h
    cases h
    rw [cmpI_zero.2 rfl, cmpI_zero.2 rfl, cmpS_zero.2 rfl]
    rfl
theorem cmpVa_eq (a b : Va) : decide (cmpVa a b = 0) = decide (a = b) := by
  by_cases h : a = b
  · rw [decide_eq_true h, decide_eq_true (cmpVa_zero.2 h)]
  · rw [decide_eq_false h, decide_eq_false (fun e => h (cmpVa_zero.1 e))]
end Go.Proofs.YtipnglidepfkbaaDoor
