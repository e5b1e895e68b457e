/- Values, rows and lists of rows: plain data, and how they lie in memory. Walks: a row's value in a column; whether two values are the same; rows that are the same. Walks: which values and rows may be laid; the first rows of a list. Walks: whether two rows, and two lists of rows, are the same. Walks: rows laid one behind the other (slices.Concat). -/
import Derived.Test.YtojppmnmhdgnnaaGreatMBaCr
import Derived.Test.YtojppmnmhdgnnaaGreatChecked
import Derived.Laws.IdiomStrings
import Derived.Lib.AppendZeros
namespace Go.Proofs.YtojppmnmhdgnnaaGreat
set_option linter.unusedVariables false
set_option linter.unusedSimpArgs false
open Go.RowKit

/-- A value: its kind, its number, its text. -/
structure Va where
  k : Int
  n : Int
  s : List UInt8
deriving DecidableEq
namespace Va
def cells (v : Va) : List Value := [.int .u8 v.k, .int .i64 v.n, .string (St8 v.s)]
def agg (v : Va) : Value := .agg #[.int .u8 v.k, .int .i64 v.n, .string (St8 v.s)]
structure ok (v : Va) : Prop where
  k : 0 ≤ v.k ∧ v.k ≤ 255
  n : -9223372036854775808 ≤ v.n ∧ v.n ≤ 9223372036854775807
  s : v.s.length ≤ 9223372036854775807
def nil : Va := ⟨0, 0, []⟩
theorem nil_ok : nil.ok := ⟨⟨by decide, by decide⟩, ⟨by decide, by decide⟩, by show 0 ≤ _; omega⟩
end Va
abbrev RowM := List Va
def rcells (r : RowM) : List Value := r.flatMap Va.cells
theorem rcells_len : ∀ r : RowM, (rcells r).length = r.length * 3
  | [] => rfl
  | v :: r => by
    have := rcells_len r
    unfold rcells at *
    rw [List.flatMap_cons, List.length_append, this, List.length_cons]
    show 3 + _ = _
    omega
theorem rcells_append (r q : RowM) : rcells (r ++ q) = rcells r ++ rcells q := by simp [rcells]
theorem rcells_get : ∀ (r : RowM) (j : Nat) (v : Va) (t : Nat), r[j]? = some v → t < 3 → (rcells r)[j * 3 + t]? = v.cells[t]?
  | [], j, a, t, h, _ => by simp at h
  | x :: l, 0, a, t, h, ht => by
    obtain rfl : x = a := by simpa using h
    unfold rcells
    rw [List.flatMap_cons, Nat.zero_mul, Nat.zero_add, List.getElem?_append_left (by exact ht)]
  | x :: l, j + 1, a, t, h, ht => by
    have := rcells_get l j a t (by simpa using h) ht
    unfold rcells at *
    rw [List.flatMap_cons, List.getElem?_append_right (by show 3 ≤ _; omega), show (j + 1) * 3 + t - x.cells.length = j * 3 + t from by show (j + 1) * 3 + t - 3 = _; omega]
    exact this
theorem rcells_one (r : RowM) : ∀ u ∈ rcells r, u.oneCell' = true := by
  intro u hu
  obtain ⟨v, _, h⟩ := List.mem_flatMap.1 hu
  simp [Va.cells] at h
  rcases h with rfl | rfl | rfl <;> rfl

/-- A row's value in a column; nothing, if it has none there. -/
def colAt (r : RowM) (c : Int) : Va := if c < 0 ∨ (r.length : Int) ≤ c then Va.nil else r.getD c.toNat Va.nil
/-- Whether two values are the same, if that is known. -/
def eqV (x y : Va) : Int := if x.k = 0 ∨ y.k = 0 then 1 else if x = y then 2 else 0
/-- Rows that go together. -/
def goes (l r : Int) (x y : RowM) : Bool := decide (eqV (colAt x l) (colAt y r) = 2)
def nestRow (l r : Int) (x : RowM) (b : List RowM) : List RowM := (b.filter (goes l r x)).map (x ++ ·)
def nested (a b : List RowM) (l r : Int) : List RowM := a.flatMap fun x => nestRow l r x b

/-- The values lie where a row's slice points, in a block from B on. -/
def RdB (w : World) (B : Nat) (A : Option Addr) (xs : List Value) : Prop := xs ≠ [] → ∃ b o, A = some ⟨b, o, none⟩ ∧ B ≤ b ∧ w.rangeAt b o xs
/-- The headers hs are of rows that read as rs. -/
structure Rows (w : World) (hs : List Value) (rs : List RowM) : Prop where
  len : hs.length = rs.length
  at_ : ∀ (i : Nat) (r : RowM), rs[i]? = some r → ∃ A c, hs[i]? = some (.slice A r.length c) ∧ r.length ≤ c ∧ c ≤ maxLen ∧ Rd w A (rcells r) ∧ ∀ v ∈ r, v.ok
/-- The headers hs are of rows of the call's own, in blocks from B on, that read as rs. -/
structure RowsO (w : World) (B : Nat) (hs : List Value) (rs : List RowM) : Prop where
  len : hs.length = rs.length
  at_ : ∀ (i : Nat) (r : RowM), rs[i]? = some r → ∃ A c, hs[i]? = some (.slice A r.length c) ∧ Own w B 60 3 A r.length c (rcells r) ∧ ∀ v ∈ r, v.ok
namespace Rows
variable {w w' : World} {hs : List Value} {rs : List RowM}
theorem below (h : Rows w hs rs) (hb : Below w.heap.size w w') : Rows w' hs rs :=
  ⟨h.len, fun i r hi => by
    obtain ⟨A, c, h1, h2, h3, h4, h5⟩ := h.at_ i r hi
    exact ⟨A, c, h1, h2, h3, h4.below hb, h5⟩⟩
theorem take (h : Rows w hs rs) (n : Nat) : Rows w (hs.take n) (rs.take n) :=
  ⟨by rw [List.length_take, List.length_take, h.len], fun i r hi => by
    rw [List.getElem?_take] at hi
    split at hi
    · obtain ⟨A, c, h1, h2⟩ := h.at_ i r hi
      exact ⟨A, c, by rw [List.getElem?_take, if_pos (by assumption)]; exact h1, h2⟩
    · cases hi⟩
theorem nil (w : World) : Rows w [] [] := ⟨rfl, fun i r hi => by simp at hi⟩
end Rows
namespace RowsO
variable {w w' : World} {B : Nat} {hs : List Value} {rs : List RowM}
theorem below (h : RowsO w B hs rs) (hb : Below w.heap.size w w') : RowsO w' B hs rs :=
  ⟨h.len, fun i r hi => by
    obtain ⟨A, c, h1, h2, h3⟩ := h.at_ i r hi
    exact ⟨A, c, h1, h2.below hb, h3⟩⟩
theorem keeps {T : List TypeId} {B' : Nat} (h : RowsO w B hs rs) (ht : 60 ∉ T) (hk : Keeps T B' w w') : RowsO w' B hs rs :=
  ⟨h.len, fun i r hi => by
    obtain ⟨A, c, h1, h2, h3⟩ := h.at_ i r hi
    exact ⟨A, c, h1, h2.keeps ht hk, h3⟩⟩
theorem nil (w : World) (B : Nat) : RowsO w B [] [] := ⟨rfl, fun i r hi => by simp at hi⟩
theorem snoc (h : RowsO w B hs rs) {A : Option Addr} {r : RowM} {c : Nat} (ho : Own w B 60 3 A r.length c (rcells r)) (hr : ∀ v ∈ r, v.ok) : RowsO w B (hs ++ [.slice A r.length c]) (rs ++ [r]) :=
  ⟨by rw [List.length_append, List.length_append, h.len]; rfl, fun i q hi => by
    rw [List.getElem?_append] at hi
    split at hi
    · obtain ⟨A', c', h1, h2⟩ := h.at_ i q hi
      exact ⟨A', c', by rw [List.getElem?_append_left (List.getElem?_eq_some_iff.1 h1).1]; exact h1, h2⟩
    · rename_i hlt
      have e : i = rs.length := by
        have := (List.getElem?_eq_some_iff.1 hi).1
        simp at this
        omega
      subst e
      simp at hi
      subst hi
      exact ⟨A, c, by rw [← h.len]; simp, ho, hr⟩⟩
theorem rows (h : RowsO w B hs rs) : Rows w hs rs :=
  ⟨h.len, fun i r hi => by
    obtain ⟨A, c, h1, h2, h3⟩ := h.at_ i r hi
    have hc := h2.cap
    exact ⟨A, c, h1, hc.1, hc.2, h2.rd, h3⟩⟩
end RowsO
end Go.Proofs.YtojppmnmhdgnnaaGreat
namespace Go.Proofs.YtojppmnmhdgnnaaGreat
set_option linter.unusedVariables false
set_option linter.unusedSimpArgs false
open Go.RowKit

attribute [local go_sem ↓] Go.wp_at_zero Go.wp_at_succ

theorem row_cells {w : World} {A : Option Addr} {r : RowM} (hr : Rd w A (rcells r)) {k : Nat} (hk : k < r.length) : ∃ b o, A = some ⟨b, o, none⟩ ∧ w.cell? ⟨b, o + k * 3, none⟩ = some (.int .u8 r[k].k) ∧ w.cell? ⟨b, o + k * 3 + 1, none⟩ = some (.int .i64 r[k].n) ∧ w.cell? ⟨b, o + k * 3 + 2, none⟩ = some (.string (St8 r[k].s)) := by
  have hne : rcells r ≠ [] := by
    intro e
    have := rcells_len r
    rw [e] at this
    simp at this
    omega
  obtain ⟨b, o, rfl, hh⟩ := hr hne
  have e := fun t ht => rcells_get r k r[k] t (List.getElem?_eq_getElem hk) ht
  refine ⟨b, o, rfl, ?_, ?_, ?_⟩
  · exact hh (k * 3 + 0) _ (e 0 (by omega))
  · have := hh (k * 3 + 1) _ (e 1 (by omega))
    rwa [← Nat.add_assoc] at this
  · have := hh (k * 3 + 2) _ (e 2 (by omega))
    rwa [← Nat.add_assoc] at this

def knownV (x y : Va) (t : Bool) : Int := if x.k = 0 ∨ y.k = 0 then 1 else if t then 2 else 0
theorem Va.ext' {x y : Va} (h1 : x.k = y.k) (h2 : x.n = y.n) (h3 : x.s = y.s) : x = y := by
  cases x; cases y; simp_all
theorem cell_keep {w w' : World} (hb : Below w.heap.size w w') {p : Addr} {v : Value} (h : w.cell? p = some v) : w'.cell? p = some v := by
  by_cases hp : p.block < w.heap.size
  · rw [hb.cell hp]; exact h
  · exfalso
    have e : w.heap[p.block]? = none := Array.getElem?_eq_none (by omega)
    simp [World.cell?, e] at h
theorem below_two {w w3 : World} {o1 o2 : Obj} (h : Below ((w.alloc o1).alloc o2).drew.heap.size ((w.alloc o1).alloc o2).drew w3) : Below w.heap.size w w3 := by
  have hb : Below w.heap.size w ((w.alloc o1).alloc o2).drew := by go_grown
  exact hb.trans (h.mono hb.size)
theorem va_cases (k n : Int) (s : List UInt8) (k' n' : Int) (s' : List UInt8) : (k = k' ∧ n = n' ∧ s = s') ∨ (¬ k = k') ∨ (k = k' ∧ ¬ n = n') ∨ (k = k' ∧ n = n' ∧ ¬ s = s') := by
  by_cases h1 : k = k'
  · by_cases h2 : n = n'
    · by_cases h3 : s = s'
      · exact .inl ⟨h1, h2, h3⟩
      · exact .inr (.inr (.inr ⟨h1, h2, h3⟩))
    · exact .inr (.inr (.inl ⟨h1, h2⟩))
  · exact .inr (.inl h1)
end Go.Proofs.YtojppmnmhdgnnaaGreat
namespace Go.Proofs.YtojppmnmhdgnnaaGreat
set_option linter.unusedVariables false
set_option linter.unusedSimpArgs false
open Go.RowKit

attribute [local go_sem ↓] Go.wp_at_zero Go.wp_at_succ

/-- Whether a value may be. -/
def rightV (v : Va) : Bool :=
  if v.k = 0 then decide (v.n = 0 ∧ v.s = []) else if v.k = 1 then decide ((v.n = 0 ∨ v.n = 1) ∧ v.s = []) else if v.k = 2 then decide (v.s = []) else if v.k = 3 then decide (v.n = 0 ∧ v.s.length ≤ 1024) else false
/-- Why a row can't be laid. -/
def mayR (r : RowM) : Int := if 32 < r.length then 3 else if r.all rightV then 0 else 7

theorem St8_nil_cmp (s : List UInt8) : ((St8 s).toList == (⟨#[]⟩ : ByteArray).toList) = decide (s = []) := St8_cmp s []
theorem St8_empty (s : List UInt8) : (St8 s).toList.isEmpty = decide (s = []) := by
  rw [St8_list]
  cases s <;> simp
theorem St8_nil_eq (s : List UInt8) : (St8 s == ⟨#[]⟩) = decide (s = []) := St8_eq s []
theorem St8_nil_iff (s : List UInt8) : (St8 s = ⟨#[]⟩) ↔ s = [] := ⟨fun h => St8_inj (m := []) h, fun h => by rw [h]; rfl⟩

set_option maxHeartbeats 4000000 in
set_option maxRecDepth 100000 in
theorem right_any (v : Va) (w : World) : Calls Tryz.prog 54 #[v.agg] w fun e w' => e = .returned (.bool (rightV v)) ∧ Below w.heap.size w w' := by
  have e1 := St8_nil_cmp v.s
  have e2 := St8_nil_eq v.s
  have e3 := St8_nil_iff v.s
  have e4 := St8_size v.s
  have e5 := St8_empty v.s
  have hv : Hid (rightV v = if v.k = 0 then decide (v.n = 0 ∧ v.s = []) else if v.k = 1 then decide ((v.n = 0 ∨ v.n = 1) ∧ v.s = []) else if v.k = 2 then decide (v.s = []) else if v.k = 3 then decide (v.n = 0 ∧ v.s.length ≤ 1024) else false) := rfl
  obtain ⟨k, n, s⟩ := v
  unfold Va.agg
  dsimp only at *
  generalize rightV ⟨k, n, s⟩ = R at *
  by_cases h0 : k = 0
  · subst h0
    by_cases hn : n = 0
    · subst hn
      by_cases hs : s = []
      · rw [decide_eq_true hs] at e1 e2 e5
        have e3 := e3.2 hs
        subst hs
        have hv' : Hid (R = true) := by show _ = _; rw [hv.out]; simp
        clear hv
        go_enter Tryz.func54, Tryz.ntmps54
        go_wp2_with fail
        go_returns
        rw [hv'.out]
        exact ⟨rfl, by go_grown⟩
      · rw [decide_eq_false hs] at e1 e2 e5
        have e3 := fun h => hs (e3.1 h)
        have hv' : Hid (R = false) := by show _ = _; rw [hv.out]; simp [Nat.le_refl, hs]
        clear hv
        go_enter Tryz.func54, Tryz.ntmps54
        go_wp2_with fail
        go_returns
        rw [hv'.out]
        exact ⟨rfl, by go_grown⟩
    · have hv' : Hid (R = false) := by show _ = _; rw [hv.out]; simp [hn]
      clear hv
      go_enter Tryz.func54, Tryz.ntmps54
      go_wp2_with fail
      go_returns
      rw [hv'.out]
      exact ⟨rfl, by go_grown⟩
  · by_cases h1 : k = 1
    · subst h1
      by_cases hn : n = 0
      · subst hn
        by_cases hs : s = []
        · rw [decide_eq_true hs] at e1 e2 e5
          have e3 := e3.2 hs
          subst hs
          have hv' : Hid (R = true) := by show _ = _; rw [hv.out]; simp
          clear hv
          go_enter Tryz.func54, Tryz.ntmps54
          go_wp2_with fail
          go_returns
          rw [hv'.out]
          exact ⟨rfl, by go_grown⟩
        · rw [decide_eq_false hs] at e1 e2 e5
          have e3 := fun h => hs (e3.1 h)
          have hv' : Hid (R = false) := by show _ = _; rw [hv.out]; simp [Nat.le_refl, hs]
          clear hv
          go_enter Tryz.func54, Tryz.ntmps54
          go_wp2_with fail
          go_returns
          rw [hv'.out]
          exact ⟨rfl, by go_grown⟩
      · by_cases hn1 : n = 1
        · subst hn1
          by_cases hs : s = []
          · rw [decide_eq_true hs] at e1 e2 e5
            have e3 := e3.2 hs
            subst hs
            have hv' : Hid (R = true) := by show _ = _; rw [hv.out]; simp
            clear hv
            go_enter Tryz.func54, Tryz.ntmps54
            go_wp2_with fail
            go_returns
            rw [hv'.out]
            exact ⟨rfl, by go_grown⟩
          · rw [decide_eq_false hs] at e1 e2 e5
            have e3 := fun h => hs (e3.1 h)
            have hv' : Hid (R = false) := by show _ = _; rw [hv.out]; simp [Nat.le_refl, hs]
            clear hv
            go_enter Tryz.func54, Tryz.ntmps54
            go_wp2_with fail
            go_returns
            rw [hv'.out]
            exact ⟨rfl, by go_grown⟩
        · have hv' : Hid (R = false) := by show _ = _; rw [hv.out]; simp [hn, hn1]
          clear hv
          go_enter Tryz.func54, Tryz.ntmps54
          go_wp2_with fail
          go_returns
          rw [hv'.out]
          exact ⟨rfl, by go_grown⟩
    · by_cases h2 : k = 2
      · subst h2
        by_cases hs : s = []
        · rw [decide_eq_true hs] at e1 e2 e5
          have e3 := e3.2 hs
          subst hs
          have hv' : Hid (R = true) := by show _ = _; rw [hv.out]; simp
          clear hv
          go_enter Tryz.func54, Tryz.ntmps54
          go_wp2_with fail
          go_returns
          rw [hv'.out]
          exact ⟨rfl, by go_grown⟩
        · rw [decide_eq_false hs] at e1 e2 e5
          have e3 := fun h => hs (e3.1 h)
          have hv' : Hid (R = false) := by show _ = _; rw [hv.out]; simp [Nat.le_refl, hs]
          clear hv
          go_enter Tryz.func54, Tryz.ntmps54
          go_wp2_with fail
          go_returns
          rw [hv'.out]
          exact ⟨rfl, by go_grown⟩
      · by_cases h3 : k = 3
        · subst h3
          by_cases hn : n = 0
          · subst hn
            by_cases hl : s.length ≤ 1024
            · have e6 : decide ((s.length : Int) ≤ 1024) = true := decide_eq_true (by omega)
              have hv' : Hid (R = true) := by show _ = _; rw [hv.out]; simp [hl]
              clear hv
              go_enter Tryz.func54, Tryz.ntmps54
              go_wp2_with fail
              go_returns
              rw [hv'.out]
              exact ⟨rfl, by go_grown⟩
            · have e6 : decide ((s.length : Int) ≤ 1024) = false := decide_eq_false (by omega)
              have hv' : Hid (R = false) := by show _ = _; rw [hv.out]; simp [hl]
              clear hv
              go_enter Tryz.func54, Tryz.ntmps54
              go_wp2_with fail
              go_returns
              rw [hv'.out]
              exact ⟨rfl, by go_grown⟩
          · have hv' : Hid (R = false) := by show _ = _; rw [hv.out]; simp [hn]
            clear hv
            go_enter Tryz.func54, Tryz.ntmps54
            go_wp2_with fail
            go_returns
            rw [hv'.out]
            exact ⟨rfl, by go_grown⟩
        · have hv' : Hid (R = false) := by show _ = _; rw [hv.out]; simp [h0, h1, h2, h3]
          clear hv
          go_enter Tryz.func54, Tryz.ntmps54
          go_wp2_with fail
          go_returns
          rw [hv'.out]
          exact ⟨rfl, by go_grown⟩

theorem rcells_ne {r : RowM} (h : 0 < r.length) : rcells r ≠ [] := fun e => by
  have := rcells_len r
  rw [e] at this
  simp at this
  omega
/-- A row that may be laid, of short texts. -/
structure small (r : RowM) : Prop where
  may : mayR r = 0
  txt : ∀ v ∈ r, v.s.length ≤ 200
theorem small_len {r : RowM} (h : small r) : r.length ≤ 32 := by
  have := h.may
  unfold mayR at this
  split at this
  · exact absurd this (by decide)
  · omega
theorem small_right {r : RowM} (h : small r) : ∀ v ∈ r, rightV v = true := by
  have := h.may
  unfold mayR at this
  split at this
  · exact absurd this (by decide)
  · split at this
    · rename_i e; exact List.all_eq_true.1 e
    · exact absurd this (by decide)

end Go.Proofs.YtojppmnmhdgnnaaGreat
namespace Go.Proofs.YtojppmnmhdgnnaaGreat
set_option linter.unusedVariables false
set_option linter.unusedSimpArgs false
open Go.RowKit

attribute [local go_sem ↓] Go.wp_at_zero Go.wp_at_succ

set_option maxRecDepth 100000 in
theorem samerow_ne (l m : RowM) (n k : Nat) (A A' : Option Addr) (c c' : Nat) (w : World) (hl : l.length = n) (hm : m.length = k) (hnk : ¬ n = k) (hn : n ≤ 140737488355328) (hk : k ≤ 140737488355328) :
    Calls Tryz.prog 9 #[.slice A n c, .slice A' k c'] w fun e w' => e = .returned (.bool (decide (l = m))) ∧ ∃ j, w.drewN j = w' := by
  have hd : Hid (decide (l = m) = false) := decide_eq_false (fun e => hnk (by rw [← hl, ← hm, e]))
  clear hl hm
  go_enter Tryz.func9, Tryz.ntmps9
  go_wp2_with fail
  go_ret
  exact ⟨by rw [hd.out]; rfl, 0, rfl⟩

set_option maxRecDepth 100000 in
theorem samerow_any (l m : RowM) (n k : Nat) (A A' : Option Addr) (c c' : Nat) (w : World) (hl : l.length = n) (hm : m.length = k) (hA : Rd w A (rcells l)) (hA' : Rd w A' (rcells m)) (hn : n ≤ 140737488355328) (hk : k ≤ 140737488355328) :
    Calls Tryz.prog 9 #[.slice A n c, .slice A' k c'] w fun e w' => e = .returned (.bool (decide (l = m))) ∧ ∃ j, w.drewN j = w' := by
  by_cases hnk : n = k
  · subst hnk
    have Hl := Lib.hid hl
    have Hm := Lib.hid hm
    clear hl hm
    have hne : ((n : Int) != (n : Int)) = false := by simp
    go_enter Tryz.func9, Tryz.ntmps9
    go_wp2_with fail
    go_loopw [5] (fun i wr => ∃ (j q : Nat), j ≤ n ∧ i = .int .i64 j ∧ wr = w.drewN q ∧ Hid (l.take j = m.take j)) (fun i _ => n - (intOf i).toNat)
    case atStart => exact ⟨0, 0, by omega, rfl, rfl, rfl⟩
    case round =>
      obtain ⟨j, q, hj, rfl, rfl, heq⟩ := hrel
      by_cases hlt : j < n
      · have hjl : j < l.length := by rw [Hl.out]; exact hlt
        have hjm : j < m.length := by rw [Hm.out]; exact hlt
        obtain ⟨b, o, rfl, c0, c1, c2⟩ := row_cells hA hjl
        obtain ⟨b', o', rfl, d0, d1, d2⟩ := row_cells hA' hjm
        have ht := Lib.hid (List.take_succ_eq_append_getElem (l := l) (i := j) hjl)
        have ht' := Lib.hid (List.take_succ_eq_append_getElem (l := m) (i := j) hjm)
        have hx : Hid (∀ h : l = m, l[j] = m[j]) := by
          intro h
          subst h
          rfl
        clear hA hA'
        generalize l[j] = x at *
        generalize m[j] = y at *
        clear hjl hjm
        obtain ⟨k1, n1, s1⟩ := x
        obtain ⟨k2, n2, s2⟩ := y
        dsimp only at c0 c1 c2 d0 d1 d2
        have hjI : (0 : Int) ≤ (j : Int) := by omega
        have hjI' : (j : Int) < (n : Int) := by omega
        rcases va_cases k1 n1 s1 k2 n2 s2 with ⟨rfl, rfl, rfl⟩ | h | ⟨rfl, h⟩ | ⟨rfl, rfl, h⟩
        · go_wp2_with fail
          go_quiet (fail)
          go_wp2_with fail
          go_roundw
          case rel =>
            refine ⟨j + 1, _, by omega, by go_num, rfl, ?_⟩
            show _ = _
            rw [ht.out, ht'.out, heq.out]
          case measure => simp [intOf]; omega
        · have hd := Lib.hid (decide_eq_false (p := l = m) (fun e => h (congrArg Va.k (hx.out e))))
          go_wp2_with fail
          go_quiet (fail)
          go_wp2_with fail
          go_ret
          exact ⟨by rw [hd.out]; rfl, _, (World.drewN_drewN ..).symm⟩
        · have hd := Lib.hid (decide_eq_false (p := l = m) (fun e => h (congrArg Va.n (hx.out e))))
          go_wp2_with fail
          go_quiet (fail)
          go_wp2_with fail
          go_ret
          exact ⟨by rw [hd.out]; rfl, _, (World.drewN_drewN ..).symm⟩
        · have hd := Lib.hid (decide_eq_false (p := l = m) (fun e => h (congrArg Va.s (hx.out e))))
          have h1 : ¬ St8 s1 = St8 s2 := fun e => h (St8_inj e)
          have h2 := St8_cmp s1 s2
          have h3 := St8_eq s1 s2
          rw [decide_eq_false h] at h2 h3
          go_wp2_with fail
          go_quiet (fail)
          go_wp2_with fail
          go_ret
          exact ⟨by rw [hd.out]; rfl, _, (World.drewN_drewN ..).symm⟩
      · obtain rfl : j = n := by omega
        have hd : Hid (decide (l = m) = true) := decide_eq_true (by
          have := heq.out
          rwa [List.take_of_length_le (by rw [Hl.out]; exact Nat.le_refl _), List.take_of_length_le (by rw [Hm.out]; exact Nat.le_refl _)] at this)
        go_wp2_with fail
        go_ret
        exact ⟨by rw [hd.out]; rfl, _, rfl⟩
  · exact samerow_ne l m n k A A' c c' w hl hm hnk hn hk

theorem rd_drew2 {w : World} {q n : Nat} {A : Option Addr} {xs : List Value} (h : Rd w A xs) : Rd ((w.drewN q).drewN n) A xs :=
  Rd.below (w := w.drewN q) (h.below (below_drewN' (Below.refl _ _) q)) (below_drewN' (Below.refl _ _) n)
/-- Where a header of a list of rows lies. -/
theorem head_cell {w : World} {A : Option Addr} {hs : List Value} {rs : List RowM} (hr : Rd w A hs) (h : Rows w hs rs) {j : Nat} (hj : j < rs.length) :
    ∃ b o A' c, A = some ⟨b, o, none⟩ ∧ w.cell? ⟨b, o + j, none⟩ = some (.slice A' rs[j].length c) ∧ rs[j].length ≤ c ∧ c ≤ maxLen ∧ Rd w A' (rcells rs[j]) := by
  obtain ⟨A', c, h1, h2, h3, h4, _⟩ := h.at_ j rs[j] (List.getElem?_eq_getElem hj)
  obtain ⟨b, o, rfl, hh⟩ := hr (fun e => by rw [e] at h1; simp at h1)
  exact ⟨b, o, A', c, rfl, hh j _ h1, h2, h3, h4⟩

end Go.Proofs.YtojppmnmhdgnnaaGreat
namespace Go.Proofs.YtojppmnmhdgnnaaGreat
set_option linter.unusedVariables false
set_option linter.unusedSimpArgs false
open Go.RowKit

attribute [local go_sem ↓] Go.wp_at_zero Go.wp_at_succ

theorem Own.base {w : World} {base base' : Nat} {e : TypeId} {size : Nat} {A : Option Addr} {n c : Nat} {xs : List Value} (h : Own w base e size A n c xs) (hb : base' ≤ base) : Own w base' e size A n c xs :=
  ⟨h.1, h.2.imp id fun ⟨g, cap, cur, hv, hg, rest⟩ => ⟨g, cap, cur, hv, Nat.le_trans hb hg, rest⟩⟩
theorem flat_take (rs : List RowM) {j : Nat} (hj : j < rs.length) : (rs.take (j + 1)).flatten = (rs.take j).flatten ++ rs[j] := by
  rw [List.take_succ_eq_append_getElem hj, List.flatten_append, List.flatten_singleton]
theorem flat_le (rs : List RowM) (j : Nat) : (rs.take j).flatten.length ≤ rs.flatten.length := by
  have h := congrArg (fun l => l.flatten.length) (List.take_append_drop j rs)
  simp only [List.flatten_append, List.length_append] at h
  omega

end Go.Proofs.YtojppmnmhdgnnaaGreat
