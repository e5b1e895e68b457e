/- Words for the walk of SpillHolds: cells of acts and of pointers; a set of numbers that a walk over lists fills. -/
import Derived.Test.YtjjmnjgkodiibaaMHoA
import Derived.Test.YtjjmnjgkodiibaaMSetM
namespace Go.Proofs.Ytjjmnjgkodiibaa
open Go.RowKit

theorem acts_cells {w : World} {X : Option Addr} {ys : List ActH} (h : Rd w X (actsH ys)) {j : Nat} (hj : j < ys.length) : ∃ b o, X = some ⟨b, o, none⟩ ∧ w.cell? ⟨b, o + j * 3, none⟩ = some (.int .u8 (ys[j].kind : Int)) ∧ w.cell? ⟨b, o + j * 3 + 1, none⟩ = some (.int .u8 (ys[j].which : Int)) ∧ w.cell? ⟨b, o + j * 3 + 2, none⟩ = some (.slice ys[j].A ys[j].n ys[j].c) := by
  have hne : actsH ys ≠ [] := by
    intro e
    have := length_actsH ys
    rw [e] at this
    simp at this
    omega
  obtain ⟨b, o, rfl, hh⟩ := h hne
  have e := fun t ht => actsH_get ys j ys[j] t (List.getElem?_eq_getElem hj) ht
  refine ⟨b, o, rfl, ?_, ?_, ?_⟩
  · exact hh (j * 3 + 0) _ (e 0 (by omega))
  · have := hh (j * 3 + 1) _ (e 1 (by omega))
    rwa [← Nat.add_assoc] at this
  · have := hh (j * 3 + 2) _ (e 2 (by omega))
    rwa [← Nat.add_assoc] at this

/-- The array of three writers. -/
def arr3 (bw : Nat → Nat) : List Value := [.pointer (some ⟨bw 0, 0, none⟩), .pointer (some ⟨bw 1, 0, none⟩), .pointer (some ⟨bw 2, 0, none⟩)]
theorem arr3_get (bw : Nat → Nat) {k : Nat} (hk : k < 3) : (arr3 bw)[k]? = some (.pointer (some ⟨bw k, 0, none⟩)) := by
  match k, hk with
  | 0, _ => rfl
  | 1, _ => rfl
  | 2, _ => rfl
theorem arr3_set (bw : Nat → Nat) {k : Nat} (hk : k < 3) (nb : Nat) : (arr3 bw).set k (.pointer (some ⟨nb, 0, none⟩)) = arr3 (Pg.upd bw k nb) := by
  match k, hk with
  | 0, _ => rfl
  | 1, _ => rfl
  | 2, _ => rfl
theorem ptrs_get {w : World} {A : Option Addr} {bf : List Nat} (h : Rd w A (Ptrs bf)) {i : Nat} (hi : i < bf.length) : ∃ b o, A = some ⟨b, o, none⟩ ∧ w.cell? ⟨b, o + i, none⟩ = some (.pointer (some ⟨bf[i], 0, none⟩)) := by
  obtain ⟨b, o, e, _, _, hc⟩ := h.get (k := i) (by unfold Ptrs; rw [List.length_map]; exact hi)
  unfold Ptrs at hc
  rw [List.getElem_map] at hc
  exact ⟨b, o, e, hc⟩

/-- Those of the first p numbers of G. -/
def Among (G : List Nat) (p : Nat) (C : Int → Bool) : Prop := ∀ z, C z = true → ∃ d ∈ G.take p, z = (d : Int)
theorem Among.start (G : List Nat) : Among G 0 fun _ => false := fun z h => by cases h
theorem Among.not {G : List Nat} {p : Nat} {C : Int → Bool} (h : Among G p C) (hG : G.Nodup) {d : Nat} (hd : G[p]? = some d) : C (d : Int) = false := by
  cases e : C (d : Int) with
  | false => rfl
  | true =>
    obtain ⟨d', hm, hd'⟩ := h _ e
    obtain rfl : d = d' := by omega
    exfalso
    obtain ⟨q, hq⟩ := List.getElem?_of_mem hm
    have hqp : q < p := by
      have := (List.getElem?_eq_some_iff.1 hq).1
      rw [List.length_take] at this
      omega
    rw [List.getElem?_take_of_lt hqp] at hq
    have := (List.getElem?_inj (List.getElem?_eq_some_iff.1 hq).1 hG).1 (hq.trans hd.symm)
    omega
theorem Among.put {G : List Nat} {p : Nat} {C : Int → Bool} (h : Among G p C) {d : Nat} (hd : G[p]? = some d) : Among G (p + 1) fun y => decide (y = (d : Int)) || C y := fun z hz => by
  have hp := (List.getElem?_eq_some_iff.1 hd).1
  have e : G.take (p + 1) = G.take p ++ [d] := by
    rw [List.take_succ_eq_append_getElem hp, (List.getElem?_eq_some_iff.1 hd).2]
  rw [e]
  have hz' : (decide (z = (d : Int)) || C z) = true := hz
  rw [Bool.or_eq_true] at hz'
  rcases hz' with h1 | h1
  · exact ⟨d, by simp, of_decide_eq_true h1⟩
  · obtain ⟨d', hm, hd'⟩ := h z h1
    exact ⟨d', by simp [hm], hd'⟩

/-- How many pages the first i files have. -/
def cnt (F : List (List Nat)) (i : Nat) : Nat := (F.take i).flatten.length
theorem cnt_zero (F : List (List Nat)) : cnt F 0 = 0 := rfl
theorem cnt_succ {F : List (List Nat)} {i : Nat} {y : List Nat} (h : F[i]? = some y) : cnt F (i + 1) = cnt F i + y.length := by
  have hp := (List.getElem?_eq_some_iff.1 h).1
  unfold cnt
  rw [List.take_succ_eq_append_getElem hp, (List.getElem?_eq_some_iff.1 h).2, List.flatten_append, List.length_append]
  simp
theorem cnt_all {F : List (List Nat)} {i : Nat} (h : F.length = i) : cnt F i = F.flatten.length := by
  unfold cnt
  rw [List.take_of_length_le (by omega)]
theorem cnt_at : ∀ {F : List (List Nat)} {i : Nat} {y : List Nat}, F[i]? = some y → ∀ (t : Nat) (d : Nat), y[t]? = some d → F.flatten[cnt F i + t]? = some d
  | [], i, y, h, _, _, _ => by simp at h
  | x :: F, 0, y, h, t, d, ht => by
    simp at h
    subst h
    rw [cnt_zero, Nat.zero_add, List.flatten_cons, List.getElem?_append_left (List.getElem?_eq_some_iff.1 ht).1]
    exact ht
  | x :: F, i + 1, y, h, t, d, ht => by
    have ih := cnt_at (F := F) (i := i) (by simpa using h) t d ht
    have e : cnt (x :: F) (i + 1) = x.length + cnt F i := by unfold cnt; simp
    rw [e, List.flatten_cons, List.getElem?_append_right (by omega), show x.length + cnt F i + t - x.length = cnt F i + t from by omega]
    exact ih
theorem cnt_le {F : List (List Nat)} {i : Nat} {y : List Nat} (h : F[i]? = some y) : cnt F i + y.length ≤ F.flatten.length := by
  have e : F = F.take (i + 1) ++ F.drop (i + 1) := (List.take_append_drop _ _).symm
  have := cnt_succ h
  have h2 : F.flatten.length = (F.take (i + 1)).flatten.length + (F.drop (i + 1)).flatten.length := by
    rw [← List.length_append, ← List.flatten_append, List.take_append_drop]
  unfold cnt at *
  omega
/-- The files that have been dropped have no pages. -/
theorem flat_nil : ∀ {F : List (List Nat)}, (∀ (t : Nat) (y : List Nat), F[t]? = some y → y = []) → F.flatten = []
  | [], _ => rfl
  | x :: F, h => by
    rw [List.flatten_cons, h 0 x rfl, flat_nil fun t y hy => h (t + 1) y (by simpa using hy)]
    rfl
theorem SetAt.len_ {w : World} {b n : Nat} {C : Int → Bool} (h : SetAt w b n C) : ∃ m : Nat, m ≤ n ∧ ∀ ty, (Builtin.len_ #[45] ty #[.map (some b)]).run Try.prog w = .ok (.int .i64 m) w := by
  obtain ⟨D, ho, _⟩ := h
  refine ⟨Maps.size D, ?_, fun ty => ho.len (t := 45) (e := 4) (by kernel_rfl) ty⟩
  obtain ⟨es, clock, h1, h2, h3, rfl⟩ := ho
  rw [Maps.size_eq, length_sorted, List.length_map, Array.length_toList]
  exact h3
end Go.Proofs.Ytjjmnjgkodiibaa
