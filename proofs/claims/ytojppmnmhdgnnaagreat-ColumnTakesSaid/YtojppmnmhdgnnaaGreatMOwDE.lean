/- Walks: the words of texts, and of each text its word's place: the program's. A cell of a row of the call's own is set. -/
import Derived.Test.YtojppmnmhdgnnaaGreatMDwCD
import Derived.Sort.OwnSorted
import Derived.Test.YtojppmnmhdgnnaaGreatMBaCr
namespace Go.Proofs.YtojppmnmhdgnnaaGreat
set_option linter.unusedVariables false
set_option linter.unusedSimpArgs false
open Go.RowKit

attribute [local go_sem ↓] Go.wp_at_zero Go.wp_at_succ

def icl (l : List Int) : List Value := l.map (Value.int .i64)
theorem icl_len (l : List Int) : (icl l).length = l.length := List.length_map _
theorem icl_append (l m : List Int) : icl (l ++ m) = icl l ++ icl m := List.map_append
theorem icl_one (l : List Int) : ∀ u ∈ icl l, u.oneCell' = true := by
  intro u hu
  obtain ⟨x, _, rfl⟩ := List.mem_map.1 hu
  rfl
theorem Eint' : ElemT Tryz.prog 35 3 1 8 (.int .i64 0) := ElemT.mk' (by kernel_rfl) (by kernel_rfl) rfl (by omega)

theorem Own.shrink {w : World} {base : Nat} {e : TypeId} {A : Option Addr} {n c : Nat} {xs : List Value} (h : Own w base e 1 A n c xs) {m : Nat} (hm : m ≤ n) (hA : A ≠ none) : Own w base e 1 A m c (xs.take m) := by
  have hl := h.1
  refine ⟨by rw [List.length_take, hl]; omega, ?_⟩
  rcases h.2 with ⟨hv, h0⟩ | ⟨g, cap, cur, hv, hg, hh, hnc, hcm, hcs, ht⟩
  · injection hv with h1 h2 h3
    exact absurd h1 hA
  · injection hv with h1 h2 h3
    subst h1; subst h3
    refine .inr ⟨g, c, cur, rfl, hg, hh, by omega, hcm, hcs, ?_⟩
    rw [← ht, List.take_take, Nat.mul_one, Nat.mul_one, Nat.min_eq_left hm]

theorem own_of {w : World} {base : Nat} {e : TypeId} {v : Value} {n : Nat} {xs : List Value} (h : w.ownsRow base e 1 v n xs) : ∃ A c, v = .slice A n c ∧ Own w base e 1 A n c xs := by
  rcases h.2 with ⟨hv, h0⟩ | ⟨g, cap, cur, hv, rest⟩
  · refine ⟨none, 0, ?_, ?_⟩
    · rw [hv, h0]
    · show w.ownsRow base e 1 (.slice none n 0) n xs
      rw [show (Value.slice none n 0) = v from by rw [hv, h0]]
      exact h
  · refine ⟨_, cap, hv, ?_⟩
    show w.ownsRow base e 1 (.slice (some ⟨g, 0, none⟩) n cap) n xs
    rw [← hv]
    exact h

/-- Behind slices.Clone. -/
theorem clone_own (l : List (List UInt8)) (n c : Nat) (A : Option Addr) (w : World) (hl : l.length = n) (hr : Rd w A (wcl l)) (hn : n ≤ 1000000) :
    Calls Tryz.prog 103 #[.slice A n c] w fun e w' => ∃ A' c', e = .returned (.slice A' n c') ∧ Own w' w.heap.size 9 1 A' n c' (wcl l) ∧ Below w.heap.size w w' := by
  cases l with
  | nil =>
    obtain rfl : 0 = n := hl
    cases A with
    | none =>
      refine (Tryz.slices_Clone_string_nil 0 c w).mono ?_
      rintro e w' ⟨rfl, rfl⟩
      exact ⟨none, 0, rfl, Own.nil _ _ _ _, Below.refl _ _⟩
    | some a =>
      refine (Tryz.slices_Clone_string_zero a c w).mono ?_
      rintro e w' ⟨v', rfl, ho, _, hb⟩
      obtain ⟨A', c', rfl, ho'⟩ := own_of ho
      exact ⟨A', c', rfl, ho', hb⟩
  | cons x t =>
    obtain ⟨b, o, rfl, hh⟩ := hr (by simp [wcl])
    have hc : ∀ j, j < ((x :: t).map St8).length → w.cell? ⟨b, o + j, none⟩ = some (.string (((x :: t).map St8).getD j ByteArray.empty)) := fun j hj => by
      rw [List.length_map] at hj
      refine hh j _ ?_
      rw [wcl_get hj, List.getD_eq_getElem?_getD, List.getElem?_map, List.getElem?_eq_getElem hj]
      rfl
    refine (Tryz.slices_Clone_string b o n c ((x :: t).map St8) w (by rw [List.length_map, hl]; exact Nat.le_refl _) (by omega) hc).mono ?_
    rintro e w' ⟨v', rfl, ho, _, hb⟩
    obtain ⟨A', c', rfl, ho'⟩ := own_of ho
    refine ⟨A', c', rfl, ?_, hb⟩
    have e : (((x :: t).map St8).take n).map Value.string = wcl (x :: t) := by
      rw [List.take_of_length_le (by rw [List.length_map, hl]; exact Nat.le_refl _), List.map_map]
      rfl
    rw [e] at ho'
    exact ho'
theorem wcl_enc (l : List (List UInt8)) : wcl l = l.map encStr := rfl
/-- Behind slices.Sort. -/
theorem sort_own (l : List (List UInt8)) (A : Option Addr) (n c B : Nat) (w : World) (h : Own w B 9 1 A n c (wcl l)) (hn : n ≤ 1000000) :
    Calls Tryz.prog 104 #[.slice A n c] w fun e w' => e = .returned (.tuple #[]) ∧ Own w' B 9 1 A n c (wcl (sortW l)) ∧ w.grownBy w' ((Value.slice A n c).ownBlock) := by
  have hl : l.length = n := by
    have := h.1
    rw [wcl_len, Nat.mul_one] at this
    exact this
  have hcap := h.cap
  rcases h.lies with ⟨hA, h0, hc0, _⟩ | ⟨g', cur, hA, hb, hlt, hh, hs, ht⟩
  · subst hA
    subst h0
    have hl0 : l = [] := List.eq_nil_of_length_eq_zero hl
    subst hl0
    have h1 : sortW [] = [] := by unfold sortW; simp
    rw [h1]
    refine (Tryz.slices_Sort_string_none none c w).mono ?_
    rintro e w' ⟨rfl, rfl⟩
    exact ⟨rfl, h, World.grownBy.refl _ _⟩
  · subst hA
    rw [Nat.mul_one] at ht
    have hH := holds_of_block (ss := l) hh (by rw [hl]; exact ht)
    have hc := Tryz.slices_Sort_string g' 0 c l w hH hlt (by rw [hl]; omega)
    rw [hl] at hc
    refine hc.mono ?_
    rintro e w' ⟨rfl, q, os, rfl⟩
    refine ⟨rfl, ?_, grownBy_sorted _⟩
    have := ownsRow_sorted (n := q) (os := os) (ss := l) (ts := sortW l) (sortW_len l) hb hh (by rw [hl]; exact hcap.1) hcap.2 hs
    rw [hl] at this
    exact this
theorem grow_none (w : World) : Sort.grow w #[] = w := by
  show ({ w with heap := w.heap ++ #[] } : World) = w
  rw [Array.append_empty]
/-- Behind slices.Compact. -/
theorem compact_own (l : List (List UInt8)) (A : Option Addr) (n c B : Nat) (w : World) (h : Own w B 9 1 A n c (wcl l)) (hn : n ≤ 1000000) :
    Calls Tryz.prog 105 #[.slice A n c] w fun e w' => e = .returned (.slice A (Lib.compact l).length c) ∧ Own w' B 9 1 A (Lib.compact l).length c (wcl (Lib.compact l)) ∧ w.grownBy w' ((Value.slice A n c).ownBlock) := by
  have hl : l.length = n := by
    have := h.1
    rw [wcl_len, Nat.mul_one] at this
    exact this
  have hcap := h.cap
  have hle := Lib.compact_length_le l
  rcases h.lies with ⟨hA, h0, hc0, _⟩ | ⟨g', cur, hA, hb, hlt, hh, hs, ht⟩
  · subst hA
    subst h0
    subst hc0
    have hl0 : l = [] := List.eq_nil_of_length_eq_zero hl
    subst hl0
    refine (Tryz.slices_Compact_string_empty none 0 w).mono ?_
    rintro e w' ⟨rfl, rfl⟩
    exact ⟨rfl, Own.nil _ _ _ _, World.grownBy.refl _ _⟩
  · subst hA
    rw [Nat.mul_one] at ht
    have hH := holds_of_block (ss := l) hh (by rw [hl]; exact ht)
    have hc := Tryz.slices_Compact_string g' 0 c l w hH (by rw [hl]; omega) (by rw [hl]; exact hcap.1)
    rw [hl] at hc
    refine hc.mono ?_
    rintro e w' ⟨rfl, q, rfl⟩
    rw [← hl]
    have hlen : (Lib.compact l ++ List.replicate (l.length - (Lib.compact l).length) ([] : List UInt8)).length = l.length := by rw [List.length_append, List.length_replicate]; omega
    have h1 := ownsRow_sorted (n := q) (os := #[]) (ss := l) (ts := Lib.compact l ++ List.replicate (l.length - (Lib.compact l).length) []) hlen hb hh (by rw [hl]; exact hcap.1) hcap.2 hs
    have h2 := grownBy_sorted (w := w) (g := g') (n := q) (os := #[]) (Lib.compact l ++ List.replicate (l.length - (Lib.compact l).length) []).toArray
    rw [grow_none] at h1 h2
    refine ⟨rfl, ?_, h2⟩
    have h3 := Own.shrink (e := 9) h1 hle (by simp)
    have h4 : (List.map encStr (Lib.compact l ++ List.replicate (l.length - (Lib.compact l).length) [])).take (Lib.compact l).length = wcl (Lib.compact l) := by
      rw [List.map_append, List.take_left' (List.length_map _)]
      rfl
    rw [h4] at h3
    exact h3
end Go.Proofs.YtojppmnmhdgnnaaGreat
namespace Go.Proofs.YtojppmnmhdgnnaaGreat
set_option linter.unusedVariables false
set_option linter.unusedSimpArgs false
open Go.RowKit

theorem grown_set (w : World) (g i : Nat) (u : Value) : w.grownBy (w.setCell ⟨g, i, none⟩ u) (some g) := by
  refine ⟨rfl, rfl, rfl, ?_, fun k hk hn => ?_⟩
  · have := size_setCells g [u] i w
    exact Nat.le_of_eq this.symm
  · exact heap_setCell_other _ _ _ _ (fun e => hn (by rw [e]))
/-- A cell of a row of the call's own is set. -/
theorem Own.put {w : World} {base : Nat} {e : TypeId} {size g n c : Nat} {xs : List Value} (h : Own w base e size (some ⟨g, 0, none⟩) n c xs) {i : Nat} (hi : i < n * size) (u : Value) :
    Own (w.setCell ⟨g, i, none⟩ u) base e size (some ⟨g, 0, none⟩) n c (xs.set i u) ∧ w.grownBy (w.setCell ⟨g, i, none⟩ u) (some g) ∧ w.frozen? ⟨g, i, none⟩ = false := by
  have hl := h.1
  rcases h.2 with ⟨hv, _⟩ | ⟨g', cap, cur, hv, hg, hh, hnc, hcm, hcs, ht⟩
  · cases hv
  · injection hv with h1 h2 h3
    injection h1 with h1
    injection h1 with h1
    subst h1
    subst h3
    have hB : Blk w g e cur.toList := hh
    have hB2 := hB.set_ i u
    refine ⟨⟨by rw [List.length_set, hl], .inr ⟨g, c, (cur.toList.set i u).toArray, rfl, hg, hB2, hnc, hcm, ?_, ?_⟩⟩, ?_, hB.frozen i⟩
    · rw [List.size_toArray, List.length_set, Array.length_toList, hcs]
    · show List.take (n * size) (cur.toList.set i u) = _
      rw [← ht, List.take_set]
    · exact grown_set w g i u

end Go.Proofs.YtojppmnmhdgnnaaGreat
