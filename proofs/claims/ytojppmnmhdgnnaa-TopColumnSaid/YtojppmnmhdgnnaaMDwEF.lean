/- Walks: the words of texts, and of each text its word's place: the program's. The walk of dict.Of: the words of texts, and of each text its word's place. -/
import Derived.Test.YtojppmnmhdgnnaaMDwCD
import Derived.Sort.OwnSorted
namespace Go.Proofs.Ytojppmnmhdgnnaa
set_option linter.unusedVariables false
set_option linter.unusedSimpArgs false
open Go.RowKit

attribute [local go_sem ↓] Go.wp_at_zero Go.wp_at_succ

def icl (l : List Int) : List Value := l.map (Value.int .i64)
theorem icl_len (l : List Int) : (icl l).length = l.length := List.length_map _
theorem icl_append (l m : List Int) : icl (l ++ m) = icl l ++ icl m := List.map_append
theorem icl_one (l : List Int) : ∀ u ∈ icl l, u.oneCell' = true := by
  intro u hu
  obtain ⟨x, _, rfl⟩ := List.mem_map.1 hu
  rfl
theorem Eint' : ElemT Try.prog 35 3 1 8 (.int .i64 0) := ElemT.mk' (by kernel_rfl) (by kernel_rfl) rfl (by omega)

theorem Own.shrink {w : World} {base : Nat} {e : TypeId} {A : Option Addr} {n c : Nat} {xs : List Value} (h : Own w base e 1 A n c xs) {m : Nat} (hm : m ≤ n) (hA : A ≠ none) : Own w base e 1 A m c (xs.take m) := by
  have hl := h.1
  refine ⟨by rw [List.length_take, hl]; omega, ?_⟩
  rcases h.2 with ⟨hv, h0⟩ | ⟨g, cap, cur, hv, hg, hh, hnc, hcm, hcs, ht⟩
  · injection hv with h1 h2 h3
    exact absurd h1 hA
  · injection hv with h1 h2 h3
    subst h1; subst h3
    refine .inr ⟨g, c, cur, rfl, hg, hh, by omega, hcm, hcs, ?_⟩
    rw [← ht, List.take_take, Nat.mul_one, Nat.mul_one, Nat.min_eq_left hm]

theorem own_of {w : World} {base : Nat} {e : TypeId} {v : Value} {n : Nat} {xs : List Value} (h : w.ownsRow base e 1 v n xs) : ∃ A c, v = .slice A n c ∧ Own w base e 1 A n c xs := by
  rcases h.2 with ⟨hv, h0⟩ | ⟨g, cap, cur, hv, rest⟩
  · refine ⟨none, 0, ?_, ?_⟩
    · rw [hv, h0]
    · show w.ownsRow base e 1 (.slice none n 0) n xs
      rw [show (Value.slice none n 0) = v from by rw [hv, h0]]
      exact h
  · refine ⟨_, cap, hv, ?_⟩
    show w.ownsRow base e 1 (.slice (some ⟨g, 0, none⟩) n cap) n xs
    rw [← hv]
    exact h

/-- Behind slices.Clone. -/
theorem clone_own (l : List (List UInt8)) (n c : Nat) (A : Option Addr) (w : World) (hl : l.length = n) (hr : Rd w A (wcl l)) (hn : n ≤ 1000000) :
    Calls Try.prog 105 #[.slice A n c] w fun e w' => ∃ A' c', e = .returned (.slice A' n c') ∧ Own w' w.heap.size 9 1 A' n c' (wcl l) ∧ Below w.heap.size w w' := by
  cases l with
  | nil =>
    obtain rfl : 0 = n := hl
    cases A with
    | none =>
      refine (Try.slices_Clone_string_nil 0 c w).mono ?_
      rintro e w' ⟨rfl, rfl⟩
      exact ⟨none, 0, rfl, Own.nil _ _ _ _, Below.refl _ _⟩
    | some a =>
      refine (Try.slices_Clone_string_zero a c w).mono ?_
      rintro e w' ⟨v', rfl, ho, _, hb⟩
      obtain ⟨A', c', rfl, ho'⟩ := own_of ho
      exact ⟨A', c', rfl, ho', hb⟩
  | cons x t =>
    obtain ⟨b, o, rfl, hh⟩ := hr (by simp [wcl])
    have hc : ∀ j, j < ((x :: t).map St8).length → w.cell? ⟨b, o + j, none⟩ = some (.string (((x :: t).map St8).getD j ByteArray.empty)) := fun j hj => by
      rw [List.length_map] at hj
      refine hh j _ ?_
      rw [wcl_get hj, List.getD_eq_getElem?_getD, List.getElem?_map, List.getElem?_eq_getElem hj]
      rfl
    refine (Try.slices_Clone_string b o n c ((x :: t).map St8) w (by rw [List.length_map, hl]; exact Nat.le_refl _) (by omega) hc).mono ?_
    rintro e w' ⟨v', rfl, ho, _, hb⟩
    obtain ⟨A', c', rfl, ho'⟩ := own_of ho
    refine ⟨A', c', rfl, ?_, hb⟩
    have e : (((x :: t).map St8).take n).map Value.string = wcl (x :: t) := by
      rw [List.take_of_length_le (by rw [List.length_map, hl]; exact Nat.le_refl _), List.map_map]
      rfl
    rw [e] at ho'
    exact ho'
theorem wcl_enc (l : List (List UInt8)) : wcl l = l.map encStr := rfl
/-- Behind slices.Sort. -/
theorem sort_own (l : List (List UInt8)) (A : Option Addr) (n c B : Nat) (w : World) (h : Own w B 9 1 A n c (wcl l)) (hn : n ≤ 1000000) :
    Calls Try.prog 106 #[.slice A n c] w fun e w' => e = .returned (.tuple #[]) ∧ Own w' B 9 1 A n c (wcl (sortW l)) ∧ w.grownBy w' ((Value.slice A n c).ownBlock) := by
  have hl : l.length = n := by
    have := h.1
    rw [wcl_len, Nat.mul_one] at this
    exact this
  have hcap := h.cap
  rcases h.lies with ⟨hA, h0, hc0, _⟩ | ⟨g', cur, hA, hb, hlt, hh, hs, ht⟩
  · subst hA
    subst h0
    have hl0 : l = [] := List.eq_nil_of_length_eq_zero hl
    subst hl0
    have h1 : sortW [] = [] := by unfold sortW; simp
    rw [h1]
    refine (Try.slices_Sort_string_none none c w).mono ?_
    rintro e w' ⟨rfl, rfl⟩
    exact ⟨rfl, h, World.grownBy.refl _ _⟩
  · subst hA
    rw [Nat.mul_one] at ht
    have hH := holds_of_block (ss := l) hh (by rw [hl]; exact ht)
    have hc := Try.slices_Sort_string g' 0 c l w hH hlt (by rw [hl]; omega)
    rw [hl] at hc
    refine hc.mono ?_
    rintro e w' ⟨rfl, q, os, rfl⟩
    refine ⟨rfl, ?_, grownBy_sorted _⟩
    have := ownsRow_sorted (n := q) (os := os) (ss := l) (ts := sortW l) (sortW_len l) hb hh (by rw [hl]; exact hcap.1) hcap.2 hs
    rw [hl] at this
    exact this
theorem grow_none (w : World) : Sort.grow w #[] = w := by
  show ({ w with heap := w.heap ++ #[] } : World) = w
  rw [Array.append_empty]
/-- Behind slices.Compact. -/
theorem compact_own (l : List (List UInt8)) (A : Option Addr) (n c B : Nat) (w : World) (h : Own w B 9 1 A n c (wcl l)) (hn : n ≤ 1000000) :
    Calls Try.prog 107 #[.slice A n c] w fun e w' => e = .returned (.slice A (Lib.compact l).length c) ∧ Own w' B 9 1 A (Lib.compact l).length c (wcl (Lib.compact l)) ∧ w.grownBy w' ((Value.slice A n c).ownBlock) := by
  have hl : l.length = n := by
    have := h.1
    rw [wcl_len, Nat.mul_one] at this
    exact this
  have hcap := h.cap
  have hle := Lib.compact_length_le l
  rcases h.lies with ⟨hA, h0, hc0, _⟩ | ⟨g', cur, hA, hb, hlt, hh, hs, ht⟩
  · subst hA
    subst h0
    subst hc0
    have hl0 : l = [] := List.eq_nil_of_length_eq_zero hl
    subst hl0
    refine (Try.slices_Compact_string_empty none 0 w).mono ?_
    rintro e w' ⟨rfl, rfl⟩
    exact ⟨rfl, Own.nil _ _ _ _, World.grownBy.refl _ _⟩
  · subst hA
    rw [Nat.mul_one] at ht
    have hH := holds_of_block (ss := l) hh (by rw [hl]; exact ht)
    have hc := Try.slices_Compact_string g' 0 c l w hH (by rw [hl]; omega) (by rw [hl]; exact hcap.1)
    rw [hl] at hc
    refine hc.mono ?_
    rintro e w' ⟨rfl, q, rfl⟩
    rw [← hl]
    have hlen : (Lib.compact l ++ List.replicate (l.length - (Lib.compact l).length) ([] : List UInt8)).length = l.length := by rw [List.length_append, List.length_replicate]; omega
    have h1 := ownsRow_sorted (n := q) (os := #[]) (ss := l) (ts := Lib.compact l ++ List.replicate (l.length - (Lib.compact l).length) []) hlen hb hh (by rw [hl]; exact hcap.1) hcap.2 hs
    have h2 := grownBy_sorted (w := w) (g := g') (n := q) (os := #[]) (Lib.compact l ++ List.replicate (l.length - (Lib.compact l).length) []).toArray
    rw [grow_none] at h1 h2
    refine ⟨rfl, ?_, h2⟩
    have h3 := Own.shrink (e := 9) h1 hle (by simp)
    have h4 : (List.map encStr (Lib.compact l ++ List.replicate (l.length - (Lib.compact l).length) [])).take (Lib.compact l).length = wcl (Lib.compact l) := by
      rw [List.map_append, List.take_left' (List.length_map _)]
      rfl
    rw [h4] at h3
    exact h3
end Go.Proofs.Ytojppmnmhdgnnaa
namespace Go.Proofs.Ytojppmnmhdgnnaa
set_option linter.unusedVariables false
set_option linter.unusedSimpArgs false
open Go.RowKit

attribute [local go_sem ↓] Go.wp_at_zero Go.wp_at_succ

/-- How Of ends. -/
def OfOK (l : List (List UInt8)) (w : World) (e : Ending) (w' : World) : Prop :=
  ((ofM l = none ∧ e = .returned (.tuple #[.slice none 0 0, .slice none 0 0, .int .i64 3])) ∨ ∃ W p A c A2 c2, ofM l = some (W, p) ∧ e = .returned (.tuple #[.slice A W.length c, .slice A2 p.length c2, .int .i64 0]) ∧ Rd w' A (wcl W) ∧ Rd w' A2 (icl p)) ∧ Below w.heap.size w w'

theorem icl_snoc (l : List Int) (x : Int) : icl (l ++ [x]) = icl l ++ [.int .i64 x] := icl_append l [x]

set_option maxHeartbeats 4000000 in
set_option maxRecDepth 100000 in
theorem dof_any (l : List (List UInt8)) (n c : Nat) (A : Option Addr) (w : World) (hl : l.length = n) (hr : Rd w A (wcl l)) (hn : n ≤ 4096) :
    Calls Try.prog 86 #[.slice A n c] w fun e w' => OfOK l w e w' := by
  have hco := Lib.hid (longs_any l n c A w hl hr (by omega))
  have hcl := Lib.hid (clone_own l n c A w hl hr (by omega))
  have hof : Hid (ofM l = if longs l = true ∨ 200 < (wordsM l).length then none else some (wordsM l, l.map (placeM (wordsM l)))) := rfl
  have Hl := Lib.hid hl
  have Hr := Lib.hid hr
  have hn6 : ¬ (4096 : Int) < (n : Int) := by omega
  clear hl hr
  cases hlo : longs l
  · rw [hlo] at hco
    have hof1 : Hid (ofM l = if 200 < (wordsM l).length then none else some (wordsM l, l.map (placeM (wordsM l)))) := by
      show _ = _
      rw [hof.out, hlo]
      simp
    clear hof hlo
    go_enter Try.func86, Try.ntmps86
    go_wp2_with fail
    refine hco.out.mono ?_
    rintro e w1 ⟨rfl, rfl⟩
    go_wp2_with fail
    refine hcl.out.mono ?_
    rintro e w1 ⟨A1, c1, rfl, ho1, hb1⟩
    clear hcl hco
    go_wp2_with fail
    refine (sort_own l A1 n c1 _ w1 ho1 (by omega)).mono ?_
    rintro e w2 ⟨rfl, ho2, hg2⟩
    have hb2 := hb1.grown hg2 hb1.size ho1.row_ge
    clear ho1 hg2 hb1
    go_wp2_with fail
    refine (compact_own (sortW l) A1 n c1 _ w2 ho2 (by omega)).mono ?_
    rintro e w3 ⟨rfl, ho3, hg3⟩
    have hb3 := hb2.grown hg3 hb2.size ho2.row_ge
    clear ho2 hg3 hb2
    have hwm := wordsM_spec l
    change Hid (ofM l = if 200 < (Lib.compact (sortW l)).length then none else some (Lib.compact (sortW l), l.map (placeM (Lib.compact (sortW l))))) at hof1
    change ((Lib.compact (sortW l)).Pairwise (· < ·) ∧ ∀ x, x ∈ Lib.compact (sortW l) ↔ x ∈ l) at hwm
    generalize Lib.compact (sortW l) = W at *
    have hw3 := ho3.rd
    obtain ⟨k, hk⟩ : ∃ k, W.length = k := ⟨_, rfl⟩
    rw [hk] at hof1 ⊢
    have Hk := Lib.hid hk
    have Hw3 := Lib.hid hw3
    have Hb3 := Lib.hid hb3
    have Hwm := Lib.hid hwm
    clear ho3 hk hw3 hb3 hwm
    by_cases h200 : 200 < k
    · have hf : Hid (ofM l = none) := by show _ = _; rw [hof1.out, if_pos h200]
      have h2I : (200 : Int) < (k : Int) := by omega
      go_wp2_with fail
      go_ret3
      exact ⟨.inl ⟨hf.out, rfl⟩, Hb3.out⟩
    · have hf : Hid (ofM l = some (W, l.map (placeM W))) := by show _ = _; rw [hof1.out, if_neg h200]
      have h2I : ¬ (200 : Int) < (k : Int) := by omega
      go_wp2_with fail
      go_loopw [6, 29] (fun vo vi wr => ∃ (j c' : Nat) (A' : Option Addr), vo = .slice A' j c' ∧ vi = .int .i64 (j : Int) ∧ j ≤ n ∧ Hid (Own wr w3.heap.size 3 1 A' j c' (icl ((l.take j).map (placeM W)))) ∧ Hid (Below w3.heap.size w3 wr)) (fun _ vi _ => n - (intOf vi).toNat)
      case atStart => exact ⟨0, 0, none, rfl, rfl, by omega, Own.nil _ _ _ _, Below.refl _ _⟩
      case round =>
        obtain ⟨j, c', A', rfl, rfl, hj, Ho, Hb⟩ := hrel
        by_cases hjn : j < n
        · have hjl : j < l.length := by rw [Hl.out]; exact hjn
          have hjI : (j : Int) < (n : Int) := by omega
          have hj0 : (0 : Int) ≤ (j : Int) := by omega
          have hrw := (Hr.out.below Hb3.out).below Hb.out
          obtain ⟨b, o, rfl, c0⟩ := hrw.word hjl
          have hbs := Lib.hid (bsearch_any W l[j] k c1 A1 wr Hk.out (Hw3.out.below Hb.out) (by omega) Hwm.out.1)
          have Hsn : Hid ((l.take (j + 1)).map (placeM W) = (l.take j).map (placeM W) ++ [((wahd l[j] W : Nat) : Int)]) := by
            show _ = _
            rw [List.take_succ_eq_append_getElem hjl, List.map_append, List.map_singleton, placeM_mem Hwm.out.1 ((Hwm.out.2 _).2 (List.getElem_mem hjl))]
          generalize decide (W[wahd l[j] W]? = some l[j]) = D at *
          generalize wahd l[j] W = P at *
          generalize l[j] = x at *
          clear hrw hjl
          go_wp2_with fail
          refine hbs.out.mono ?_
          rintro e w4 ⟨rfl, rfl⟩
          have hbW : Below wr.heap.size wr (wr.alloc (.cells #[.int .i64 (P : Int)] 3)) := (Below.refl _ _).alloc (Nat.le_refl _) _
          have hnew := (Blk.new wr 3 #[.int .i64 (P : Int)]).range
          have ho5 := Own.below Ho.out hbW
          have hb5 := Hb.out.trans (hbW.mono Hb.out.size)
          have hz5 := hb5.size
          clear hbs hbW
          go_wp2_with (first | (at_builtin; refine hold ?_) | (at_make; refine hold ?_))
          (with_reducible refine unhold ?_)
          refine wpList_apd rfl _ _ _ rfl Eint' w3.heap.size _ j _ (icl ((l.take j).map (placeM W))) rfl ho5 _ 1 _ [.int .i64 (P : Int)] rfl rfl (fun _ => ⟨_, _, rfl, hnew⟩) (by simp [Value.oneCell']) (j + 1) rfl _ rfl (by omega) (by omega) hz5 ?_
          intro A5 c5 w9 ho9 hg9 _
          have Hb9 := Lib.hid (hb5.grown hg9 hb5.size ho5.row_ge)
          have Ho9 : Hid (Own w9 w3.heap.size 3 1 A5 (j + 1) c5 (icl ((l.take (j + 1)).map (placeM W)))) := by
            show Own _ _ _ _ _ _ _ _
            rw [Hsn.out, icl_snoc]
            exact ho9
          clear ho9 hg9 ho5 hb5 hnew Ho Hb Hsn
          go_wp2_with fail
          go_roundw
          case rel => exact ⟨j + 1, c5, A5, rfl, by go_num, by omega, Ho9, Hb9⟩
          case measure => simp only [intOf, Int.toNat_natCast]; omega
        · obtain rfl : j = n := by omega
          go_wp2_with fail
          go_ret3
          refine ⟨.inr ⟨W, l.map (placeM W), A1, c1, A', c', hf.out, ?_, Hw3.out.below Hb.out, ?_⟩, Hb3.out.trans (Hb.out.mono Hb3.out.size)⟩
          · rw [List.length_map, Hl.out, Hk.out]
            rfl
          · have := Ho.out.rd
            rw [List.take_of_length_le (by rw [Hl.out]; exact Nat.le_refl _)] at this
            exact this
  · rw [hlo] at hco
    have hf : Hid (ofM l = none) := by show _ = _; rw [hof.out, if_pos (.inl hlo)]
    clear hof hlo
    go_enter Try.func86, Try.ntmps86
    go_wp2_with fail
    refine hco.out.mono ?_
    rintro e w1 ⟨rfl, rfl⟩
    go_wp2_with fail
    go_ret3
    exact ⟨.inl ⟨hf.out, rfl⟩, Below.refl _ _⟩
end Go.Proofs.Ytojppmnmhdgnnaa
