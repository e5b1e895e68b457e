/- Walks: the columns that are asked for, rising. -/
import Derived.Test.YtheafcfbahdcfaaDoorMGrC
import Derived.Test.YtheafcfbahdcfaaDoorMShelf
import Derived.Test.YtheafcfbahdcfaaDoorMAkR
import Derived.Test.YtheafcfbahdcfaaDoorMGrG
import Derived.Sort.OwnSortedInts
namespace Go.Proofs.YtheafcfbahdcfaaDoor
set_option linter.unusedVariables false
set_option linter.unusedSimpArgs false
open Go.RowKit

attribute [local go_sem ↓] Go.wp_at_zero Go.wp_at_succ

/-- Behind slices.Sort. -/
theorem sort_own (l : List Int) (g n c B : Nat) (w : World) (h : Own w B 3 1 (some ⟨g, 0, none⟩) n c (icl l)) (hn : n ≤ 1000000) :
    Calls Tryd.prog 37 #[.slice (some ⟨g, 0, none⟩) n c] w fun e w' => e = .returned (.tuple #[]) ∧ Own w' B 3 1 (some ⟨g, 0, none⟩) n c (icl (sortI l)) ∧ w.grownBy w' (some g) := by
  have hl : l.length = n := by
    have := h.1
    rw [icl_len, Nat.mul_one] at this
    exact this
  have hcap := h.cap
  rcases h.lies with ⟨hA, _⟩ | ⟨g', cur, hA, hb, hlt, hh, hs, ht⟩
  · cases hA
  · injection hA with hA
    injection hA with hA _
    subst hA
    rw [Nat.mul_one] at ht
    have hH := holds_of_blockI (ss := l) hh (by rw [hl]; exact ht)
    have hc := Tryd.slices_Sort_int g 0 c l w hH hlt (by rw [hl]; omega)
    rw [hl] at hc
    refine hc.mono ?_
    rintro e w' ⟨rfl, q, os, rfl⟩
    refine ⟨rfl, ?_, grownBy_sortedI _⟩
    have := ownsRow_sortedI (n := q) (os := os) (ss := l) (ts := sortI l) (sortI_len l) hb hh (by rw [hl]; exact hcap.1) hcap.2 hs
    rw [hl] at this
    exact this
theorem grow_none (w : World) : Sort.grow w #[] = w := by
  show ({ w with heap := w.heap ++ #[] } : World) = w
  rw [Array.append_empty]
/-- Behind slices.Compact. -/
theorem compact_own (l : List Int) (g n c B : Nat) (w : World) (h : Own w B 3 1 (some ⟨g, 0, none⟩) n c (icl l)) (hn : n ≤ 1000000) :
    Calls Tryd.prog 38 #[.slice (some ⟨g, 0, none⟩) n c] w fun e w' => e = .returned (.slice (some ⟨g, 0, none⟩) (Lib.compact l).length c) ∧ Own w' B 3 1 (some ⟨g, 0, none⟩) (Lib.compact l).length c (icl (Lib.compact l)) ∧ w.grownBy w' (some g) := by
  have hl : l.length = n := by
    have := h.1
    rw [icl_len, Nat.mul_one] at this
    exact this
  have hcap := h.cap
  have hle := Lib.compact_length_le l
  rcases h.lies with ⟨hA, _⟩ | ⟨g', cur, hA, hb, hlt, hh, hs, ht⟩
  · cases hA
  · injection hA with hA
    injection hA with hA _
    subst hA
    rw [Nat.mul_one] at ht
    have hH := holds_of_blockI (ss := l) hh (by rw [hl]; exact ht)
    have hc := Tryd.slices_Compact_int g 0 c l w hH (by rw [hl]; omega) (by rw [hl]; exact hcap.1)
    rw [hl] at hc
    refine hc.mono ?_
    rintro e w' ⟨rfl, q, rfl⟩
    rw [← hl]
    have hlen : (Lib.compact l ++ List.replicate (l.length - (Lib.compact l).length) (0 : Int)).length = l.length := by rw [List.length_append, List.length_replicate]; omega
    have h1 := ownsRow_sortedI (n := q) (os := #[]) (ss := l) (ts := Lib.compact l ++ List.replicate (l.length - (Lib.compact l).length) 0) hlen hb hh (by rw [hl]; exact hcap.1) hcap.2 hs
    have h2 := grownBy_sortedI (w := w) (g := g) (n := q) (os := #[]) (Lib.compact l ++ List.replicate (l.length - (Lib.compact l).length) 0).toArray
    rw [grow_none] at h1 h2
    refine ⟨rfl, ?_, h2⟩
    have h3 := Own.shrink (e := 3) h1 hle (by simp)
    have h4 : (List.map (Value.int .i64) (Lib.compact l ++ List.replicate (l.length - (Lib.compact l).length) 0)).take (Lib.compact l).length = icl (Lib.compact l) := by
      unfold icl
      rw [List.map_append, List.take_left' (List.length_map _)]
    rw [h4] at h3
    exact h3

theorem sort_nil (w : World) : Calls Tryd.prog 37 #[.slice none 0 0] w fun e w' => e = .returned (.tuple #[]) ∧ Below w.heap.size w w' := by
  refine (Tryd.slices_Sort_int_none none 0 w).mono ?_
  rintro e w' ⟨rfl, rfl⟩
  exact ⟨rfl, Below.refl _ _⟩

theorem colsL_snoc (l : List Nd) (x : Nd) : colsL (l ++ [x]) = if x.asks then colsL l ++ [x.col] else colsL l := by
  unfold colsL
  rw [List.filter_append, List.map_append]
  by_cases h : x.asks = true
  · rw [if_pos h, List.filter_cons_of_pos h]; rfl
  · rw [if_neg h, List.filter_cons_of_neg h]; simp

set_option maxHeartbeats 4000000 in
set_option maxRecDepth 100000 in
theorem cols_c (l : List Nd) (L : Option Addr) (n c : Nat) (w : World) (hl : l.length = n) (hL : Rd w L (ncells l)) (hn : n ≤ 1000) :
    Calls Tryd.prog 36 #[.slice L n c] w fun e w' => (∃ A c', e = .returned (.slice A (colsR l).length c') ∧ Rd w' A (icl (colsR l))) ∧ Below w.heap.size w w' := by
  have Hl := Lib.hid hl
  have HL := Lib.hid hL
  clear hl hL
  go_enter Tryd.func36, Tryd.ntmps36
  go_wp2_with fail
  go_loopw [3, 8] (fun vo vi wr => ∃ (j k c : Nat) (A : Option Addr) (q : List Int), vo = .slice A k c ∧ vi = .int .i64 (j : Int) ∧ j ≤ n ∧ k ≤ j ∧ Hid (q.length = k) ∧ Hid (q = colsL (l.take j)) ∧ Hid (k = 0 → A = none ∧ c = 0) ∧ Hid (Own wr w.heap.size 3 1 A k c (icl q)) ∧ Hid (Below w.heap.size w wr)) (fun _ vi _ => n - (intOf vi).toNat)
  case atStart => exact ⟨0, 0, 0, none, [], rfl, rfl, by omega, by omega, rfl, rfl, fun _ => ⟨rfl, rfl⟩, Own.nil _ _ _ _, Below.refl _ _⟩
  case round =>
    obtain ⟨j, k9, c9, A, q, rfl, rfl, hj, hkj, Hq, Hqe, Hz, Ho, Hb⟩ := hrel
    by_cases hjn : j < n
    · have hjI : (j : Int) < (n : Int) := by omega
      have hjI0 : (0 : Int) ≤ (j : Int) := by omega
      have hjl : j < l.length := by rw [Hl.out]; exact hjn
      have hg := List.getElem?_eq_getElem hjl
      obtain ⟨b, o, rfl, c0, c1, c2, c3, c4, c5⟩ := node_cells (HL.out.below Hb.out) hg
      have Hsn : Hid (colsL (l.take (j + 1)) = if l[j].asks then colsL (l.take j) ++ [l[j].col] else colsL (l.take j)) := by
        show _ = _
        rw [List.take_succ_eq_append_getElem hjl, colsL_snoc]
      have has := Lib.hid (fun w' => asks_any l[j] w')
      generalize wr = wo at *
      generalize l[j] = x at *
      obtain ⟨op, col, kids, k, nn, s⟩ := x
      unfold Nd.agg at has
      dsimp only at c0 c1 c2 c3 c4 c5 has Hsn
      generalize (Nd.mk op col kids ⟨k, nn, s⟩).asks = ask at *
      have hbl := Blk.new wo 50 #[.int .u8 op, .int .i64 col, .int .i64 kids, .int .u8 k, .int .i64 nn, .string (St8 s)]
      have hb0 : Below wo.heap.size wo (wo.alloc (.cells #[.int .u8 op, .int .i64 col, .int .i64 kids, .int .u8 k, .int .i64 nn, .string (St8 s)] 50)) := (Below.refl _ _).alloc (Nat.le_refl _) _
      have Hc : Hid (∀ w', Below (wo.alloc (.cells #[.int .u8 op, .int .i64 col, .int .i64 kids, .int .u8 k, .int .i64 nn, .string (St8 s)] 50)).heap.size (wo.alloc (.cells #[.int .u8 op, .int .i64 col, .int .i64 kids, .int .u8 k, .int .i64 nn, .string (St8 s)] 50)) w' → w'.cell? ⟨wo.heap.size, 1, none⟩ = some (.int .i64 col) ∧ Hid (Below w.heap.size w w') ∧ Hid (Below wo.heap.size wo w')) := fun w' hb => ⟨(hbl.below hb).cell 1, Hb.out.trans ((hb0.trans (hb.mono hb0.size)).mono Hb.out.size), hb0.trans (hb.mono hb0.size)⟩
      clear hbl hb0 hg hjl
      cases ask
      · have Hqn : Hid (q = colsL (l.take (j + 1))) := by
          show _ = _
          rw [Hsn.out, if_neg (by decide)]
          exact Hqe.out
        clear Hsn
        go_wp2_with fail
        refine (has.out _).mono ?_
        rintro e w1 ⟨rfl, hb1⟩
        obtain ⟨_, Hb1, Hbr⟩ := Hc.out w1 hb1
        have Ho1 := Lib.hid (Ho.out.below Hbr.out)
        clear hb1
        go_wp2_with fail
        go_roundw
        case rel => exact ⟨j + 1, k9, c9, A, q, rfl, by go_num, by omega, by omega, Hq, Hqn, Hz, Ho1, Hb1⟩
        case measure => simp [intOf]; omega
      · have Hqn : Hid (q ++ [col] = colsL (l.take (j + 1))) := by
          show _ = _
          rw [Hsn.out, if_pos rfl, Hqe.out]
        clear Hsn
        go_wp2_with fail
        refine (has.out _).mono ?_
        rintro e w1 ⟨rfl, hb1⟩
        obtain ⟨d1, Hb1, Hbr⟩ := Hc.out w1 hb1
        have ho1 := Ho.out.below Hbr.out
        have hbW : Below w1.heap.size w1 (w1.alloc (.cells #[.int .i64 col] 3)) := (Below.refl _ _).alloc (Nat.le_refl _) _
        have hnew := (Blk.new w1 3 #[.int .i64 col]).range
        have ho3 := Own.below ho1 hbW
        have hb3 := Hb1.out.trans (hbW.mono Hb1.out.size)
        have hz3 := hb3.size
        clear hb1 ho1 hbW Ho Hb
        go_wp2_with (first | (at_builtin; refine hold ?_) | (at_make; refine hold ?_))
        (with_reducible refine unhold ?_)
        refine wpList_apd rfl _ _ _ rfl Eint' w.heap.size _ k9 _ (icl q) rfl ho3 _ 1 _ [.int .i64 col] rfl rfl (fun _ => ⟨_, _, rfl, hnew⟩) (by simp [Value.oneCell']) (k9 + 1) rfl _ rfl (by omega) (by omega) hz3 ?_
        intro A5 c5 w9 ho9 hg9 _
        have Hb9 := Lib.hid (hb3.grown hg9 hb3.size ho3.row_ge)
        have Ho9 : Hid (Own w9 w.heap.size 3 1 A5 (k9 + 1) c5 (icl (q ++ [col]))) := by
          show Own _ _ _ _ _ _ _ _
          rw [icl_append]
          exact ho9
        have Hql : Hid ((q ++ [col]).length = k9 + 1) := by show _ = _; rw [List.length_append, Hq.out]; rfl
        clear ho9 hg9 ho3 hb3 hnew
        go_wp2_with fail
        go_roundw
        case rel => exact ⟨j + 1, k9 + 1, c5, A5, _, rfl, by go_num, by omega, by omega, Hql, Hqn, fun h => absurd h (by omega), Ho9, Hb9⟩
        case measure => simp [intOf]; omega
    · obtain rfl : j = n := by omega
      have hfin : q = colsL l := by
        have := Hqe.out
        rw [List.take_of_length_le (by rw [Hl.out]; omega)] at this
        exact this
      subst hfin
      have hsame := cols_same l
      have hslen := sortI_len (colsL l)
      clear Hqe
      by_cases h0 : k9 = 0
      · subst h0
        obtain ⟨rfl, rfl⟩ := Hz.out rfl
        have hnil : colsL l = [] := List.eq_nil_of_length_eq_zero Hq.out
        have hR : Hid (colsR l = []) := by
          show _ = _
          rw [← hsame, hnil]
          refine List.eq_nil_of_length_eq_zero ?_
          have := Lib.compact_length_le (sortI [])
          rw [sortI_len] at this
          simpa using this
        clear hsame hslen hnil Hq Hz Ho
        go_wp2_with fail
        refine (sort_nil wr).mono ?_
        rintro e w1 ⟨rfl, hb1⟩
        have Hb1 := Lib.hid (Hb.out.trans (hb1.mono Hb.out.size))
        clear hb1
        go_wp2_with fail
        refine (Tryd.slices_Compact_int_empty none 0 w1).mono ?_
        rintro e w2 ⟨rfl, rfl⟩
        go_wp2_with fail
        go_ret
        rw [hR.out]
        exact ⟨⟨none, 0, rfl, Rd.nil _ _⟩, Hb1.out⟩
      · have hne : A ≠ none := by
          rintro rfl
          rcases Ho.out.lies with ⟨_, h, _⟩ | ⟨_, _, h, _⟩
          · exact h0 h
          · cases h
        obtain ⟨g, rfl⟩ : ∃ g, A = some ⟨g, 0, none⟩ := by
          rcases Ho.out.lies with ⟨h, _⟩ | ⟨g, _, h, _⟩
          · exact absurd h hne
          · exact ⟨g, h⟩
        have hso := sort_own (colsL l) g k9 c9 w.heap.size wr Ho.out (by omega)
        have hco := fun w' (h : Own w' w.heap.size 3 1 (some ⟨g, 0, none⟩) k9 c9 (icl (sortI (colsL l)))) => compact_own (sortI (colsL l)) g k9 c9 w.heap.size w' h (by omega)
        rw [hsame] at hco
        have Hso := Lib.hid hso
        have Hco := Lib.hid hco
        clear hso hco hsame hslen hne Hz Hq
        go_wp2_with fail
        refine Hso.out.mono ?_
        rintro e w1 ⟨rfl, ho1, hg1⟩
        have Ho1 := Lib.hid ho1
        have Hb1 := Lib.hid (Hb.out.grown hg1 Hb.out.size (fun k h => Ho.out.row_ge k h))
        clear ho1 hg1
        go_wp2_with fail
        refine (Hco.out _ Ho1.out).mono ?_
        rintro e w2 ⟨rfl, ho2, hg2⟩
        have Ho2 := Lib.hid ho2
        have Hb2 := Lib.hid (Hb1.out.grown hg2 Hb1.out.size (fun k h => Ho1.out.row_ge k h))
        clear ho2 hg2
        go_wp2_with fail
        go_ret
        exact ⟨⟨_, _, rfl, Ho2.out.rd⟩, Hb2.out⟩

set_option maxRecDepth 100000 in
theorem ints_same (l : List Int) (n : Nat) (A A' : Option Addr) (c c' : Nat) (w : World) (hl : l.length = n) (hA : Rd w A (icl l)) (hA' : Rd w A' (icl l)) (hn : n ≤ 140737488355328) :
    Calls Tryd.prog 15 #[.slice A n c, .slice A' n c'] w fun e w' => e = .returned (.bool true) ∧ Below w.heap.size w w' := by
  have Hl := Lib.hid hl
  clear hl
  have hne : ((n : Int) != (n : Int)) = false := by simp
  go_enter Tryd.func15, Tryd.ntmps15
  go_wp2_with fail
  go_loopw [5] (fun i wr => ∃ (j q : Nat), j ≤ n ∧ i = .int .i64 j ∧ wr = w.drewN q) (fun i _ => n - (intOf i).toNat)
  case atStart => exact ⟨0, 0, by omega, rfl, rfl⟩
  case round =>
    obtain ⟨j, q, hj, rfl, rfl⟩ := hrel
    by_cases hlt : j < n
    · obtain ⟨b, o, rfl, hb, _, hca⟩ := hA.get (k := j) (by rw [icl_len, Hl.out]; exact hlt)
      obtain ⟨b', o', rfl, hb', _, hca'⟩ := hA'.get (k := j) (by rw [icl_len, Hl.out]; exact hlt)
      clear hA hA'
      have hx : (icl l)[j]'(by rw [icl_len, Hl.out]; exact hlt) = .int .i64 (l[j]'(by rw [Hl.out]; exact hlt)) := by unfold icl; rw [List.getElem_map]
      rw [hx] at hca hca'
      clear hx
      generalize l[j]'(by rw [Hl.out]; exact hlt) = x at *
      have hjI : (0 : Int) ≤ (j : Int) := by omega
      have hjI' : (j : Int) < (n : Int) := by omega
      go_wp2_with fail
      go_quiet (fail)
      go_wp2_with fail
      go_roundw
      case rel => exact ⟨j + 1, _, by omega, by go_num, rfl⟩
      case measure => simp [intOf]; omega
    · obtain rfl : j = n := by omega
      go_wp2_with fail
      go_ret
      exact ⟨rfl, below_drewN' (Below.refl _ _) _⟩

end Go.Proofs.YtheafcfbahdcfaaDoor
