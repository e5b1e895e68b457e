/- The walk of dict.Of: the words of texts, and of each text its word's place. -/
import Derived.Test.YtojppmnmhdgnnaaMDwE
namespace Go.Proofs.Ytojppmnmhdgnnaa
open Go.RowKit

attribute [local go_sem ↓] Go.wp_at_zero Go.wp_at_succ

/-- How Of ends. -/
def OfOK (l : List (List UInt8)) (w : World) (e : Ending) (w' : World) : Prop :=
  ((ofM l = none ∧ e = .returned (.tuple #[.slice none 0 0, .slice none 0 0, .int .i64 3])) ∨ ∃ W p A c A2 c2, ofM l = some (W, p) ∧ e = .returned (.tuple #[.slice A W.length c, .slice A2 p.length c2, .int .i64 0]) ∧ Rd w' A (wcl W) ∧ Rd w' A2 (icl p)) ∧ Below w.heap.size w w'

theorem icl_snoc (l : List Int) (x : Int) : icl (l ++ [x]) = icl l ++ [.int .i64 x] := icl_append l [x]

set_option maxHeartbeats 4000000 in
set_option maxRecDepth 100000 in
theorem dof_any (l : List (List UInt8)) (n c : Nat) (A : Option Addr) (w : World) (hl : l.length = n) (hr : Rd w A (wcl l)) (hn : n ≤ 4096) :
    Calls Try.prog 86 #[.slice A n c] w fun e w' => OfOK l w e w' := by
  have hco := Lib.hid (longs_any l n c A w hl hr (by omega))
  have hcl := Lib.hid (clone_own l n c A w hl hr (by omega))
  have hof : Hid (ofM l = if longs l = true ∨ 200 < (wordsM l).length then none else some (wordsM l, l.map (placeM (wordsM l)))) := rfl
  have Hl := Lib.hid hl
  have Hr := Lib.hid hr
  have hn6 : ¬ (4096 : Int) < (n : Int) := by omega
  clear hl hr
  cases hlo : longs l
  · rw [hlo] at hco
    have hof1 : Hid (ofM l = if 200 < (wordsM l).length then none else some (wordsM l, l.map (placeM (wordsM l)))) := by
      show _ = _
      rw [hof.out, hlo]
      simp
    clear hof hlo
    go_enter Try.func86, Try.ntmps86
    go_wp2_with fail
    refine hco.out.mono ?_
    rintro e w1 ⟨rfl, rfl⟩
    go_wp2_with fail
    refine hcl.out.mono ?_
    rintro e w1 ⟨A1, c1, rfl, ho1, hb1⟩
    clear hcl hco
    go_wp2_with fail
    refine (sort_own l A1 n c1 _ w1 ho1 (by omega)).mono ?_
    rintro e w2 ⟨rfl, ho2, hg2⟩
    have hb2 := hb1.grown hg2 hb1.size ho1.row_ge
    clear ho1 hg2 hb1
    go_wp2_with fail
    refine (compact_own (sortW l) A1 n c1 _ w2 ho2 (by omega)).mono ?_
    rintro e w3 ⟨rfl, ho3, hg3⟩
    have hb3 := hb2.grown hg3 hb2.size ho2.row_ge
    clear ho2 hg3 hb2
    have hwm := wordsM_spec l
    change Hid (ofM l = if 200 < (Lib.compact (sortW l)).length then none else some (Lib.compact (sortW l), l.map (placeM (Lib.compact (sortW l))))) at hof1
    change ((Lib.compact (sortW l)).Pairwise (· < ·) ∧ ∀ x, x ∈ Lib.compact (sortW l) ↔ x ∈ l) at hwm
    generalize Lib.compact (sortW l) = W at *
    have hw3 := ho3.rd
    obtain ⟨k, hk⟩ : ∃ k, W.length = k := ⟨_, rfl⟩
    rw [hk] at hof1 ⊢
    have Hk := Lib.hid hk
    have Hw3 := Lib.hid hw3
    have Hb3 := Lib.hid hb3
    have Hwm := Lib.hid hwm
    clear ho3 hk hw3 hb3 hwm
    by_cases h200 : 200 < k
    · have hf : Hid (ofM l = none) := by show _ = _; rw [hof1.out, if_pos h200]
      have h2I : (200 : Int) < (k : Int) := by omega
      go_wp2_with fail
      go_ret3
      exact ⟨.inl ⟨hf.out, rfl⟩, Hb3.out⟩
    · have hf : Hid (ofM l = some (W, l.map (placeM W))) := by show _ = _; rw [hof1.out, if_neg h200]
      have h2I : ¬ (200 : Int) < (k : Int) := by omega
      go_wp2_with fail
      go_loopw [6, 29] (fun vo vi wr => ∃ (j c' : Nat) (A' : Option Addr), vo = .slice A' j c' ∧ vi = .int .i64 (j : Int) ∧ j ≤ n ∧ Hid (Own wr w3.heap.size 3 1 A' j c' (icl ((l.take j).map (placeM W)))) ∧ Hid (Below w3.heap.size w3 wr)) (fun _ vi _ => n - (intOf vi).toNat)
      case atStart => exact ⟨0, 0, none, rfl, rfl, by omega, Own.nil _ _ _ _, Below.refl _ _⟩
      case round =>
        obtain ⟨j, c', A', rfl, rfl, hj, Ho, Hb⟩ := hrel
        by_cases hjn : j < n
        · have hjl : j < l.length := by rw [Hl.out]; exact hjn
          have hjI : (j : Int) < (n : Int) := by omega
          have hj0 : (0 : Int) ≤ (j : Int) := by omega
          have hrw := (Hr.out.below Hb3.out).below Hb.out
          obtain ⟨b, o, rfl, c0⟩ := hrw.word hjl
          have hbs := Lib.hid (bsearch_any W l[j] k c1 A1 wr Hk.out (Hw3.out.below Hb.out) (by omega) Hwm.out.1)
          have Hsn : Hid ((l.take (j + 1)).map (placeM W) = (l.take j).map (placeM W) ++ [((wahd l[j] W : Nat) : Int)]) := by
            show _ = _
            rw [List.take_succ_eq_append_getElem hjl, List.map_append, List.map_singleton, placeM_mem Hwm.out.1 ((Hwm.out.2 _).2 (List.getElem_mem hjl))]
          generalize decide (W[wahd l[j] W]? = some l[j]) = D at *
          generalize wahd l[j] W = P at *
          generalize l[j] = x at *
          clear hrw hjl
          go_wp2_with fail
          refine hbs.out.mono ?_
          rintro e w4 ⟨rfl, rfl⟩
          have hbW : Below wr.heap.size wr (wr.alloc (.cells #[.int .i64 (P : Int)] 3)) := (Below.refl _ _).alloc (Nat.le_refl _) _
          have hnew := (Blk.new wr 3 #[.int .i64 (P : Int)]).range
          have ho5 := Own.below Ho.out hbW
          have hb5 := Hb.out.trans (hbW.mono Hb.out.size)
          have hz5 := hb5.size
          clear hbs hbW
          go_wp2_with (first | (at_builtin; refine hold ?_) | (at_make; refine hold ?_))
          (with_reducible refine unhold ?_)
          refine wpList_apd rfl _ _ _ rfl Eint' w3.heap.size _ j _ (icl ((l.take j).map (placeM W))) rfl ho5 _ 1 _ [.int .i64 (P : Int)] rfl rfl (fun _ => ⟨_, _, rfl, hnew⟩) (by simp [Value.oneCell']) (j + 1) rfl _ rfl (by omega) (by omega) hz5 ?_
          intro A5 c5 w9 ho9 hg9 _
          have Hb9 := Lib.hid (hb5.grown hg9 hb5.size ho5.row_ge)
          have Ho9 : Hid (Own w9 w3.heap.size 3 1 A5 (j + 1) c5 (icl ((l.take (j + 1)).map (placeM W)))) := by
            show Own _ _ _ _ _ _ _ _
            rw [Hsn.out, icl_snoc]
            exact ho9
          clear ho9 hg9 ho5 hb5 hnew Ho Hb Hsn
          go_wp2_with fail
          go_roundw
          case rel => exact ⟨j + 1, c5, A5, rfl, by go_num, by omega, Ho9, Hb9⟩
          case measure => simp only [intOf, Int.toNat_natCast]; omega
        · obtain rfl : j = n := by omega
          go_wp2_with fail
          go_ret3
          refine ⟨.inr ⟨W, l.map (placeM W), A1, c1, A', c', hf.out, ?_, Hw3.out.below Hb.out, ?_⟩, Hb3.out.trans (Hb.out.mono Hb3.out.size)⟩
          · rw [List.length_map, Hl.out, Hk.out]
            rfl
          · have := Ho.out.rd
            rw [List.take_of_length_le (by rw [Hl.out]; exact Nat.le_refl _)] at this
            exact this
  · rw [hlo] at hco
    have hf : Hid (ofM l = none) := by show _ = _; rw [hof.out, if_pos (.inl hlo)]
    clear hof hlo
    go_enter Try.func86, Try.ntmps86
    go_wp2_with fail
    refine hco.out.mono ?_
    rintro e w1 ⟨rfl, rfl⟩
    go_wp2_with fail
    go_ret3
    exact ⟨.inl ⟨hf.out, rfl⟩, Below.refl _ _⟩
end Go.Proofs.Ytojppmnmhdgnnaa
