/- Walks: how many places spans have, and which: the program's. -/
import Derived.Test.YtjfpflnijkokaaaSwB
namespace Go.Proofs.Ytjfpflnijkokaaa
open Go.RowKit

attribute [local go_sem ↓] Go.wp_at_zero Go.wp_at_succ

def icl (l : List Int) : List Value := l.map (Value.int .i64)
theorem icl_len (l : List Int) : (icl l).length = l.length := List.length_map _
theorem icl_append (l m : List Int) : icl (l ++ m) = icl l ++ icl m := List.map_append
theorem icl_snoc (l : List Int) (x : Int) : icl (l ++ [x]) = icl l ++ [.int .i64 x] := icl_append l [x]
theorem Eint' : ElemT Try.prog 22 3 1 8 (.int .i64 0) := ElemT.mk' (by kernel_rfl) (by kernel_rfl) rfl (by omega)

theorem count_snoc (l : List SpanM) (s : SpanM) : countS (l ++ [s]) = countS l + (s.2 - s.1) := by
  unfold countS
  rw [List.map_append, List.sum_append]
  simp
set_option maxHeartbeats 8000000 in
set_option maxRecDepth 100000 in
theorem scount_any (l : List SpanM) (n c : Nat) (A : Option Addr) (w : World) (hl : l.length = n) (hr : Rd w A (spc l)) (hn : n ≤ 1000000) :
    Calls Try.prog 19 #[.slice A n c] w fun e w' => e = .returned (.int .i64 (if rightS l = true then countS l else 0)) ∧ Below w.heap.size w w' := by
  have Hl := Lib.hid hl
  have hri := Lib.hid (sright_any l n c A w hl hr hn)
  cases hR : rightS l
  · rw [hR] at hri
    clear hR hl hr
    go_enter Try.func19, Try.ntmps19
    go_wp2_with fail
    refine hri.out.mono ?_
    rintro e w1 ⟨rfl, hb1⟩
    go_wp2_with fail
    go_ret
    exact ⟨rfl, hb1⟩
  · rw [hR] at hri
    have Hg := Lib.hid ((rightS_spec l).1 hR)
    obtain ⟨R, hRR⟩ : ∃ R, countS l = R := ⟨_, rfl⟩
    rw [if_pos rfl, hRR]
    have HR := Lib.hid hRR
    clear hR hl hRR
    go_enter Try.func19, Try.ntmps19
    go_wp2_with fail
    refine hri.out.mono ?_
    rintro e w1 ⟨rfl, hb1⟩
    have Hb1 := Lib.hid hb1
    clear hb1
    go_wp2_with fail
    go_loopw [3, 12] (fun vm vi wr => ∃ (j : Nat) (M : Int), vm = .int .i64 M ∧ vi = .int .i64 (j : Int) ∧ j ≤ n ∧ 0 ≤ M ∧ M ≤ 4096 * (j : Int) ∧ Hid (countS (l.take j) = M) ∧ Hid (Below w.heap.size w wr)) (fun _ vi _ => n - (intOf vi).toNat)
    case atStart => exact ⟨0, 0, rfl, rfl, by omega, by omega, by omega, rfl, Hb1⟩
    case round =>
      obtain ⟨j, M, rfl, rfl, hj, hM0, hM1, Hc, Hb⟩ := hrel
      by_cases hjn : j < n
      · have hjl : j < l.length := by rw [Hl.out]; exact hjn
        have hjI : (j : Int) < (n : Int) := by omega
        have hj0 : (0 : Int) ≤ (j : Int) := by omega
        have hok := Hg.out.2 _ (List.getElem_mem hjl)
        have hlt := Hg.out.1.1 _ (List.getElem_mem hjl)
        obtain ⟨bk, o, rfl, c0, c1⟩ := (hr.below Hb.out).span hjl
        have Hc2 : Hid (countS (l.take (j + 1)) = M + (l[j].2 - l[j].1)) := by
          show _ = _
          rw [List.take_succ_eq_append_getElem hjl, count_snoc, Hc.out]
        generalize l[j] = s at *
        obtain ⟨a, b⟩ := s
        dsimp only at c0 c1 Hc2 hok hlt
        obtain ⟨hok1, hok2⟩ := hok
        have hb0 : Below wr.heap.size wr (wr.alloc (.cells #[.int .i64 a, .int .i64 b] 40)) := (Below.refl _ _).alloc (Nat.le_refl _) _
        have Hb2 := Lib.hid (Hb.out.trans (hb0.mono Hb.out.size))
        clear hjl hb0 hr Hc
        go_wp2_with fail
        go_roundw
        case rel => exact ⟨j + 1, M + (b - a), by first | rfl | go_num, by go_num, by omega, by omega, by omega, Hc2, Hb2⟩
        case measure => simp only [intOf, Int.toNat_natCast]; omega
      · obtain rfl : j = n := by omega
        have hf : Hid (R = M) := by
          show _ = _
          rw [← HR.out, ← Hc.out, List.take_of_length_le (by rw [Hl.out]; exact Nat.le_refl _)]
        go_wp2_with fail
        go_ret
        rw [hf.out]
        exact ⟨rfl, Hb.out⟩

theorem listS_snoc (l : List SpanM) (s : SpanM) : listS (l ++ [s]) = listS l ++ placesOf s := by
  unfold listS
  rw [List.flatMap_append]
  simp

set_option maxHeartbeats 8000000 in
set_option maxRecDepth 100000 in
theorem slist_any (l : List SpanM) (n c : Nat) (A : Option Addr) (w : World) (hl : l.length = n) (hr : Rd w A (spc l)) (hn : n ≤ 5000) :
    Calls Try.prog 18 #[.slice A n c] w fun e w' => (∃ A' c', e = .returned (.slice A' (if rightS l = true then listS l else []).length c') ∧ Rd w' A' (icl (if rightS l = true then listS l else []))) ∧ Below w.heap.size w w' := by
  have Hl := Lib.hid hl
  have hri := Lib.hid (sright_any l n c A w hl hr (by omega))
  cases hR : rightS l
  · rw [hR] at hri
    clear hR hl hr
    go_enter Try.func18, Try.ntmps18
    go_wp2_with fail
    refine hri.out.mono ?_
    rintro e w1 ⟨rfl, hb1⟩
    go_wp2_with fail
    go_ret
    exact ⟨⟨none, ⟨0, rfl⟩, Rd.nil _ _⟩, hb1⟩
  · rw [hR] at hri
    have Hg := Lib.hid ((rightS_spec l).1 hR)
    rw [if_pos rfl]
    obtain ⟨R, hRR⟩ : ∃ R, listS l = R := ⟨_, rfl⟩
    rw [hRR]
    have HR := Lib.hid hRR
    clear hR hl hRR
    go_enter Try.func18, Try.ntmps18
    go_wp2_with fail
    refine hri.out.mono ?_
    rintro e w1 ⟨rfl, hb1⟩
    have Hb1 := Lib.hid hb1
    clear hb1
    go_wp2_with fail
    go_loopw [3, 12] (fun vo vi wr => ∃ (j m c' : Nat) (A' : Option Addr), vo = .slice A' m c' ∧ vi = .int .i64 (j : Int) ∧ j ≤ n ∧ m ≤ 4096 * j ∧ Hid ((listS (l.take j)).length = m) ∧ Hid (Own wr w.heap.size 3 1 A' m c' (icl (listS (l.take j)))) ∧ Hid (Below w.heap.size w wr)) (fun _ vi _ => n - (intOf vi).toNat)
    case atStart => exact ⟨0, 0, 0, none, rfl, rfl, by omega, by omega, rfl, Own.nil _ _ _ _, Hb1⟩
    case round =>
      obtain ⟨j, m, c', A', rfl, rfl, hj, hm, Hm, Ho, Hb⟩ := hrel
      by_cases hjn : j < n
      · have hjl : j < l.length := by rw [Hl.out]; exact hjn
        have hjI : (j : Int) < (n : Int) := by omega
        have hj0 : (0 : Int) ≤ (j : Int) := by omega
        have hok := Hg.out.2 _ (List.getElem_mem hjl)
        have hlt := Hg.out.1.1 _ (List.getElem_mem hjl)
        obtain ⟨bk, o, rfl, c0, c1⟩ := (hr.below Hb.out).span hjl
        have Hc2 : Hid (listS (l.take (j + 1)) = listS (l.take j) ++ placesOf l[j]) := by
          show _ = _
          rw [List.take_succ_eq_append_getElem hjl, listS_snoc]
        generalize l[j] = s at *
        obtain ⟨a, b⟩ := s
        dsimp only at c0 c1 hok hlt
        obtain ⟨hok1, hok2⟩ := hok
        obtain ⟨D, hD⟩ : ∃ D : Nat, b = a + (D : Int) := ⟨(b - a).toNat, by omega⟩
        have hD4 : D ≤ 4096 := by omega
        have Hc3 : Hid (listS (l.take (j + 1)) = listS (l.take j) ++ (List.range D).map fun t : Nat => a + (t : Int)) := by
          show _ = _
          rw [Hc2.out]
          unfold placesOf
          rw [show ((a, b).2 - (a, b).1).toNat = D from by show (b - a).toNat = D; omega]
        subst hD
        generalize listS (l.take j) = Q at *
        have hbl := Blk.new wr 40 #[.int .i64 a, .int .i64 (a + (D : Int))]
        have hb0 : Below wr.heap.size wr (wr.alloc (.cells #[.int .i64 a, .int .i64 (a + (D : Int))] 40)) := (Below.refl _ _).alloc (Nat.le_refl _) _
        have Hb2 := Lib.hid (Hb.out.trans (hb0.mono Hb.out.size))
        have Ho2 := Lib.hid (Ho.out.below hb0)
        have Hbl := Lib.hid hbl
        clear hjl hb0 Hc2 hbl Ho Hb hlt
        go_wp2_with fail
        obtain ⟨g, hg⟩ : ∃ g, wr.heap.size = g := ⟨_, rfl⟩
        rw [hg] at Hbl
        generalize wr.alloc (.cells #[.int .i64 a, .int .i64 (a + (D : Int))] 40) = w2 at *
        rw [hg]
        clear hg
        go_loopw [3, 6] (fun vo vk wr => ∃ (i c' : Nat) (A' : Option Addr), vo = .slice A' (m + i) c' ∧ vk = .int .i64 (a + (i : Int)) ∧ i ≤ D ∧ Hid (Own wr w.heap.size 3 1 A' (m + i) c' (icl (Q ++ (List.range i).map fun t : Nat => a + (t : Int)))) ∧ Hid (Blk wr g 40 [.int .i64 a, .int .i64 (a + (D : Int))]) ∧ Hid (Below w.heap.size w wr)) (fun _ vk _ => (a + (D : Int) - intOf vk).toNat)
        case atStart => exact ⟨0, c', A', rfl, by simp, by omega, by show Own _ _ _ _ _ _ _ _; rw [List.range_zero, List.map_nil, List.append_nil]; exact Ho2.out, Hbl, Hb2⟩
        case round =>
          obtain ⟨i, c2, A2, rfl, rfl, hi, Hoi, Hbi, Hbb⟩ := hrel
          have k1 := Hbi.out.cell 1
          have k0 := Hbi.out.cell 0
          simp only [List.getElem?_cons_zero, List.getElem?_cons_succ] at k0 k1
          by_cases hiD : i < D
          · have hiI : a + (i : Int) < a + (D : Int) := by omega
            have hbW : Below wr.heap.size wr (wr.alloc (.cells #[.int .i64 (a + (i : Int))] 3)) := (Below.refl _ _).alloc (Nat.le_refl _) _
            have hnew := (Blk.new wr 3 #[.int .i64 (a + (i : Int))]).range
            have ho5 := Own.below Hoi.out hbW
            have hb5 := Hbb.out.trans (hbW.mono Hbb.out.size)
            have hB5 := Hbi.out.below hbW
            have hz5 := hb5.size
            have Hsn : Hid ((List.range (i + 1)).map (fun t : Nat => a + (t : Int)) = (List.range i).map (fun t : Nat => a + (t : Int)) ++ [a + (i : Int)]) := by
              show _ = _
              rw [List.range_succ, List.map_append]
              rfl
            clear hbW
            go_wp2_with (first | (at_builtin; refine hold ?_) | (at_make; refine hold ?_))
            (with_reducible refine unhold ?_)
            refine wpList_apd rfl _ _ _ rfl Eint' w.heap.size _ (m + i) _ _ rfl ho5 _ 1 _ [.int .i64 (a + (i : Int))] rfl rfl (fun _ => ⟨_, _, rfl, hnew⟩) (by simp [Value.oneCell']) (m + (i + 1)) (by omega) _ rfl (by omega) (by omega) hz5 ?_
            intro A5 c5 w9 ho9 hg9 _
            have Hb9 := Lib.hid (hb5.grown hg9 hb5.size ho5.row_ge)
            have HB9 := Lib.hid (hB5.keeps (T := [3]) (by decide) (ho5.apd_keeps hg9))
            have Ho9 : Hid (Own w9 w.heap.size 3 1 A5 (m + (i + 1)) c5 (icl (Q ++ (List.range (i + 1)).map fun t : Nat => a + (t : Int)))) := by
              show Own _ _ _ _ _ _ _ _
              rw [Hsn.out, ← List.append_assoc, icl_snoc]
              exact ho9
            clear ho9 hg9 ho5 hb5 hnew Hoi Hbb Hsn hB5 Hbi k0 k1
            go_wp2_with fail
            go_roundw
            case rel => exact ⟨i + 1, c5, A5, rfl, by go_num, by omega, Ho9, HB9, Hb9⟩
            case measure => simp only [intOf]; omega
          · obtain rfl : i = D := by omega
            have Ho9 : Hid (Own wr w.heap.size 3 1 A2 (m + i) c2 (icl (listS (l.take (j + 1))))) := by
              show Own _ _ _ _ _ _ _ _
              rw [Hc3.out]
              exact Hoi.out
            have Hm9 : Hid ((listS (l.take (j + 1))).length = m + i) := by
              show _ = _
              rw [Hc3.out, List.length_append, List.length_map, List.length_range, Hm.out]
            go_wp2_with fail
            go_roundw
            case rel => exact ⟨j + 1, m + i, c2, A2, rfl, by go_num, by omega, by omega, Hm9, Ho9, Hbb⟩
            case measure => simp only [intOf, Int.toNat_natCast]; omega
      · obtain rfl : j = n := by omega
        have Htk := Lib.hid (List.take_of_length_le (l := l) (i := j) (by rw [Hl.out]; exact Nat.le_refl _))
        go_wp2_with fail
        go_ret
        refine ⟨⟨A', c', ?_, ?_⟩, Hb.out⟩
        · have h1 := Hm.out
          rw [Htk.out, HR.out] at h1
          rw [h1]
          rfl
        · have h1 := Ho.out.rd
          rw [Htk.out, HR.out] at h1
          exact h1
end Go.Proofs.Ytjfpflnijkokaaa
