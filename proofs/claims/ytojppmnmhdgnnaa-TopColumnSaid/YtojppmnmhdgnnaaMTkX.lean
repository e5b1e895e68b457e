/- The walk of delta.Take: the program's. (Printed by gen_tkx.py.) -/
import Derived.Test.YtojppmnmhdgnnaaMTkUW
namespace Go.Proofs.Ytojppmnmhdgnnaa
set_option linter.unusedVariables false
set_option linter.unusedSimpArgs false
open Go.RowKit

attribute [local go_sem ↓] Go.wp_at_zero Go.wp_at_succ

set_option maxHeartbeats 16000000 in
set_option maxRecDepth 100000 in
theorem dltake_any (b : List UInt8) (n c : Nat) (A : Option Addr) (w : World) (hl : b.length = n) (hr : Rd w A (Bs b)) (hn : n ≤ 500000) :
    Calls Try.prog 42 #[.slice A n c] w fun e w' => DecOK (deltaTakeM b) w e w' := by
  have hnw := Lib.hid (rdr_new b n c A w hl hr (by omega))
  clear hl hr
  go_enter Try.func42, Try.ntmps42
  go_wp2_with fail
  refine hnw.out.mono ?_
  rintro e w1 ⟨p, rfl, hrd1, hp1, hb1⟩
  have Hb1 := Lib.hid hb1
  have hpz := hrd1.lt
  have hnu := Lib.hid (rdr_num p b false w1 hrd1)
  clear hnw hb1 hrd1
  go_wp2_with fail
  refine hnu.out.mono ?_
  rintro e w2 ⟨he, hk⟩
  have Hb2 := Lib.hid (Hb1.out.trans (keeps_below hk hp1 (Nat.le_of_lt hpz)))
  obtain ⟨N, u, bad0, rfl, HR, Hbt, Hbf⟩ : ∃ (N : Nat) (u : List UInt8) (bad0 : Bool), e = .returned (.int .u64 (N : Int)) ∧ Hid (Rdr w2 p u bad0) ∧ Hid (bad0 = true → N = 0 ∧ deltaTakeM b = none) ∧ Hid (bad0 = false → takeNum b = some (N, u)) := by
    rcases he with ⟨ht, rfl, hrd⟩ | ⟨N, u, ht, rfl, hrd⟩
    · exact ⟨0, [], true, rfl, hrd.rdr, (fun _ => ⟨rfl, by unfold deltaTakeM; rw [ht]⟩), (fun h => by cases h)⟩
    · exact ⟨N, u, false, rfl, hrd, (fun h => by cases h), fun _ => ht⟩
  clear he hk hnu
  have hp1' : w.heap.size ≤ p := hp1
  by_cases hN4 : 4096 < N
  · have HM : Hid (deltaTakeM b = none) := by
      show _ = _
      cases bad0 with
      | true => exact (Hbt.out rfl).2
      | false =>
        unfold deltaTakeM
        rw [Hbf.out rfl]
        exact if_pos hN4
    have hNI : 4096 < (N : Int) := by omega
    clear Hbt Hbf
    go_wp2_with fail
    go_ret2
    exact ⟨.inl ⟨HM.out, 6, by decide, rfl⟩, Hb2.out⟩
  · have hNI : ¬ 4096 < (N : Int) := by omega
    have hN4' : N ≤ 4096 := by omega
    have HM0 : Hid (bad0 = false → deltaTakeM b = (deltaRd N 0 u).bind fun x => if x.2 = [] then some x.1 else none) := Lib.hid fun h => by
      unfold deltaTakeM
      rw [Hbf.out h]
      exact if_neg hN4
    go_wp2_with fail
    go_loopw [6, 7, 18] (fun v6 v7 v18 wr => ∃ (j : Nat) (A' : Option Addr) (d : Nat) (x : List Int) (last : Int) (pc : List UInt8) (bad : Bool), v6 = .slice A' j d ∧ v7 = .int .i64 last ∧ v18 = .int .u64 (j : Int) ∧ j ≤ N ∧ (-9223372036854775808 ≤ last ∧ last ≤ 9223372036854775807) ∧ Hid (Rdr wr p pc bad) ∧ Hid (Own wr w.heap.size 3 1 A' j d (icl x)) ∧ Hid (Below w.heap.size w wr) ∧ Hid (bad = true → deltaTakeM b = none) ∧ Hid (bad = false → bad0 = false ∧ deltaRd N 0 u = (deltaRd (N - j) last pc).map fun y => (x ++ y.1, y.2))) (fun _ _ v18 _ => N - (intOf v18).toNat)
    case atStart => exact ⟨0, none, 0, [], 0, u, bad0, rfl, rfl, rfl, by omega, by omega, HR, Own.nil _ _ _ _, Hb2, (fun h => (Hbt.out h).2), (fun h => ⟨h, by simp⟩)⟩
    case round =>
      obtain ⟨j, A', d, x, last, pc, bad, rfl, rfl, rfl, hj, hlr, HR, Ho, Hb, Hbt1, Hbf1⟩ := hrel
      by_cases hjn : j < N
      · have hjI : (j : Int) < (N : Int) := by omega
        have hpr := HR.out.lt
        have hin := Lib.hid (rdr_int p pc bad wr HR.out)
        go_wp2_with fail
        refine hin.out.mono ?_
        rintro e w4 ⟨⟨ht4, rfl, hrd4⟩ | ⟨z, v, ht4, rfl, hrd4⟩, hk4⟩
        · have Ho4 := Lib.hid (Own.keeps Ho.out (by decide) hk4)
          have Hb4 := Lib.hid (Hb.out.trans (keeps_below hk4 hp1' (Nat.le_of_lt hpr)))
          have Hr4 : Hid (Rdr w4 p [] true) := hrd4.rdr
          have Hn4 : Hid (deltaTakeM b = none) := by
            show _ = _
            cases bad with
            | true => exact Hbt1.out rfl
            | false =>
              obtain ⟨h1, h2⟩ := Hbf1.out rfl
              rw [HM0.out h1, h2]
              obtain ⟨k, hk⟩ : ∃ k, N - j = k + 1 := ⟨N - j - 1, by omega⟩
              rw [hk, deltaRd, ht4]
              rfl
          have hw0 : IntKind.i64.wrap (last + 0) = last := by rw [IntKind.wrap_i64]; omega
          have hll : ¬ last < last := by omega
          clear hin Ho Hb HR ht4 hrd4 hk4 Hbt1 Hbf1
          have hba : Below w4.heap.size w4 (w4.alloc (.cells #[.int .i64 last] 3)) := (Below.refl _ _).alloc (Nat.le_refl _) _
          have hnew := (Blk.new w4 3 #[.int .i64 last]).range
          have ho7 := Own.below Ho4.out hba
          have hr7 := Hr4.out.below hba
          have hb7 := Hb4.out.trans (hba.mono Hb4.out.size)
          have hz7 := hb7.size
          clear hba Ho4 Hr4 Hb4
          go_wp2_with (first | (at_builtin; refine hold ?_) | (at_make; refine hold ?_))
          (with_reducible refine unhold ?_)
          refine wpList_apd rfl _ _ _ rfl Eint' w.heap.size _ j _ (icl x) rfl ho7 _ 1 _ [.int .i64 last] rfl rfl (fun _ => ⟨_, _, rfl, hnew⟩) (by simp [Value.oneCell']) (j + 1) rfl _ rfl (by omega) (by omega) hz7 ?_
          intro A8 c8 w8 ho8 hg8 _
          have e8 : icl x ++ [.int .i64 last] = icl (x ++ [last]) := (icl_append x [last]).symm
          rw [e8] at ho8
          have Hr8 : Hid (Rdr w8 p [] true) := hr7.keeps (by decide) (by decide) (ho7.apd_keeps hg8)
          have Ho8 := Lib.hid ho8
          have Hb8 := Lib.hid (hb7.grown hg8 hz7 ho7.row_ge)
          clear ho8 hg8 ho7 hr7 hb7 hnew e8 hz7
          go_wp2_with fail
          go_roundw
          case rel => exact ⟨j + 1, A8, c8, x ++ [last], last, [], true, rfl, rfl, by go_num, by omega, hlr, Hr8, Ho8, Hb8, (fun _ => Hn4.out), (fun h => by cases h)⟩
          case measure => simp only [intOf, Int.toNat_natCast]; omega
        · have Ho4 := Lib.hid (Own.keeps Ho.out (by decide) hk4)
          have Hb4 := Lib.hid (Hb.out.trans (keeps_below hk4 hp1' (Nat.le_of_lt hpr)))
          have Hr4 : Hid (Rdr w4 p v bad) := hrd4
          have hzi := unzig_in (takeNum_lt ht4).1
          have Hst : Hid (bad = false → bad0 = false ∧ deltaRd N 0 u = (if -9223372036854775808 ≤ last + unzig z ∧ last + unzig z ≤ 9223372036854775807 then (deltaRd (N - (j + 1)) (last + unzig z) v).map fun y => ((last + unzig z) :: y.1, y.2) else none).map fun y => (x ++ y.1, y.2)) := Lib.hid fun h => by
            obtain ⟨h1, h2⟩ := Hbf1.out h
            refine ⟨h1, ?_⟩
            rw [h2]
            obtain ⟨k, hk⟩ : ∃ k, N - j = k + 1 := ⟨N - j - 1, by omega⟩
            have hk2 : N - (j + 1) = k := by omega
            rw [hk, hk2, deltaRd, ht4]
          clear hin Ho Hb HR ht4 hrd4 hk4 Hbf1
          generalize unzig z = s at *
          by_cases hin2 : -9223372036854775808 ≤ last + s ∧ last + s ≤ 9223372036854775807
          · obtain ⟨nx, hnx⟩ : ∃ nx, last + s = nx := ⟨_, rfl⟩
            have hw0 : IntKind.i64.wrap (last + s) = nx := by rw [IntKind.wrap_i64]; omega
            have Hst2 : Hid (bad = false → bad0 = false ∧ deltaRd N 0 u = (deltaRd (N - (j + 1)) nx v).map fun y => (x ++ [nx] ++ y.1, y.2)) := Lib.hid fun h => by
              obtain ⟨h1, h2⟩ := Hst.out h
              refine ⟨h1, ?_⟩
              rw [h2, if_pos hin2, hnx, Option.map_map]
              congr 1
              funext y
              show (x ++ (nx :: y.1), y.2) = _
              rw [List.append_assoc]
              rfl
            have hnr : -9223372036854775808 ≤ nx ∧ nx ≤ 9223372036854775807 := by omega
            by_cases hs : s < 0
            · have hll : nx < last := by omega
              have d1 : decide (nx < last) = true := decide_eq_true hll
              have d2 : decide (s < 0) = true := decide_eq_true hs
              have d3 : (decide (nx < last) != decide (s < 0)) = false := by rw [d1, d2]; rfl
              clear hin2 hnx Hst
              have hba : Below w4.heap.size w4 (w4.alloc (.cells #[.int .i64 nx] 3)) := (Below.refl _ _).alloc (Nat.le_refl _) _
              have hnew := (Blk.new w4 3 #[.int .i64 nx]).range
              have ho7 := Own.below Ho4.out hba
              have hr7 := Hr4.out.below hba
              have hb7 := Hb4.out.trans (hba.mono Hb4.out.size)
              have hz7 := hb7.size
              clear hba Ho4 Hr4 Hb4
              go_wp2_with (first | (at_builtin; refine hold ?_) | (at_make; refine hold ?_))
              (with_reducible refine unhold ?_)
              refine wpList_apd rfl _ _ _ rfl Eint' w.heap.size _ j _ (icl x) rfl ho7 _ 1 _ [.int .i64 nx] rfl rfl (fun _ => ⟨_, _, rfl, hnew⟩) (by simp [Value.oneCell']) (j + 1) rfl _ rfl (by omega) (by omega) hz7 ?_
              intro A8 c8 w8 ho8 hg8 _
              have e8 : icl x ++ [.int .i64 nx] = icl (x ++ [nx]) := (icl_append x [nx]).symm
              rw [e8] at ho8
              have Hr8 : Hid (Rdr w8 p v bad) := hr7.keeps (by decide) (by decide) (ho7.apd_keeps hg8)
              have Ho8 := Lib.hid ho8
              have Hb8 := Lib.hid (hb7.grown hg8 hz7 ho7.row_ge)
              clear ho8 hg8 ho7 hr7 hb7 hnew e8 hz7
              go_wp2_with fail
              go_roundw
              case rel => exact ⟨j + 1, A8, c8, x ++ [nx], nx, v, bad, rfl, rfl, by go_num, by omega, hnr, Hr8, Ho8, Hb8, Hbt1, Hst2⟩
              case measure => simp only [intOf, Int.toNat_natCast]; omega
            · have hll : ¬ nx < last := by omega
              have d1 : decide (nx < last) = false := decide_eq_false hll
              have d2 : decide (s < 0) = false := decide_eq_false hs
              have d3 : (decide (nx < last) != decide (s < 0)) = false := by rw [d1, d2]; rfl
              clear hin2 hnx Hst hll hs
              have hba : Below w4.heap.size w4 (w4.alloc (.cells #[.int .i64 nx] 3)) := (Below.refl _ _).alloc (Nat.le_refl _) _
              have hnew := (Blk.new w4 3 #[.int .i64 nx]).range
              have ho7 := Own.below Ho4.out hba
              have hr7 := Hr4.out.below hba
              have hb7 := Hb4.out.trans (hba.mono Hb4.out.size)
              have hz7 := hb7.size
              clear hba Ho4 Hr4 Hb4
              go_wp2_with (first | (at_builtin; refine hold ?_) | (at_make; refine hold ?_))
              (with_reducible refine unhold ?_)
              refine wpList_apd rfl _ _ _ rfl Eint' w.heap.size _ j _ (icl x) rfl ho7 _ 1 _ [.int .i64 nx] rfl rfl (fun _ => ⟨_, _, rfl, hnew⟩) (by simp [Value.oneCell']) (j + 1) rfl _ rfl (by omega) (by omega) hz7 ?_
              intro A8 c8 w8 ho8 hg8 _
              have e8 : icl x ++ [.int .i64 nx] = icl (x ++ [nx]) := (icl_append x [nx]).symm
              rw [e8] at ho8
              have Hr8 : Hid (Rdr w8 p v bad) := hr7.keeps (by decide) (by decide) (ho7.apd_keeps hg8)
              have Ho8 := Lib.hid ho8
              have Hb8 := Lib.hid (hb7.grown hg8 hz7 ho7.row_ge)
              clear ho8 hg8 ho7 hr7 hb7 hnew e8 hz7
              go_wp2_with fail
              go_roundw
              case rel => exact ⟨j + 1, A8, c8, x ++ [nx], nx, v, bad, rfl, rfl, by go_num, by omega, hnr, Hr8, Ho8, Hb8, Hbt1, Hst2⟩
              case measure => simp only [intOf, Int.toNat_natCast]; omega
          · have HM6 : Hid (deltaTakeM b = none) := by
              show _ = _
              cases bad with
              | true => exact Hbt1.out rfl
              | false =>
                obtain ⟨h1, h2⟩ := Hst.out rfl
                rw [HM0.out h1, h2, if_neg hin2]
                rfl
            by_cases hs : s < 0
            · obtain ⟨nx, hnx⟩ : ∃ nx, last + s + 18446744073709551616 = nx := ⟨_, rfl⟩
              have hw0 : IntKind.i64.wrap (last + s) = nx := by rw [IntKind.wrap_i64]; omega
              have hll : ¬ nx < last := by omega
              have d1 : decide (nx < last) = false := decide_eq_false hll
              have d2 : decide (s < 0) = true := decide_eq_true hs
              have d3 : (decide (nx < last) != decide (s < 0)) = true := by rw [d1, d2]; rfl
              clear hin2 hnx Hst hll hs
              go_wp2_with fail
              go_ret2
              exact ⟨.inl ⟨HM6.out, 6, by decide, rfl⟩, Hb4.out⟩
            · obtain ⟨nx, hnx⟩ : ∃ nx, last + s - 18446744073709551616 = nx := ⟨_, rfl⟩
              have hw0 : IntKind.i64.wrap (last + s) = nx := by rw [IntKind.wrap_i64]; omega
              have hll : nx < last := by omega
              have d1 : decide (nx < last) = true := decide_eq_true hll
              have d2 : decide (s < 0) = false := decide_eq_false hs
              have d3 : (decide (nx < last) != decide (s < 0)) = true := by rw [d1, d2]; rfl
              clear hin2 hnx Hst hll hs
              go_wp2_with fail
              go_ret2
              exact ⟨.inl ⟨HM6.out, 6, by decide, rfl⟩, Hb4.out⟩
      · obtain rfl : j = N := by omega
        have hen := Lib.hid (rdr_end p pc bad wr HR.out)
        have hxl : Hid (x.length = j) := by
          show _ = _
          have := Ho.out.1
          rw [icl, List.length_map, Nat.mul_one] at this
          exact this
        go_wp2_with fail
        refine hen.out.mono ?_
        rintro e w5 ⟨⟨hb0, hp0, rfl⟩ | ⟨hne, rfl⟩, rfl⟩
        · obtain ⟨h1, h2⟩ := Hbf1.out hb0
          have HM6 : Hid (deltaTakeM b = some x) := by
            show _ = _
            rw [HM0.out h1, h2, Nat.sub_self, hp0]
            show (if ([] : List UInt8) = [] then some (x ++ []) else none) = _
            rw [if_pos rfl, List.append_nil]
          clear h1 h2 hb0 hp0 Hbt1 Hbf1
          go_wp2_with fail
          go_ret2
          exact ⟨.inr ⟨x, A', d, HM6.out, by rw [hxl.out]; rfl, Ho.out.rd⟩, Hb.out⟩
        · have HM6 : Hid (deltaTakeM b = none) := by
            show _ = _
            cases bad with
            | true => exact Hbt1.out rfl
            | false =>
              obtain ⟨h1, h2⟩ := Hbf1.out rfl
              rw [HM0.out h1, h2, Nat.sub_self]
              show (if pc = [] then some (x ++ []) else none) = _
              exact if_neg (fun h => hne ⟨rfl, h⟩)
          clear hne Hbt1 Hbf1
          go_wp2_with fail
          go_ret2
          exact ⟨.inl ⟨HM6.out, 6, by decide, rfl⟩, Hb.out⟩
end Go.Proofs.Ytojppmnmhdgnnaa
