/- The walk of PagesNil: a nil store has nothing, and how many pages bytes need. -/
import Derived.Test.YtnlaeiadakdbkaaLw5a
namespace Go.Proofs.Ytnlaeiadakdbkaa
open Go.RowKit

theorem alloc_nil (n : Int) (w : World) : Calls Try.prog 10 #[.pointer none, .int .i64 n] w fun e w' => e = .returned (.tuple #[.slice none 0 0, .int .i64 2]) ∧ w = w' := by
  go_enter Try.func10, Try.ntmps10
  go_wp2
  go_ret2
  exact ⟨rfl, rfl⟩
theorem free_nil (i : Int) (w : World) : Calls Try.prog 11 #[.pointer none, .int .i64 i] w fun e w' => e = .returned (.int .i64 2) ∧ w = w' := by
  go_enter Try.func11, Try.ntmps11
  go_wp2_with fail
  refine (at_nil i w).mono ?_
  rintro e w' ⟨rfl, rfl⟩
  go_wp2
  go_ret
  exact ⟨rfl, rfl⟩
theorem write_nil (i : Int) (A : Option Addr) (n c : Nat) (w : World) : Calls Try.prog 26 #[.pointer none, .int .i64 i, .slice A n c] w fun e w' => e = .returned (.int .i64 2) ∧ w = w' := by
  go_enter Try.func26, Try.ntmps26
  go_wp2_with fail
  refine (at_nil i w).mono ?_
  rintro e w' ⟨rfl, rfl⟩
  go_wp2
  go_ret
  exact ⟨rfl, rfl⟩
theorem read_nil (i : Int) (w : World) : Calls Try.prog 19 #[.pointer none, .int .i64 i] w fun e w' => e = .returned (.tuple #[.slice none 0 0, .int .i64 2]) ∧ w = w' := by
  go_enter Try.func19, Try.ntmps19
  go_wp2_with fail
  refine (at_nil i w).mono ?_
  rintro e w' ⟨rfl, rfl⟩
  go_wp2
  go_ret2
  exact ⟨rfl, rfl⟩
theorem raw_nil (i : Int) (w : World) : Calls Try.prog 23 #[.pointer none, .int .i64 i] w fun e w' => e = .returned (.tuple #[.slice none 0 0, .int .i64 2]) ∧ w = w' := by
  go_enter Try.func23, Try.ntmps23
  go_wp2_with fail
  refine (at_nil i w).mono ?_
  rintro e w' ⟨rfl, rfl⟩
  go_wp2
  go_ret2
  exact ⟨rfl, rfl⟩
theorem flip_nil (i j : Int) (m : Int) (w : World) : Calls Try.prog 18 #[.pointer none, .int .i64 i, .int .i64 j, .int .u8 m] w fun e w' => e = .returned (.tuple #[]) ∧ w = w' := by
  go_enter Try.func18, Try.ntmps18
  go_wp2_with fail
  refine (at_nil i w).mono ?_
  rintro e w' ⟨rfl, rfl⟩
  go_wp2
  go_end0
  exact ⟨rfl, rfl⟩
theorem put_nil (A : Option Addr) (n c : Nat) (w : World) (hn : n ≤ 9223372036854775807) : Calls Try.prog 14 #[.pointer none, .slice A n c] w fun e w' => e = .returned (.tuple #[.slice none 0 0, .int .i64 2]) ∧ w = w' := by
  go_enter Try.func14, Try.ntmps14
  go_wp2_with fail
  refine (need_any n w (by omega)).mono ?_
  rintro e w' ⟨rfl, rfl⟩
  go_wp2_with fail
  refine (alloc_nil _ w).mono ?_
  rintro e w' ⟨rfl, rfl⟩
  go_wp2_with fail
  go_ret2
  exact ⟨rfl, rfl⟩
theorem get_nil (A : Option Addr) (n c : Nat) (k : Int) (w : World) : Calls Try.prog 17 #[.pointer none, .slice A n c, .int .i64 k] w fun e w' => e = .returned (.tuple #[.slice none 0 0, .int .i64 2]) ∧ w = w' := by
  go_enter Try.func17, Try.ntmps17
  go_wp2
  go_ret2
  exact ⟨rfl, rfl⟩
theorem used_nil (w : World) : Calls Try.prog 12 #[.pointer none] w fun e w' => e = .returned (.int .i64 0) ∧ w = w' := by
  go_enter Try.func12, Try.ntmps12
  go_wp2
  go_ret
  exact ⟨rfl, rfl⟩
theorem most_nil (w : World) : Calls Try.prog 20 #[.pointer none] w fun e w' => e = .returned (.int .i64 0) ∧ w = w' := by
  go_enter Try.func20, Try.ntmps20
  go_wp2
  go_ret
  exact ⟨rfl, rfl⟩

def needI (n : Int) : Int := if n < 1 then 0 else (n - 1) / 56 + 1
theorem needI_any (n : Int) (w : World) (h : n ≤ 9223372036854775807) : Calls Try.prog 27 #[.int .i64 n] w fun e w' => e = .returned (.int .i64 (needI n)) ∧ w = w' := by
  by_cases hn : n < 1
  · have hp : Hid (needI n = 0) := by show _ = _; unfold needI; rw [if_pos hn]
    go_enter Try.func27, Try.ntmps27
    go_wp2
    go_ret
    exact ⟨by rw [hp.out]; rfl, rfl⟩
  · have hp : Hid (needI n = (n - 1) / 56 + 1) := by show _ = _; unfold needI; rw [if_neg hn]
    go_enter Try.func27, Try.ntmps27
    go_wp2
    go_ret
    exact ⟨by rw [hp.out]; rfl, rfl⟩
theorem needR_any (n : Int) (w : World) (h : n ≤ 9223372036854775807) : Calls Try.prog 28 #[.int .i64 n] w fun e w' => e = .returned (.int .i64 (needI n)) ∧ w = w' := by
  by_cases hn : n < 1
  · have hp : Hid (needI n = 0) := by show _ = _; unfold needI; rw [if_pos hn]
    go_enter Try.func28, Try.ntmps28
    go_wp2
    go_ret
    exact ⟨by rw [hp.out]; rfl, rfl⟩
  · have hp : Hid (needI n = (n - 1) / 56 + 1) := by show _ = _; unfold needI; rw [if_neg hn]
    go_enter Try.func28, Try.ntmps28
    go_wp2
    go_ret
    exact ⟨by rw [hp.out]; rfl, rfl⟩

theorem drop_nil (A : Option Addr) (l : List Int) (n c : Nat) (w : World) (hl : l.length = n) (hn : n ≤ 9223372036854775807) (hr : Rd w A (Js l)) :
    Calls Try.prog 25 #[.pointer none, .slice A n c] w fun e w' => e = .returned (.tuple #[]) ∧ w = w' := by
  have hll := Lib.hid hl
  clear hl
  go_enter Try.func25, Try.ntmps25
  go_wp2_with fail
  go_loop [8] (fun i => ∃ k : Nat, k ≤ n ∧ i = .int .i64 k) (fun i => n - (intOf i).toNat)
  case atStart => exact ⟨0, by omega, rfl⟩
  case round =>
    obtain ⟨k, hk, rfl⟩ := hrel
    by_cases hlt : k < n
    · obtain ⟨ga, oa, rfl, hga, _, hca⟩ := hr.get (k := k) (by rw [List.length_map, hll.out]; exact hlt)
      rw [List.getElem_map] at hca
      generalize l[k]'(by rw [hll.out]; exact hlt) = id at *
      clear hr
      go_wp2_with fail
      refine (free_nil id w).mono ?_
      rintro e w2 ⟨rfl, rfl⟩
      go_wp2_with fail
      go_round
      case rel => exact ⟨k + 1, by omega, by go_num⟩
      case measure => simp [intOf]; omega
    · obtain rfl : k = n := by omega
      go_wp2_with fail
      go_end0
      exact ⟨rfl, rfl⟩

set_option maxRecDepth 100000 in
set_option maxHeartbeats 2000000 in
theorem nil_walk (kind at' nn mask : Int) (A L : Option Addr) (l : List Int) (bn bc ln lc : Nat) (n : Int) (w : World) (hl : l.length = ln) (hln : ln ≤ 9223372036854775807) (hbn : bn ≤ 9223372036854775807) (hr : Rd w L (Js l)) (hn : n ≤ 9223372036854775807) :
    Calls Try.prog 7 #[.agg #[.int .u8 kind, .int .i64 at', .int .i64 nn, .slice A bn bc, .slice L ln lc, .int .u8 mask], .int .i64 n] w fun e w' => e = .returned (.bool true) ∧ Below w.heap.size w w' := by
  have hll := Lib.hid hl
  clear hl
  go_enter Try.func7, Try.ntmps7
  go_wp2_with fail
  have hb0 : Below w.heap.size w (w.alloc (.cells #[.int .u8 kind, .int .i64 at', .int .i64 nn, .slice A bn bc, .slice L ln lc, .int .u8 mask] 43)) := (Below.refl _ _).alloc (Nat.le_refl _) _
  have hk0 := Blk.new w 43 #[.int .u8 kind, .int .i64 at', .int .i64 nn, .slice A bn bc, .slice L ln lc, .int .u8 mask]
  have hr0 := hr.alloc (.cells #[.int .u8 kind, .int .i64 at', .int .i64 nn, .slice A bn bc, .slice L ln lc, .int .u8 mask] 43)
  generalize w.alloc (.cells #[.int .u8 kind, .int .i64 at', .int .i64 nn, .slice A bn bc, .slice L ln lc, .int .u8 mask] 43) = w0 at *
  refine (shown_any w0).mono ?_
  rintro e w1 ⟨rfl, hb1⟩
  have hk1 := hk0.below hb1
  have hr1 := hr0.below hb1
  have hb01 := hb0.trans (hb1.mono hb0.size)
  have c1 := hk1.cell 1
  have c2 := hk1.cell 2
  have c3 := hk1.cell 3
  have c4 := hk1.cell 4
  have c5 := hk1.cell 5
  simp only [List.getElem?_cons_zero, List.getElem?_cons_succ] at c1 c2 c3 c4 c5
  clear hk0 hk1 hr hr0
  go_wp2_with (first
    | (go_at_call 10; refine (alloc_nil _ _).mono ?_; rintro e w' ⟨rfl, rfl⟩)
    | (go_at_call 19; refine (read_nil _ _).mono ?_; rintro e w' ⟨rfl, rfl⟩)
    | (go_at_call 23; refine (raw_nil _ _).mono ?_; rintro e w' ⟨rfl, rfl⟩)
    | (go_at_call 14; refine (put_nil _ _ _ _ hbn).mono ?_; rintro e w' ⟨rfl, rfl⟩)
    | (go_at_call 17; refine (get_nil _ _ _ _ _).mono ?_; rintro e w' ⟨rfl, rfl⟩)
    | (go_at_call 18; refine (flip_nil _ _ _ _).mono ?_; rintro e w' ⟨rfl, rfl⟩)
    | (go_at_call 25; refine (drop_nil _ l _ _ _ hll.out hln hr1).mono ?_; rintro e w' ⟨rfl, rfl⟩)
    | (go_at_call 11; refine (free_nil _ _).mono ?_; rintro e w' ⟨rfl, rfl⟩)
    | (go_at_call 26; refine (write_nil _ _ _ _ _).mono ?_; rintro e w' ⟨rfl, rfl⟩)
    | (go_at_call 12; refine (used_nil _).mono ?_; rintro e w' ⟨rfl, rfl⟩)
    | (go_at_call 20; refine (most_nil _).mono ?_; rintro e w' ⟨rfl, rfl⟩)
    | (go_at_call 27; refine (needI_any _ _ hn).mono ?_; rintro e w' ⟨rfl, rfl⟩)
    | (go_at_call 28; refine (needR_any _ _ hn).mono ?_; rintro e w' ⟨rfl, rfl⟩))
  go_ret
  exact ⟨by simp, hb01⟩
end Go.Proofs.Ytnlaeiadakdbkaa
