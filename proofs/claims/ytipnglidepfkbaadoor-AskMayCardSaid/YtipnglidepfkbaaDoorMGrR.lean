/- Walks: what may come of what is known of a column: the program's (zone.may). (Printed by gen_mya.py.) Arrays of three truths, in blocks of a call's own. Walks: what may come of what is known of a column: the reference's (warpref13). (Printed by gen_myb.py.) -/
import Derived.Test.YtipnglidepfkbaaDoorMGrQ
import Derived.Test.YtipnglidepfkbaaDoorMGrB
import Derived.Laws.ResultCell
import Derived.Laws.Rows
import Derived.Test.YtipnglidepfkbaaDoorMGrA
namespace Go.Proofs.YtipnglidepfkbaaDoor
set_option linter.unusedVariables false
set_option linter.unusedSimpArgs false
open Go.RowKit

attribute [local go_sem ↓] Go.wp_at_zero Go.wp_at_succ

set_option maxHeartbeats 8000000 in
set_option maxRecDepth 100000 in
theorem zmay_any (z : Zo) (v : Va) (no ye : Bool) (w : World) : Calls Tryd.prog 86 #[z.agg, v.agg, .bool no, .bool ye] w fun e w' => e = .returned (mayF z v no ye).agg ∧ Below w.heap.size w w' := by
  obtain ⟨⟨lk, ln, ls⟩, ⟨mk, mn, ms⟩, nu, ma⟩ := z
  obtain ⟨k, n, s⟩ := v
  unfold mayF T3.agg Zo.agg Va.agg
  dsimp only
  by_cases h3 : nu < ma
  · by_cases hk : k = 0
    · by_cases h1 : 0 < nu
      · subst hk
        have e1 : decide (0 < nu) = true := decide_eq_true h1
        have e3 : decide (nu < ma) = true := decide_eq_true h3
        have hb : Blk (((w.alloc (.cells #[.int .u8 lk, .int .i64 ln, .string (St8 ls), .int .u8 mk, .int .i64 mn, .string (St8 ms), .int .i64 nu, .int .i64 ma] 62)).alloc (.cells #[.int .u8 0, .int .i64 n, .string (St8 s)] 44)).alloc (.cells #[.bool false, .bool true, .bool false] 37)) (w.heap.size + 1 + 1) 37 [.bool false, .bool true, .bool false] := by
          have h := Blk.new ((w.alloc (.cells #[.int .u8 lk, .int .i64 ln, .string (St8 ls), .int .u8 mk, .int .i64 mn, .string (St8 ms), .int .i64 nu, .int .i64 ma] 62)).alloc (.cells #[.int .u8 0, .int .i64 n, .string (St8 s)] 44)) 37 #[.bool false, .bool true, .bool false]
          rw [World.size_alloc, World.size_alloc] at h
          exact h
        have HB := Lib.hid hb
        have Hbe : Hid (Below w.heap.size w (((w.alloc (.cells #[.int .u8 lk, .int .i64 ln, .string (St8 ls), .int .u8 mk, .int .i64 mn, .string (St8 ms), .int .i64 nu, .int .i64 ma] 62)).alloc (.cells #[.int .u8 0, .int .i64 n, .string (St8 s)] 44)).alloc (.cells #[.bool false, .bool true, .bool false] 37))) := ((((Below.refl _ _).alloc (Nat.le_refl _) _).alloc (by rw [World.size_alloc]; omega) _).alloc (by rw [World.size_alloc, World.size_alloc]; omega) _)
        clear hb
        go_enter Tryd.func86, Tryd.ntmps86
        go_wp2_with fail
        (try simp only [Exit.inBlock, Exit.then])
        refine bodyPost_ret (results_cell_row rfl _ _ (w.heap.size + 1 + 1) 37 #[.bool false, .bool true, .bool false] (0, 0) _ rfl HB.out Tryd.underlying37 rfl (by kernel_rfl)) rfl ?_
        exact ⟨by simp [h1, h3], Hbe.out⟩
      · by_cases h2 : 0 < ma
        · subst hk
          have e1 : decide (0 < nu) = false := decide_eq_false h1
          have e3 : decide (nu < ma) = true := decide_eq_true h3
          have e2 : decide (0 < ma) = true := decide_eq_true h2
          have hb : Blk (((w.alloc (.cells #[.int .u8 lk, .int .i64 ln, .string (St8 ls), .int .u8 mk, .int .i64 mn, .string (St8 ms), .int .i64 nu, .int .i64 ma] 62)).alloc (.cells #[.int .u8 0, .int .i64 n, .string (St8 s)] 44)).alloc (.cells #[.bool false, .bool true, .bool false] 37)) (w.heap.size + 1 + 1) 37 [.bool false, .bool true, .bool false] := by
            have h := Blk.new ((w.alloc (.cells #[.int .u8 lk, .int .i64 ln, .string (St8 ls), .int .u8 mk, .int .i64 mn, .string (St8 ms), .int .i64 nu, .int .i64 ma] 62)).alloc (.cells #[.int .u8 0, .int .i64 n, .string (St8 s)] 44)) 37 #[.bool false, .bool true, .bool false]
            rw [World.size_alloc, World.size_alloc] at h
            exact h
          have HB := Lib.hid hb
          have Hbe : Hid (Below w.heap.size w (((w.alloc (.cells #[.int .u8 lk, .int .i64 ln, .string (St8 ls), .int .u8 mk, .int .i64 mn, .string (St8 ms), .int .i64 nu, .int .i64 ma] 62)).alloc (.cells #[.int .u8 0, .int .i64 n, .string (St8 s)] 44)).alloc (.cells #[.bool false, .bool true, .bool false] 37))) := ((((Below.refl _ _).alloc (Nat.le_refl _) _).alloc (by rw [World.size_alloc]; omega) _).alloc (by rw [World.size_alloc, World.size_alloc]; omega) _)
          clear hb
          go_enter Tryd.func86, Tryd.ntmps86
          go_wp2_with fail
          (try simp only [Exit.inBlock, Exit.then])
          refine bodyPost_ret (results_cell_row rfl _ _ (w.heap.size + 1 + 1) 37 #[.bool false, .bool true, .bool false] (0, 0) _ rfl HB.out Tryd.underlying37 rfl (by kernel_rfl)) rfl ?_
          exact ⟨by simp [h1, h3, h2], Hbe.out⟩
        · subst hk
          have e1 : decide (0 < nu) = false := decide_eq_false h1
          have e3 : decide (nu < ma) = true := decide_eq_true h3
          have e2 : decide (0 < ma) = false := decide_eq_false h2
          have hb : Blk (((w.alloc (.cells #[.int .u8 lk, .int .i64 ln, .string (St8 ls), .int .u8 mk, .int .i64 mn, .string (St8 ms), .int .i64 nu, .int .i64 ma] 62)).alloc (.cells #[.int .u8 0, .int .i64 n, .string (St8 s)] 44)).alloc (.cells #[.bool false, .bool false, .bool false] 37)) (w.heap.size + 1 + 1) 37 [.bool false, .bool false, .bool false] := by
            have h := Blk.new ((w.alloc (.cells #[.int .u8 lk, .int .i64 ln, .string (St8 ls), .int .u8 mk, .int .i64 mn, .string (St8 ms), .int .i64 nu, .int .i64 ma] 62)).alloc (.cells #[.int .u8 0, .int .i64 n, .string (St8 s)] 44)) 37 #[.bool false, .bool false, .bool false]
            rw [World.size_alloc, World.size_alloc] at h
            exact h
          have HB := Lib.hid hb
          have Hbe : Hid (Below w.heap.size w (((w.alloc (.cells #[.int .u8 lk, .int .i64 ln, .string (St8 ls), .int .u8 mk, .int .i64 mn, .string (St8 ms), .int .i64 nu, .int .i64 ma] 62)).alloc (.cells #[.int .u8 0, .int .i64 n, .string (St8 s)] 44)).alloc (.cells #[.bool false, .bool false, .bool false] 37))) := ((((Below.refl _ _).alloc (Nat.le_refl _) _).alloc (by rw [World.size_alloc]; omega) _).alloc (by rw [World.size_alloc, World.size_alloc]; omega) _)
          clear hb
          go_enter Tryd.func86, Tryd.ntmps86
          go_wp2_with fail
          (try simp only [Exit.inBlock, Exit.then])
          refine bodyPost_ret (results_cell_row rfl _ _ (w.heap.size + 1 + 1) 37 #[.bool false, .bool false, .bool false] (0, 0) _ rfl HB.out Tryd.underlying37 rfl (by kernel_rfl)) rfl ?_
          exact ⟨by simp [h1, h3, h2], Hbe.out⟩
    · by_cases h1 : 0 < nu
      · have k1 : (k == 0) = false := by rw [beq_eq_false_iff_ne]; exact hk
        have k2 : (k != 0) = true := by rw [bne_iff_ne]; exact hk
        have k3 : decide (k = 0) = false := decide_eq_false hk
        have e1 : decide (0 < nu) = true := decide_eq_true h1
        have e3 : decide (nu < ma) = true := decide_eq_true h3
        have hb : Blk (((w.alloc (.cells #[.int .u8 lk, .int .i64 ln, .string (St8 ls), .int .u8 mk, .int .i64 mn, .string (St8 ms), .int .i64 nu, .int .i64 ma] 62)).alloc (.cells #[.int .u8 k, .int .i64 n, .string (St8 s)] 44)).alloc (.cells #[.bool no, .bool true, .bool ye] 37)) (w.heap.size + 1 + 1) 37 [.bool no, .bool true, .bool ye] := by
          have h := Blk.new ((w.alloc (.cells #[.int .u8 lk, .int .i64 ln, .string (St8 ls), .int .u8 mk, .int .i64 mn, .string (St8 ms), .int .i64 nu, .int .i64 ma] 62)).alloc (.cells #[.int .u8 k, .int .i64 n, .string (St8 s)] 44)) 37 #[.bool no, .bool true, .bool ye]
          rw [World.size_alloc, World.size_alloc] at h
          exact h
        have HB := Lib.hid hb
        have Hbe : Hid (Below w.heap.size w (((w.alloc (.cells #[.int .u8 lk, .int .i64 ln, .string (St8 ls), .int .u8 mk, .int .i64 mn, .string (St8 ms), .int .i64 nu, .int .i64 ma] 62)).alloc (.cells #[.int .u8 k, .int .i64 n, .string (St8 s)] 44)).alloc (.cells #[.bool no, .bool true, .bool ye] 37))) := ((((Below.refl _ _).alloc (Nat.le_refl _) _).alloc (by rw [World.size_alloc]; omega) _).alloc (by rw [World.size_alloc, World.size_alloc]; omega) _)
        clear hb
        go_enter Tryd.func86, Tryd.ntmps86
        go_wp2_with fail
        (try simp only [Exit.inBlock, Exit.then])
        refine bodyPost_ret (results_cell_row rfl _ _ (w.heap.size + 1 + 1) 37 #[.bool no, .bool true, .bool ye] (0, 0) _ rfl HB.out Tryd.underlying37 rfl (by kernel_rfl)) rfl ?_
        exact ⟨by simp [h1, h3, hk], Hbe.out⟩
      · have k1 : (k == 0) = false := by rw [beq_eq_false_iff_ne]; exact hk
        have k2 : (k != 0) = true := by rw [bne_iff_ne]; exact hk
        have k3 : decide (k = 0) = false := decide_eq_false hk
        have e1 : decide (0 < nu) = false := decide_eq_false h1
        have e3 : decide (nu < ma) = true := decide_eq_true h3
        have hb : Blk (((w.alloc (.cells #[.int .u8 lk, .int .i64 ln, .string (St8 ls), .int .u8 mk, .int .i64 mn, .string (St8 ms), .int .i64 nu, .int .i64 ma] 62)).alloc (.cells #[.int .u8 k, .int .i64 n, .string (St8 s)] 44)).alloc (.cells #[.bool no, .bool false, .bool ye] 37)) (w.heap.size + 1 + 1) 37 [.bool no, .bool false, .bool ye] := by
          have h := Blk.new ((w.alloc (.cells #[.int .u8 lk, .int .i64 ln, .string (St8 ls), .int .u8 mk, .int .i64 mn, .string (St8 ms), .int .i64 nu, .int .i64 ma] 62)).alloc (.cells #[.int .u8 k, .int .i64 n, .string (St8 s)] 44)) 37 #[.bool no, .bool false, .bool ye]
          rw [World.size_alloc, World.size_alloc] at h
          exact h
        have HB := Lib.hid hb
        have Hbe : Hid (Below w.heap.size w (((w.alloc (.cells #[.int .u8 lk, .int .i64 ln, .string (St8 ls), .int .u8 mk, .int .i64 mn, .string (St8 ms), .int .i64 nu, .int .i64 ma] 62)).alloc (.cells #[.int .u8 k, .int .i64 n, .string (St8 s)] 44)).alloc (.cells #[.bool no, .bool false, .bool ye] 37))) := ((((Below.refl _ _).alloc (Nat.le_refl _) _).alloc (by rw [World.size_alloc]; omega) _).alloc (by rw [World.size_alloc, World.size_alloc]; omega) _)
        clear hb
        go_enter Tryd.func86, Tryd.ntmps86
        go_wp2_with fail
        (try simp only [Exit.inBlock, Exit.then])
        refine bodyPost_ret (results_cell_row rfl _ _ (w.heap.size + 1 + 1) 37 #[.bool no, .bool false, .bool ye] (0, 0) _ rfl HB.out Tryd.underlying37 rfl (by kernel_rfl)) rfl ?_
        exact ⟨by simp [h1, h3, hk], Hbe.out⟩
  · by_cases hk : k = 0
    · by_cases h1 : 0 < nu
      · subst hk
        have e1 : decide (0 < nu) = true := decide_eq_true h1
        have e3 : decide (nu < ma) = false := decide_eq_false h3
        have hb : Blk (((w.alloc (.cells #[.int .u8 lk, .int .i64 ln, .string (St8 ls), .int .u8 mk, .int .i64 mn, .string (St8 ms), .int .i64 nu, .int .i64 ma] 62)).alloc (.cells #[.int .u8 0, .int .i64 n, .string (St8 s)] 44)).alloc (.cells #[.bool false, .bool true, .bool false] 37)) (w.heap.size + 1 + 1) 37 [.bool false, .bool true, .bool false] := by
          have h := Blk.new ((w.alloc (.cells #[.int .u8 lk, .int .i64 ln, .string (St8 ls), .int .u8 mk, .int .i64 mn, .string (St8 ms), .int .i64 nu, .int .i64 ma] 62)).alloc (.cells #[.int .u8 0, .int .i64 n, .string (St8 s)] 44)) 37 #[.bool false, .bool true, .bool false]
          rw [World.size_alloc, World.size_alloc] at h
          exact h
        have HB := Lib.hid hb
        have Hbe : Hid (Below w.heap.size w (((w.alloc (.cells #[.int .u8 lk, .int .i64 ln, .string (St8 ls), .int .u8 mk, .int .i64 mn, .string (St8 ms), .int .i64 nu, .int .i64 ma] 62)).alloc (.cells #[.int .u8 0, .int .i64 n, .string (St8 s)] 44)).alloc (.cells #[.bool false, .bool true, .bool false] 37))) := ((((Below.refl _ _).alloc (Nat.le_refl _) _).alloc (by rw [World.size_alloc]; omega) _).alloc (by rw [World.size_alloc, World.size_alloc]; omega) _)
        clear hb
        go_enter Tryd.func86, Tryd.ntmps86
        go_wp2_with fail
        (try simp only [Exit.inBlock, Exit.then])
        refine bodyPost_ret (results_cell_row rfl _ _ (w.heap.size + 1 + 1) 37 #[.bool false, .bool true, .bool false] (0, 0) _ rfl HB.out Tryd.underlying37 rfl (by kernel_rfl)) rfl ?_
        exact ⟨by simp [h1, h3], Hbe.out⟩
      · by_cases h2 : 0 < ma
        · exact absurd (show nu < ma by omega) h3
        · subst hk
          have e1 : decide (0 < nu) = false := decide_eq_false h1
          have e3 : decide (nu < ma) = false := decide_eq_false h3
          have e2 : decide (0 < ma) = false := decide_eq_false h2
          have hb : Blk (((w.alloc (.cells #[.int .u8 lk, .int .i64 ln, .string (St8 ls), .int .u8 mk, .int .i64 mn, .string (St8 ms), .int .i64 nu, .int .i64 ma] 62)).alloc (.cells #[.int .u8 0, .int .i64 n, .string (St8 s)] 44)).alloc (.cells #[.bool false, .bool false, .bool false] 37)) (w.heap.size + 1 + 1) 37 [.bool false, .bool false, .bool false] := by
            have h := Blk.new ((w.alloc (.cells #[.int .u8 lk, .int .i64 ln, .string (St8 ls), .int .u8 mk, .int .i64 mn, .string (St8 ms), .int .i64 nu, .int .i64 ma] 62)).alloc (.cells #[.int .u8 0, .int .i64 n, .string (St8 s)] 44)) 37 #[.bool false, .bool false, .bool false]
            rw [World.size_alloc, World.size_alloc] at h
            exact h
          have HB := Lib.hid hb
          have Hbe : Hid (Below w.heap.size w (((w.alloc (.cells #[.int .u8 lk, .int .i64 ln, .string (St8 ls), .int .u8 mk, .int .i64 mn, .string (St8 ms), .int .i64 nu, .int .i64 ma] 62)).alloc (.cells #[.int .u8 0, .int .i64 n, .string (St8 s)] 44)).alloc (.cells #[.bool false, .bool false, .bool false] 37))) := ((((Below.refl _ _).alloc (Nat.le_refl _) _).alloc (by rw [World.size_alloc]; omega) _).alloc (by rw [World.size_alloc, World.size_alloc]; omega) _)
          clear hb
          go_enter Tryd.func86, Tryd.ntmps86
          go_wp2_with fail
          (try simp only [Exit.inBlock, Exit.then])
          refine bodyPost_ret (results_cell_row rfl _ _ (w.heap.size + 1 + 1) 37 #[.bool false, .bool false, .bool false] (0, 0) _ rfl HB.out Tryd.underlying37 rfl (by kernel_rfl)) rfl ?_
          exact ⟨by simp [h1, h3, h2], Hbe.out⟩
    · by_cases h1 : 0 < nu
      · have k1 : (k == 0) = false := by rw [beq_eq_false_iff_ne]; exact hk
        have k2 : (k != 0) = true := by rw [bne_iff_ne]; exact hk
        have k3 : decide (k = 0) = false := decide_eq_false hk
        have e1 : decide (0 < nu) = true := decide_eq_true h1
        have e3 : decide (nu < ma) = false := decide_eq_false h3
        have hb : Blk (((w.alloc (.cells #[.int .u8 lk, .int .i64 ln, .string (St8 ls), .int .u8 mk, .int .i64 mn, .string (St8 ms), .int .i64 nu, .int .i64 ma] 62)).alloc (.cells #[.int .u8 k, .int .i64 n, .string (St8 s)] 44)).alloc (.cells #[.bool false, .bool true, .bool false] 37)) (w.heap.size + 1 + 1) 37 [.bool false, .bool true, .bool false] := by
          have h := Blk.new ((w.alloc (.cells #[.int .u8 lk, .int .i64 ln, .string (St8 ls), .int .u8 mk, .int .i64 mn, .string (St8 ms), .int .i64 nu, .int .i64 ma] 62)).alloc (.cells #[.int .u8 k, .int .i64 n, .string (St8 s)] 44)) 37 #[.bool false, .bool true, .bool false]
          rw [World.size_alloc, World.size_alloc] at h
          exact h
        have HB := Lib.hid hb
        have Hbe : Hid (Below w.heap.size w (((w.alloc (.cells #[.int .u8 lk, .int .i64 ln, .string (St8 ls), .int .u8 mk, .int .i64 mn, .string (St8 ms), .int .i64 nu, .int .i64 ma] 62)).alloc (.cells #[.int .u8 k, .int .i64 n, .string (St8 s)] 44)).alloc (.cells #[.bool false, .bool true, .bool false] 37))) := ((((Below.refl _ _).alloc (Nat.le_refl _) _).alloc (by rw [World.size_alloc]; omega) _).alloc (by rw [World.size_alloc, World.size_alloc]; omega) _)
        clear hb
        go_enter Tryd.func86, Tryd.ntmps86
        go_wp2_with fail
        (try simp only [Exit.inBlock, Exit.then])
        refine bodyPost_ret (results_cell_row rfl _ _ (w.heap.size + 1 + 1) 37 #[.bool false, .bool true, .bool false] (0, 0) _ rfl HB.out Tryd.underlying37 rfl (by kernel_rfl)) rfl ?_
        exact ⟨by simp [h1, h3, hk], Hbe.out⟩
      · have k1 : (k == 0) = false := by rw [beq_eq_false_iff_ne]; exact hk
        have k2 : (k != 0) = true := by rw [bne_iff_ne]; exact hk
        have k3 : decide (k = 0) = false := decide_eq_false hk
        have e1 : decide (0 < nu) = false := decide_eq_false h1
        have e3 : decide (nu < ma) = false := decide_eq_false h3
        have hb : Blk (((w.alloc (.cells #[.int .u8 lk, .int .i64 ln, .string (St8 ls), .int .u8 mk, .int .i64 mn, .string (St8 ms), .int .i64 nu, .int .i64 ma] 62)).alloc (.cells #[.int .u8 k, .int .i64 n, .string (St8 s)] 44)).alloc (.cells #[.bool false, .bool false, .bool false] 37)) (w.heap.size + 1 + 1) 37 [.bool false, .bool false, .bool false] := by
          have h := Blk.new ((w.alloc (.cells #[.int .u8 lk, .int .i64 ln, .string (St8 ls), .int .u8 mk, .int .i64 mn, .string (St8 ms), .int .i64 nu, .int .i64 ma] 62)).alloc (.cells #[.int .u8 k, .int .i64 n, .string (St8 s)] 44)) 37 #[.bool false, .bool false, .bool false]
          rw [World.size_alloc, World.size_alloc] at h
          exact h
        have HB := Lib.hid hb
        have Hbe : Hid (Below w.heap.size w (((w.alloc (.cells #[.int .u8 lk, .int .i64 ln, .string (St8 ls), .int .u8 mk, .int .i64 mn, .string (St8 ms), .int .i64 nu, .int .i64 ma] 62)).alloc (.cells #[.int .u8 k, .int .i64 n, .string (St8 s)] 44)).alloc (.cells #[.bool false, .bool false, .bool false] 37))) := ((((Below.refl _ _).alloc (Nat.le_refl _) _).alloc (by rw [World.size_alloc]; omega) _).alloc (by rw [World.size_alloc, World.size_alloc]; omega) _)
        clear hb
        go_enter Tryd.func86, Tryd.ntmps86
        go_wp2_with fail
        (try simp only [Exit.inBlock, Exit.then])
        refine bodyPost_ret (results_cell_row rfl _ _ (w.heap.size + 1 + 1) 37 #[.bool false, .bool false, .bool false] (0, 0) _ rfl HB.out Tryd.underlying37 rfl (by kernel_rfl)) rfl ?_
        exact ⟨by simp [h1, h3, hk], Hbe.out⟩
set_option maxRecDepth 100000 in
theorem znull_any (z : Zo) (w : World) : Calls Tryd.prog 69 #[z.agg] w fun e w' => e = .returned (nullZ z).agg ∧ Below w.heap.size w w' := by
  obtain ⟨⟨lk, ln, ls⟩, ⟨mk, mn, ms⟩, nu, ma⟩ := z
  unfold nullZ T3.agg Zo.agg
  dsimp only
  by_cases h3 : nu < ma
  · by_cases h1 : 0 < nu
    · have e1 : decide (0 < nu) = true := decide_eq_true h1
      have e3 : decide (nu < ma) = true := decide_eq_true h3
      have hb : Blk ((w.alloc (.cells #[.int .u8 lk, .int .i64 ln, .string (St8 ls), .int .u8 mk, .int .i64 mn, .string (St8 ms), .int .i64 nu, .int .i64 ma] 62)).alloc (.cells #[.bool true, .bool false, .bool true] 37)) (w.heap.size + 1) 37 [.bool true, .bool false, .bool true] := by
        have h := Blk.new (w.alloc (.cells #[.int .u8 lk, .int .i64 ln, .string (St8 ls), .int .u8 mk, .int .i64 mn, .string (St8 ms), .int .i64 nu, .int .i64 ma] 62)) 37 #[.bool true, .bool false, .bool true]
        rw [World.size_alloc] at h
        exact h
      have HB := Lib.hid hb
      have Hbe : Hid (Below w.heap.size w ((w.alloc (.cells #[.int .u8 lk, .int .i64 ln, .string (St8 ls), .int .u8 mk, .int .i64 mn, .string (St8 ms), .int .i64 nu, .int .i64 ma] 62)).alloc (.cells #[.bool true, .bool false, .bool true] 37))) := (((Below.refl _ _).alloc (Nat.le_refl _) _).alloc (by rw [World.size_alloc]; omega) _)
      clear hb
      go_enter Tryd.func69, Tryd.ntmps69
      go_wp2_with fail
      (try simp only [Exit.inBlock, Exit.then])
      refine bodyPost_ret (results_cell_row rfl _ _ (w.heap.size + 1) 37 #[.bool true, .bool false, .bool true] (0, 0) _ rfl HB.out Tryd.underlying37 rfl (by kernel_rfl)) rfl ?_
      exact ⟨by simp [h1, h3], Hbe.out⟩
    · have e1 : decide (0 < nu) = false := decide_eq_false h1
      have e3 : decide (nu < ma) = true := decide_eq_true h3
      have hb : Blk ((w.alloc (.cells #[.int .u8 lk, .int .i64 ln, .string (St8 ls), .int .u8 mk, .int .i64 mn, .string (St8 ms), .int .i64 nu, .int .i64 ma] 62)).alloc (.cells #[.bool true, .bool false, .bool false] 37)) (w.heap.size + 1) 37 [.bool true, .bool false, .bool false] := by
        have h := Blk.new (w.alloc (.cells #[.int .u8 lk, .int .i64 ln, .string (St8 ls), .int .u8 mk, .int .i64 mn, .string (St8 ms), .int .i64 nu, .int .i64 ma] 62)) 37 #[.bool true, .bool false, .bool false]
        rw [World.size_alloc] at h
        exact h
      have HB := Lib.hid hb
      have Hbe : Hid (Below w.heap.size w ((w.alloc (.cells #[.int .u8 lk, .int .i64 ln, .string (St8 ls), .int .u8 mk, .int .i64 mn, .string (St8 ms), .int .i64 nu, .int .i64 ma] 62)).alloc (.cells #[.bool true, .bool false, .bool false] 37))) := (((Below.refl _ _).alloc (Nat.le_refl _) _).alloc (by rw [World.size_alloc]; omega) _)
      clear hb
      go_enter Tryd.func69, Tryd.ntmps69
      go_wp2_with fail
      (try simp only [Exit.inBlock, Exit.then])
      refine bodyPost_ret (results_cell_row rfl _ _ (w.heap.size + 1) 37 #[.bool true, .bool false, .bool false] (0, 0) _ rfl HB.out Tryd.underlying37 rfl (by kernel_rfl)) rfl ?_
      exact ⟨by simp [h1, h3], Hbe.out⟩
  · by_cases h1 : 0 < nu
    · have e1 : decide (0 < nu) = true := decide_eq_true h1
      have e3 : decide (nu < ma) = false := decide_eq_false h3
      have hb : Blk ((w.alloc (.cells #[.int .u8 lk, .int .i64 ln, .string (St8 ls), .int .u8 mk, .int .i64 mn, .string (St8 ms), .int .i64 nu, .int .i64 ma] 62)).alloc (.cells #[.bool false, .bool false, .bool true] 37)) (w.heap.size + 1) 37 [.bool false, .bool false, .bool true] := by
        have h := Blk.new (w.alloc (.cells #[.int .u8 lk, .int .i64 ln, .string (St8 ls), .int .u8 mk, .int .i64 mn, .string (St8 ms), .int .i64 nu, .int .i64 ma] 62)) 37 #[.bool false, .bool false, .bool true]
        rw [World.size_alloc] at h
        exact h
      have HB := Lib.hid hb
      have Hbe : Hid (Below w.heap.size w ((w.alloc (.cells #[.int .u8 lk, .int .i64 ln, .string (St8 ls), .int .u8 mk, .int .i64 mn, .string (St8 ms), .int .i64 nu, .int .i64 ma] 62)).alloc (.cells #[.bool false, .bool false, .bool true] 37))) := (((Below.refl _ _).alloc (Nat.le_refl _) _).alloc (by rw [World.size_alloc]; omega) _)
      clear hb
      go_enter Tryd.func69, Tryd.ntmps69
      go_wp2_with fail
      (try simp only [Exit.inBlock, Exit.then])
      refine bodyPost_ret (results_cell_row rfl _ _ (w.heap.size + 1) 37 #[.bool false, .bool false, .bool true] (0, 0) _ rfl HB.out Tryd.underlying37 rfl (by kernel_rfl)) rfl ?_
      exact ⟨by simp [h1, h3], Hbe.out⟩
    · have e1 : decide (0 < nu) = false := decide_eq_false h1
      have e3 : decide (nu < ma) = false := decide_eq_false h3
      have hb : Blk ((w.alloc (.cells #[.int .u8 lk, .int .i64 ln, .string (St8 ls), .int .u8 mk, .int .i64 mn, .string (St8 ms), .int .i64 nu, .int .i64 ma] 62)).alloc (.cells #[.bool false, .bool false, .bool false] 37)) (w.heap.size + 1) 37 [.bool false, .bool false, .bool false] := by
        have h := Blk.new (w.alloc (.cells #[.int .u8 lk, .int .i64 ln, .string (St8 ls), .int .u8 mk, .int .i64 mn, .string (St8 ms), .int .i64 nu, .int .i64 ma] 62)) 37 #[.bool false, .bool false, .bool false]
        rw [World.size_alloc] at h
        exact h
      have HB := Lib.hid hb
      have Hbe : Hid (Below w.heap.size w ((w.alloc (.cells #[.int .u8 lk, .int .i64 ln, .string (St8 ls), .int .u8 mk, .int .i64 mn, .string (St8 ms), .int .i64 nu, .int .i64 ma] 62)).alloc (.cells #[.bool false, .bool false, .bool false] 37))) := (((Below.refl _ _).alloc (Nat.le_refl _) _).alloc (by rw [World.size_alloc]; omega) _)
      clear hb
      go_enter Tryd.func69, Tryd.ntmps69
      go_wp2_with fail
      (try simp only [Exit.inBlock, Exit.then])
      refine bodyPost_ret (results_cell_row rfl _ _ (w.heap.size + 1) 37 #[.bool false, .bool false, .bool false] (0, 0) _ rfl HB.out Tryd.underlying37 rfl (by kernel_rfl)) rfl ?_
      exact ⟨by simp [h1, h3], Hbe.out⟩
end Go.Proofs.YtipnglidepfkbaaDoor
namespace Go.Proofs.YtipnglidepfkbaaDoor
set_option linter.unusedVariables false
set_option linter.unusedSimpArgs false
open Go.RowKit

theorem Blk.three {w : World} {g : Nat} {t : TypeId} {a b c : Value} (h : Blk w g t [a, b, c]) (x y z : Value) : Blk (((w.setCell ⟨g, 0, none⟩ x).setCell ⟨g, 1, none⟩ y).setCell ⟨g, 2, none⟩ z) g t [x, y, z] :=
  ((h.set_ 0 x).set_ 1 y).set_ 2 z
theorem below_three {B : Nat} {w0 w : World} (h : Below B w0 w) {g : Nat} (hg : B ≤ g) (x y z : Value) : Below B w0 (((w.setCell ⟨g, 0, none⟩ x).setCell ⟨g, 1, none⟩ y).setCell ⟨g, 2, none⟩ z) :=
  ((h.setCell hg _).setCell hg _).setCell hg _
theorem below_set {B : Nat} {w0 w : World} (h : Below B w0 w) {g : Nat} (hg : B ≤ g) (i : Nat) (u : Value) : Below B w0 (w.setCell ⟨g, i, none⟩ u) := h.setCell hg _
/-- An array of a call's own, and what is asked of it. -/
def T3At (w : World) (g : Nat) (t : TypeId) (x : T3) : Prop := Blk w g t [.bool x.no, .bool x.un, .bool x.ye]
namespace T3At
variable {w w' : World} {g : Nat} {t : TypeId} {x : T3}
theorem below (h : T3At w g t x) (hb : Below w.heap.size w w') : T3At w' g t x := Blk.below h hb
theorem alloc (h : T3At w g t x) (o : Obj) : T3At (w.alloc o) g t x := Blk.alloc h o
theorem cells (h : T3At w g t x) : w.cell? ⟨g, 0, none⟩ = some (.bool x.no) ∧ w.cell? ⟨g, 1, none⟩ = some (.bool x.un) ∧ w.cell? ⟨g, 2, none⟩ = some (.bool x.ye) := ⟨Blk.cell h 0, Blk.cell h 1, Blk.cell h 2⟩
theorem new (w : World) (t : TypeId) (x : T3) : T3At (w.alloc (.cells #[.bool x.no, .bool x.un, .bool x.ye] t)) w.heap.size t x := Blk.new w t #[.bool x.no, .bool x.un, .bool x.ye]
theorem far {k : Nat} (h : T3At w g t x) (hk : g ≠ k) (i : Nat) (u : Value) : T3At (w.setCell ⟨k, i, none⟩ u) g t x := Blk.far h hk u
theorem set_ {i : Nat} (h : T3At w g t x) (hi : i < 3) : T3At (w.setCell ⟨g, i, none⟩ (.bool true)) g t (x.set_ i) := by
  match i, hi with
  | 0, _ => exact Blk.set_ h 0 _
  | 1, _ => exact Blk.set_ h 1 _
  | 2, _ => exact Blk.set_ h 2 _
theorem three (h : T3At w g t x) (y : T3) : T3At (((w.setCell ⟨g, 0, none⟩ (.bool y.no)).setCell ⟨g, 1, none⟩ (.bool y.un)).setCell ⟨g, 2, none⟩ (.bool y.ye)) g t y := Blk.three h _ _ _
theorem cell (h : T3At w g t x) {i : Nat} (hi : i < 3) : w.cell? ⟨g, i, none⟩ = some (.bool (x.get i)) := by
  match i, hi with
  | 0, _ => exact Blk.cell h 0
  | 1, _ => exact Blk.cell h 1
  | 2, _ => exact Blk.cell h 2
theorem frozen (h : T3At w g t x) (i : Nat) : w.frozen? ⟨g, i, none⟩ = false := Blk.frozen h i
end T3At
theorem T3.agg_eq (x : T3) : x.agg = .agg #[.bool x.no, .bool x.un, .bool x.ye] := rfl
end Go.Proofs.YtipnglidepfkbaaDoor
namespace Go.Proofs.YtipnglidepfkbaaDoor
set_option linter.unusedVariables false
set_option linter.unusedSimpArgs false
open Go.RowKit

attribute [local go_sem ↓] Go.wp_at_zero Go.wp_at_succ

set_option maxRecDepth 100000 in
theorem rznull_any (z : Zo) (w : World) : Calls Tryd.prog 73 #[z.agg] w fun e w' => e = .returned (nullZ z).agg ∧ Below w.heap.size w w' := by
  obtain ⟨⟨lk, ln, ls⟩, ⟨mk, mn, ms⟩, nu, ma⟩ := z
  unfold nullZ T3.agg Zo.agg
  dsimp only
  by_cases h3 : nu < ma
  · by_cases h1 : 0 < nu
    · have e1 : decide (0 < nu) = true := decide_eq_true h1
      have e3 : decide (nu < ma) = true := decide_eq_true h3
      have hb : Blk (((w.alloc (.cells #[.int .u8 lk, .int .i64 ln, .string (St8 ls), .int .u8 mk, .int .i64 mn, .string (St8 ms), .int .i64 nu, .int .i64 ma] 62)).alloc (.cells #[.bool true, .bool false, .bool true] 37)).alloc (.cells #[.bool true, .bool false, .bool true] 37)) (w.heap.size + 1) 37 [.bool true, .bool false, .bool true] := by
        have h := (Blk.new (w.alloc (.cells #[.int .u8 lk, .int .i64 ln, .string (St8 ls), .int .u8 mk, .int .i64 mn, .string (St8 ms), .int .i64 nu, .int .i64 ma] 62)) 37 #[.bool true, .bool false, .bool true]).alloc (.cells #[.bool true, .bool false, .bool true] 37)
        rw [World.size_alloc] at h
        exact h
      have HB := Lib.hid hb
      have Hbe : Hid (Below w.heap.size w (((w.alloc (.cells #[.int .u8 lk, .int .i64 ln, .string (St8 ls), .int .u8 mk, .int .i64 mn, .string (St8 ms), .int .i64 nu, .int .i64 ma] 62)).alloc (.cells #[.bool true, .bool false, .bool true] 37)).alloc (.cells #[.bool true, .bool false, .bool true] 37))) := ((((Below.refl _ _).alloc (Nat.le_refl _) _).alloc (by rw [World.size_alloc]; omega) _).alloc (by rw [World.size_alloc, World.size_alloc]; omega) _)
      clear hb
      go_enter Tryd.func73, Tryd.ntmps73
      go_wp2_with fail
      (try simp only [Exit.inBlock, Exit.then])
      refine bodyPost_ret (results_cell_row rfl _ _ (w.heap.size + 1) 37 #[.bool true, .bool false, .bool true] (0, 0) _ rfl HB.out Tryd.underlying37 rfl (by kernel_rfl)) rfl ?_
      exact ⟨by simp [h1, h3], Hbe.out⟩
    · have e1 : decide (0 < nu) = false := decide_eq_false h1
      have e3 : decide (nu < ma) = true := decide_eq_true h3
      have hb : Blk (((w.alloc (.cells #[.int .u8 lk, .int .i64 ln, .string (St8 ls), .int .u8 mk, .int .i64 mn, .string (St8 ms), .int .i64 nu, .int .i64 ma] 62)).alloc (.cells #[.bool true, .bool false, .bool false] 37)).alloc (.cells #[.bool true, .bool false, .bool false] 37)) (w.heap.size + 1) 37 [.bool true, .bool false, .bool false] := by
        have h := (Blk.new (w.alloc (.cells #[.int .u8 lk, .int .i64 ln, .string (St8 ls), .int .u8 mk, .int .i64 mn, .string (St8 ms), .int .i64 nu, .int .i64 ma] 62)) 37 #[.bool true, .bool false, .bool false]).alloc (.cells #[.bool true, .bool false, .bool false] 37)
        rw [World.size_alloc] at h
        exact h
      have HB := Lib.hid hb
      have Hbe : Hid (Below w.heap.size w (((w.alloc (.cells #[.int .u8 lk, .int .i64 ln, .string (St8 ls), .int .u8 mk, .int .i64 mn, .string (St8 ms), .int .i64 nu, .int .i64 ma] 62)).alloc (.cells #[.bool true, .bool false, .bool false] 37)).alloc (.cells #[.bool true, .bool false, .bool false] 37))) := ((((Below.refl _ _).alloc (Nat.le_refl _) _).alloc (by rw [World.size_alloc]; omega) _).alloc (by rw [World.size_alloc, World.size_alloc]; omega) _)
      clear hb
      go_enter Tryd.func73, Tryd.ntmps73
      go_wp2_with fail
      (try simp only [Exit.inBlock, Exit.then])
      refine bodyPost_ret (results_cell_row rfl _ _ (w.heap.size + 1) 37 #[.bool true, .bool false, .bool false] (0, 0) _ rfl HB.out Tryd.underlying37 rfl (by kernel_rfl)) rfl ?_
      exact ⟨by simp [h1, h3], Hbe.out⟩
  · by_cases h1 : 0 < nu
    · have e1 : decide (0 < nu) = true := decide_eq_true h1
      have e3 : decide (nu < ma) = false := decide_eq_false h3
      have hb : Blk (((w.alloc (.cells #[.int .u8 lk, .int .i64 ln, .string (St8 ls), .int .u8 mk, .int .i64 mn, .string (St8 ms), .int .i64 nu, .int .i64 ma] 62)).alloc (.cells #[.bool false, .bool false, .bool true] 37)).alloc (.cells #[.bool false, .bool false, .bool true] 37)) (w.heap.size + 1) 37 [.bool false, .bool false, .bool true] := by
        have h := (Blk.new (w.alloc (.cells #[.int .u8 lk, .int .i64 ln, .string (St8 ls), .int .u8 mk, .int .i64 mn, .string (St8 ms), .int .i64 nu, .int .i64 ma] 62)) 37 #[.bool false, .bool false, .bool true]).alloc (.cells #[.bool false, .bool false, .bool true] 37)
        rw [World.size_alloc] at h
        exact h
      have HB := Lib.hid hb
      have Hbe : Hid (Below w.heap.size w (((w.alloc (.cells #[.int .u8 lk, .int .i64 ln, .string (St8 ls), .int .u8 mk, .int .i64 mn, .string (St8 ms), .int .i64 nu, .int .i64 ma] 62)).alloc (.cells #[.bool false, .bool false, .bool true] 37)).alloc (.cells #[.bool false, .bool false, .bool true] 37))) := ((((Below.refl _ _).alloc (Nat.le_refl _) _).alloc (by rw [World.size_alloc]; omega) _).alloc (by rw [World.size_alloc, World.size_alloc]; omega) _)
      clear hb
      go_enter Tryd.func73, Tryd.ntmps73
      go_wp2_with fail
      (try simp only [Exit.inBlock, Exit.then])
      refine bodyPost_ret (results_cell_row rfl _ _ (w.heap.size + 1) 37 #[.bool false, .bool false, .bool true] (0, 0) _ rfl HB.out Tryd.underlying37 rfl (by kernel_rfl)) rfl ?_
      exact ⟨by simp [h1, h3], Hbe.out⟩
    · have e1 : decide (0 < nu) = false := decide_eq_false h1
      have e3 : decide (nu < ma) = false := decide_eq_false h3
      have hb : Blk (((w.alloc (.cells #[.int .u8 lk, .int .i64 ln, .string (St8 ls), .int .u8 mk, .int .i64 mn, .string (St8 ms), .int .i64 nu, .int .i64 ma] 62)).alloc (.cells #[.bool false, .bool false, .bool false] 37)).alloc (.cells #[.bool false, .bool false, .bool false] 37)) (w.heap.size + 1) 37 [.bool false, .bool false, .bool false] := by
        have h := (Blk.new (w.alloc (.cells #[.int .u8 lk, .int .i64 ln, .string (St8 ls), .int .u8 mk, .int .i64 mn, .string (St8 ms), .int .i64 nu, .int .i64 ma] 62)) 37 #[.bool false, .bool false, .bool false]).alloc (.cells #[.bool false, .bool false, .bool false] 37)
        rw [World.size_alloc] at h
        exact h
      have HB := Lib.hid hb
      have Hbe : Hid (Below w.heap.size w (((w.alloc (.cells #[.int .u8 lk, .int .i64 ln, .string (St8 ls), .int .u8 mk, .int .i64 mn, .string (St8 ms), .int .i64 nu, .int .i64 ma] 62)).alloc (.cells #[.bool false, .bool false, .bool false] 37)).alloc (.cells #[.bool false, .bool false, .bool false] 37))) := ((((Below.refl _ _).alloc (Nat.le_refl _) _).alloc (by rw [World.size_alloc]; omega) _).alloc (by rw [World.size_alloc, World.size_alloc]; omega) _)
      clear hb
      go_enter Tryd.func73, Tryd.ntmps73
      go_wp2_with fail
      (try simp only [Exit.inBlock, Exit.then])
      refine bodyPost_ret (results_cell_row rfl _ _ (w.heap.size + 1) 37 #[.bool false, .bool false, .bool false] (0, 0) _ rfl HB.out Tryd.underlying37 rfl (by kernel_rfl)) rfl ?_
      exact ⟨by simp [h1, h3], Hbe.out⟩
end Go.Proofs.YtipnglidepfkbaaDoor
