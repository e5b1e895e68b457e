/- Walks: what may come of whether values are the same as one: the reference's (warpref13.Equal). (Printed by gen_mye.py.) -/
import Derived.Test.YtipnglidepfkbaaDoorMGrV
namespace Go.Proofs.YtipnglidepfkbaaDoor
set_option linter.unusedVariables false
set_option linter.unusedSimpArgs false
open Go.RowKit

attribute [local go_sem ↓] Go.wp_at_zero Go.wp_at_succ

set_option maxHeartbeats 16000000 in
set_option maxRecDepth 100000 in
theorem rzequal_any (z : Zo) (v : Va) (w : World) : Calls Tryd.prog 71 #[z.agg, v.agg] w fun e w' => e = .returned (equalZ z v).agg ∧ Below w.heap.size w w' := by
  have hcA := Lib.hid (fun w' => rcompare_c v z.least w')
  have hcB := Lib.hid (fun w' => rcompare_c v z.most w')
  have hun := Lib.hid (fun w' => runk_any z v w')
  have hv0 : Hid (¬ (z.nulls < z.many ∧ v.k ≠ 0) → equalZ z v = unkZ z v) := mayF_no
  have hv1 : Hid (∀ X Y, X = decide (v ≠ z.least ∨ v ≠ z.most) → Y = decide (0 ≤ cmpVa v z.least ∧ cmpVa v z.most ≤ 0) → z.nulls < z.many ∧ v.k ≠ 0 → equalZ z v = ⟨X, (unkZ z v).un, Y⟩) := fun X Y hX hY h => by
    subst hX
    subst hY
    exact mayF_yes h
  have hu : unkZ z v = ⟨false, (unkZ z v).un, false⟩ := rfl
  generalize equalZ z v = R at *
  generalize (unkZ z v).un = U at *
  generalize unkZ z v = UZ at *
  subst hu
  generalize cmpVa v z.least = A at *
  generalize cmpVa v z.most = B at *
  obtain ⟨⟨lk, ln, ls⟩, ⟨mk, mn, ms⟩, nu, ma⟩ := z
  obtain ⟨k, n, s⟩ := v
  have hb1 : Below w.heap.size w (w.alloc (.cells #[.int .u8 lk, .int .i64 ln, .string (St8 ls), .int .u8 mk, .int .i64 mn, .string (St8 ms), .int .i64 nu, .int .i64 ma] 62)) := (Below.refl _ _).alloc (Nat.le_refl _) _
  have hb2 : Below w.heap.size w ((w.alloc (.cells #[.int .u8 lk, .int .i64 ln, .string (St8 ls), .int .u8 mk, .int .i64 mn, .string (St8 ms), .int .i64 nu, .int .i64 ma] 62)).alloc (.cells #[.int .u8 k, .int .i64 n, .string (St8 s)] 44)) := hb1.alloc (by rw [World.size_alloc]; omega) _
  have hb3 : Below w.heap.size w (((w.alloc (.cells #[.int .u8 lk, .int .i64 ln, .string (St8 ls), .int .u8 mk, .int .i64 mn, .string (St8 ms), .int .i64 nu, .int .i64 ma] 62)).alloc (.cells #[.int .u8 k, .int .i64 n, .string (St8 s)] 44)).alloc (.cells #[.bool false, .bool false, .bool false] 37)) := hb2.alloc (by rw [World.size_alloc, World.size_alloc]; omega) _
  have hx := ((Blk.new w 62 #[.int .u8 lk, .int .i64 ln, .string (St8 ls), .int .u8 mk, .int .i64 mn, .string (St8 ms), .int .i64 nu, .int .i64 ma]).alloc (.cells #[.int .u8 k, .int .i64 n, .string (St8 s)] 44)).alloc (.cells #[.bool false, .bool false, .bool false] 37)
  have hy := (Blk.new (w.alloc (.cells #[.int .u8 lk, .int .i64 ln, .string (St8 ls), .int .u8 mk, .int .i64 mn, .string (St8 ms), .int .i64 nu, .int .i64 ma] 62)) 44 #[.int .u8 k, .int .i64 n, .string (St8 s)]).alloc (.cells #[.bool false, .bool false, .bool false] 37)
  have hz := Blk.new ((w.alloc (.cells #[.int .u8 lk, .int .i64 ln, .string (St8 ls), .int .u8 mk, .int .i64 mn, .string (St8 ms), .int .i64 nu, .int .i64 ma] 62)).alloc (.cells #[.int .u8 k, .int .i64 n, .string (St8 s)] 44)) 37 #[.bool false, .bool false, .bool false]
  rw [World.size_alloc] at hy
  rw [World.size_alloc, World.size_alloc] at hz
  unfold Zo.agg at hun ⊢
  unfold Va.agg at hun hcA hcB ⊢
  unfold T3.agg at hun
  dsimp only at hun hcA hcB hv0 hv1 ⊢
  have hW0 : (((w.alloc (.cells #[.int .u8 lk, .int .i64 ln, .string (St8 ls), .int .u8 mk, .int .i64 mn, .string (St8 ms), .int .i64 nu, .int .i64 ma] 62)).alloc (.cells #[.int .u8 k, .int .i64 n, .string (St8 s)] 44)).alloc (.cells #[.bool false, .bool false, .bool false] 37)).heap.size = w.heap.size + 3 := by rw [World.size_alloc, World.size_alloc, World.size_alloc]
  generalize hW : (((w.alloc (.cells #[.int .u8 lk, .int .i64 ln, .string (St8 ls), .int .u8 mk, .int .i64 mn, .string (St8 ms), .int .i64 nu, .int .i64 ma] 62)).alloc (.cells #[.int .u8 k, .int .i64 n, .string (St8 s)] 44)).alloc (.cells #[.bool false, .bool false, .bool false] 37)) = W at *
  have HW := Lib.hid hW
  have Hz := Lib.hid hz
  have Hcc : Hid (∀ w', Below W.heap.size W w' → (w'.cell? ⟨w.heap.size, 0, none⟩ = some (.int .u8 lk) ∧ w'.cell? ⟨w.heap.size, 1, none⟩ = some (.int .i64 ln) ∧ w'.cell? ⟨w.heap.size, 2, none⟩ = some (.string (St8 ls)) ∧ w'.cell? ⟨w.heap.size, 3, none⟩ = some (.int .u8 mk) ∧ w'.cell? ⟨w.heap.size, 4, none⟩ = some (.int .i64 mn) ∧ w'.cell? ⟨w.heap.size, 5, none⟩ = some (.string (St8 ms)) ∧ w'.cell? ⟨w.heap.size, 6, none⟩ = some (.int .i64 nu) ∧ w'.cell? ⟨w.heap.size, 7, none⟩ = some (.int .i64 ma) ∧ w'.cell? ⟨w.heap.size + 1, 0, none⟩ = some (.int .u8 k) ∧ w'.cell? ⟨w.heap.size + 1, 1, none⟩ = some (.int .i64 n) ∧ w'.cell? ⟨w.heap.size + 1, 2, none⟩ = some (.string (St8 s)) ∧ w'.cell? ⟨w.heap.size + 1 + 1, 0, none⟩ = some (.bool false) ∧ w'.cell? ⟨w.heap.size + 1 + 1, 1, none⟩ = some (.bool false) ∧ w'.cell? ⟨w.heap.size + 1 + 1, 2, none⟩ = some (.bool false) ∧ (∀ i, w'.frozen? ⟨w.heap.size + 1 + 1, i, none⟩ = false)) ∧ Below w.heap.size w w') := fun w' hb => ⟨⟨(hx.below hb).cell 0, (hx.below hb).cell 1, (hx.below hb).cell 2, (hx.below hb).cell 3, (hx.below hb).cell 4, (hx.below hb).cell 5, (hx.below hb).cell 6, (hx.below hb).cell 7, (hy.below hb).cell 0, (hy.below hb).cell 1, (hy.below hb).cell 2, (hz.below hb).cell 0, (hz.below hb).cell 1, (hz.below hb).cell 2, fun i => (hz.below hb).frozen i⟩, hb3.trans (hb.mono hb3.size)⟩
  clear hW hx hy hz hb1 hb2 hb3
  by_cases h3 : nu < ma
  · by_cases hk : k = 0
    · subst hk
      have hno := hv0.out (fun h => h.2 rfl)
      have HEq := Lib.hid hno
      clear hno hv0 hv1
      go_enter Tryd.func71, Tryd.ntmps71
      go_wp2_with fail
      rw [HW.out]
      refine (hun.out _).mono ?_
      rintro e w1 ⟨rfl, hb1⟩
      have hz1 := hb1.size
      rw [hW0] at hz1
      have hb2 : Below W.heap.size W (w1.alloc (.cells #[.bool false, .bool U, .bool false] 37)) := hb1.alloc hb1.size _
      have hO1 := T3At.new w1 37 ⟨false, U, false⟩
      have Hb2 := Lib.hid hb2
      have HO1 := Lib.hid hO1
      obtain ⟨c0, c1, c2, c3, c4, c5, c6, c7, c8, c9, c10, c11, c12, c13, c14⟩ := (Hcc.out _ hb2).1
      clear hb1 hb2 hO1
      have HS := Lib.hid (Blk.three (Hz.out.below Hb2.out) (.bool false) (.bool U) (.bool false))
      have HE := Lib.hid (below_three (Hcc.out _ Hb2.out).2 (show w.heap.size ≤ w.heap.size + 1 + 1 by omega) (.bool false) (.bool U) (.bool false))
      go_wp2_with fail
      (try simp only [Exit.inBlock, Exit.then])
      refine bodyPost_ret (results_cell_row rfl _ _ (w.heap.size + 1 + 1) 37 #[.bool false, .bool U, .bool false] (0, 0) _ rfl HS.out Tryd.underlying37 rfl (by kernel_rfl)) rfl ?_
      rw [HEq.out]
      exact ⟨rfl, HE.out⟩
    · by_cases hA : 0 ≤ A
      · rcases va_cases lk ln ls k n s with ⟨rfl, rfl, rfl⟩ | h | ⟨rfl, h⟩ | ⟨rfl, rfl, h⟩
        · rcases va_cases mk mn ms lk ln ls with ⟨rfl, rfl, rfl⟩ | h | ⟨rfl, h⟩ | ⟨rfl, rfl, h⟩
          · have k2 : (mk != 0) = true := by rw [bne_iff_ne]; exact hk
            go_enter Tryd.func71, Tryd.ntmps71
            go_wp2_with fail
            rw [HW.out]
            refine (hun.out _).mono ?_
            rintro e w1 ⟨rfl, hb1⟩
            have hz1 := hb1.size
            rw [hW0] at hz1
            have hb2 : Below W.heap.size W (w1.alloc (.cells #[.bool false, .bool U, .bool false] 37)) := hb1.alloc hb1.size _
            have hO1 := T3At.new w1 37 ⟨false, U, false⟩
            have Hb2 := Lib.hid hb2
            have HO1 := Lib.hid hO1
            obtain ⟨c0, c1, c2, c3, c4, c5, c6, c7, c8, c9, c10, c11, c12, c13, c14⟩ := (Hcc.out _ hb2).1
            clear hb1 hb2 hO1
            go_wp2_with fail
            with_reducible refine (hcA.out _).mono ?_
            rintro e w2 ⟨rfl, hbq⟩
            have Hb2w := Lib.hid (Hb2.out.trans (hbq.mono Hb2.out.size))
            have HO2 := Lib.hid (HO1.out.below hbq)
            clear c0 c1 c2 c3 c4 c5 c6 c7 c8 c9 c10 c11 c12 c13 c14
            obtain ⟨d0, d1, d2, d3, d4, d5, d6, d7, d8, d9, d10, d11, d12, d13, d14⟩ := (Hcc.out _ Hb2w.out).1
            clear hbq
            go_wp2_with fail
            with_reducible refine (hcB.out _).mono ?_
            rintro e w3 ⟨rfl, hbq⟩
            have Hb3w := Lib.hid (Hb2w.out.trans (hbq.mono Hb2w.out.size))
            have HO3 := Lib.hid (HO2.out.below hbq)
            clear d0 d1 d2 d3 d4 d5 d6 d7 d8 d9 d10 d11 d12 d13 d14
            obtain ⟨e0, e1, e2, e3, e4, e5, e6, e7, e8, e9, e10, e11, e12, e13, e14⟩ := (Hcc.out _ Hb3w.out).1
            clear hbq
            have hEq := hv1.out (false) (decide (B ≤ 0)) (by simp) (by simp [hA]) ⟨h3, hk⟩
            have HEq := Lib.hid hEq
            clear hEq hv0 hv1
            have HS0 : Hid (T3At (w3.setCell ⟨w1.heap.size, 2, none⟩ (.bool (decide (B ≤ 0)))) w1.heap.size 37 ⟨false, U, decide (B ≤ 0)⟩) := Blk.set_ HO3.out 2 (.bool (decide (B ≤ 0)))
            have HS1 : Hid (T3At ((w3.setCell ⟨w1.heap.size, 2, none⟩ (.bool (decide (B ≤ 0)))).setCell ⟨w1.heap.size, 0, none⟩ (.bool (false))) w1.heap.size 37 ⟨false, U, decide (B ≤ 0)⟩) := Blk.set_ HS0.out 0 (.bool (false))
            have hzr : Blk ((w3.setCell ⟨w1.heap.size, 2, none⟩ (.bool (decide (B ≤ 0)))).setCell ⟨w1.heap.size, 0, none⟩ (.bool (false))) (w.heap.size + 1 + 1) 37 [.bool false, .bool false, .bool false] := ((Hz.out.below Hb3w.out).far (show w.heap.size + 1 + 1 ≠ w1.heap.size by omega) _).far (show w.heap.size + 1 + 1 ≠ w1.heap.size by omega) _
            have HS := Lib.hid (Blk.three hzr (.bool (false)) (.bool U) (.bool (decide (B ≤ 0))))
            have HE := Lib.hid (below_three (below_set (below_set (Hcc.out _ Hb3w.out).2 (show w.heap.size ≤ w1.heap.size by omega) 2 (.bool (decide (B ≤ 0)))) (show w.heap.size ≤ w1.heap.size by omega) 0 (.bool (false))) (show w.heap.size ≤ w.heap.size + 1 + 1 by omega) (.bool (false)) (.bool U) (.bool (decide (B ≤ 0))))
            obtain ⟨o0, o1, o2⟩ := HO3.out.cells
            have oF := fun i => HO3.out.frozen i
            clear hzr
            go_wp2_with fail
            (try simp only [Exit.inBlock, Exit.then])
            refine bodyPost_ret (results_cell_row rfl _ _ (w.heap.size + 1 + 1) 37 #[.bool (false), .bool U, .bool (decide (B ≤ 0))] (0, 0) _ rfl HS.out Tryd.underlying37 rfl (by kernel_rfl)) rfl ?_
            rw [HEq.out]
            exact ⟨rfl, HE.out⟩
          · have k2 : (lk != 0) = true := by rw [bne_iff_ne]; exact hk
            go_enter Tryd.func71, Tryd.ntmps71
            go_wp2_with fail
            rw [HW.out]
            refine (hun.out _).mono ?_
            rintro e w1 ⟨rfl, hb1⟩
            have hz1 := hb1.size
            rw [hW0] at hz1
            have hb2 : Below W.heap.size W (w1.alloc (.cells #[.bool false, .bool U, .bool false] 37)) := hb1.alloc hb1.size _
            have hO1 := T3At.new w1 37 ⟨false, U, false⟩
            have Hb2 := Lib.hid hb2
            have HO1 := Lib.hid hO1
            obtain ⟨c0, c1, c2, c3, c4, c5, c6, c7, c8, c9, c10, c11, c12, c13, c14⟩ := (Hcc.out _ hb2).1
            clear hb1 hb2 hO1
            go_wp2_with fail
            with_reducible refine (hcA.out _).mono ?_
            rintro e w2 ⟨rfl, hbq⟩
            have Hb2w := Lib.hid (Hb2.out.trans (hbq.mono Hb2.out.size))
            have HO2 := Lib.hid (HO1.out.below hbq)
            clear c0 c1 c2 c3 c4 c5 c6 c7 c8 c9 c10 c11 c12 c13 c14
            obtain ⟨d0, d1, d2, d3, d4, d5, d6, d7, d8, d9, d10, d11, d12, d13, d14⟩ := (Hcc.out _ Hb2w.out).1
            clear hbq
            go_wp2_with fail
            with_reducible refine (hcB.out _).mono ?_
            rintro e w3 ⟨rfl, hbq⟩
            have Hb3w := Lib.hid (Hb2w.out.trans (hbq.mono Hb2w.out.size))
            have HO3 := Lib.hid (HO2.out.below hbq)
            clear d0 d1 d2 d3 d4 d5 d6 d7 d8 d9 d10 d11 d12 d13 d14
            obtain ⟨e0, e1, e2, e3, e4, e5, e6, e7, e8, e9, e10, e11, e12, e13, e14⟩ := (Hcc.out _ Hb3w.out).1
            clear hbq
            have hEq := hv1.out (true) (decide (B ≤ 0)) (by simp [Va.mk.injEq, Ne.symm h, h]) (by simp [hA]) ⟨h3, hk⟩
            have HEq := Lib.hid hEq
            clear hEq hv0 hv1
            have HS0 : Hid (T3At (w3.setCell ⟨w1.heap.size, 2, none⟩ (.bool (decide (B ≤ 0)))) w1.heap.size 37 ⟨false, U, decide (B ≤ 0)⟩) := Blk.set_ HO3.out 2 (.bool (decide (B ≤ 0)))
            have HS1 : Hid (T3At ((w3.setCell ⟨w1.heap.size, 2, none⟩ (.bool (decide (B ≤ 0)))).setCell ⟨w1.heap.size, 0, none⟩ (.bool (true))) w1.heap.size 37 ⟨true, U, decide (B ≤ 0)⟩) := Blk.set_ HS0.out 0 (.bool (true))
            have hzr : Blk ((w3.setCell ⟨w1.heap.size, 2, none⟩ (.bool (decide (B ≤ 0)))).setCell ⟨w1.heap.size, 0, none⟩ (.bool (true))) (w.heap.size + 1 + 1) 37 [.bool false, .bool false, .bool false] := ((Hz.out.below Hb3w.out).far (show w.heap.size + 1 + 1 ≠ w1.heap.size by omega) _).far (show w.heap.size + 1 + 1 ≠ w1.heap.size by omega) _
            have HS := Lib.hid (Blk.three hzr (.bool (true)) (.bool U) (.bool (decide (B ≤ 0))))
            have HE := Lib.hid (below_three (below_set (below_set (Hcc.out _ Hb3w.out).2 (show w.heap.size ≤ w1.heap.size by omega) 2 (.bool (decide (B ≤ 0)))) (show w.heap.size ≤ w1.heap.size by omega) 0 (.bool (true))) (show w.heap.size ≤ w.heap.size + 1 + 1 by omega) (.bool (true)) (.bool U) (.bool (decide (B ≤ 0))))
            obtain ⟨o0, o1, o2⟩ := HO3.out.cells
            have oF := fun i => HO3.out.frozen i
            clear hzr
            go_wp2_with fail
            (try simp only [Exit.inBlock, Exit.then])
            refine bodyPost_ret (results_cell_row rfl _ _ (w.heap.size + 1 + 1) 37 #[.bool (true), .bool U, .bool (decide (B ≤ 0))] (0, 0) _ rfl HS.out Tryd.underlying37 rfl (by kernel_rfl)) rfl ?_
            rw [HEq.out]
            exact ⟨rfl, HE.out⟩
          · have k2 : (mk != 0) = true := by rw [bne_iff_ne]; exact hk
            go_enter Tryd.func71, Tryd.ntmps71
            go_wp2_with fail
            rw [HW.out]
            refine (hun.out _).mono ?_
            rintro e w1 ⟨rfl, hb1⟩
            have hz1 := hb1.size
            rw [hW0] at hz1
            have hb2 : Below W.heap.size W (w1.alloc (.cells #[.bool false, .bool U, .bool false] 37)) := hb1.alloc hb1.size _
            have hO1 := T3At.new w1 37 ⟨false, U, false⟩
            have Hb2 := Lib.hid hb2
            have HO1 := Lib.hid hO1
            obtain ⟨c0, c1, c2, c3, c4, c5, c6, c7, c8, c9, c10, c11, c12, c13, c14⟩ := (Hcc.out _ hb2).1
            clear hb1 hb2 hO1
            go_wp2_with fail
            with_reducible refine (hcA.out _).mono ?_
            rintro e w2 ⟨rfl, hbq⟩
            have Hb2w := Lib.hid (Hb2.out.trans (hbq.mono Hb2.out.size))
            have HO2 := Lib.hid (HO1.out.below hbq)
            clear c0 c1 c2 c3 c4 c5 c6 c7 c8 c9 c10 c11 c12 c13 c14
            obtain ⟨d0, d1, d2, d3, d4, d5, d6, d7, d8, d9, d10, d11, d12, d13, d14⟩ := (Hcc.out _ Hb2w.out).1
            clear hbq
            go_wp2_with fail
            with_reducible refine (hcB.out _).mono ?_
            rintro e w3 ⟨rfl, hbq⟩
            have Hb3w := Lib.hid (Hb2w.out.trans (hbq.mono Hb2w.out.size))
            have HO3 := Lib.hid (HO2.out.below hbq)
            clear d0 d1 d2 d3 d4 d5 d6 d7 d8 d9 d10 d11 d12 d13 d14
            obtain ⟨e0, e1, e2, e3, e4, e5, e6, e7, e8, e9, e10, e11, e12, e13, e14⟩ := (Hcc.out _ Hb3w.out).1
            clear hbq
            have hEq := hv1.out (true) (decide (B ≤ 0)) (by simp [Va.mk.injEq, Ne.symm h, h]) (by simp [hA]) ⟨h3, hk⟩
            have HEq := Lib.hid hEq
            clear hEq hv0 hv1
            have HS0 : Hid (T3At (w3.setCell ⟨w1.heap.size, 2, none⟩ (.bool (decide (B ≤ 0)))) w1.heap.size 37 ⟨false, U, decide (B ≤ 0)⟩) := Blk.set_ HO3.out 2 (.bool (decide (B ≤ 0)))
            have HS1 : Hid (T3At ((w3.setCell ⟨w1.heap.size, 2, none⟩ (.bool (decide (B ≤ 0)))).setCell ⟨w1.heap.size, 0, none⟩ (.bool (true))) w1.heap.size 37 ⟨true, U, decide (B ≤ 0)⟩) := Blk.set_ HS0.out 0 (.bool (true))
            have hzr : Blk ((w3.setCell ⟨w1.heap.size, 2, none⟩ (.bool (decide (B ≤ 0)))).setCell ⟨w1.heap.size, 0, none⟩ (.bool (true))) (w.heap.size + 1 + 1) 37 [.bool false, .bool false, .bool false] := ((Hz.out.below Hb3w.out).far (show w.heap.size + 1 + 1 ≠ w1.heap.size by omega) _).far (show w.heap.size + 1 + 1 ≠ w1.heap.size by omega) _
            have HS := Lib.hid (Blk.three hzr (.bool (true)) (.bool U) (.bool (decide (B ≤ 0))))
            have HE := Lib.hid (below_three (below_set (below_set (Hcc.out _ Hb3w.out).2 (show w.heap.size ≤ w1.heap.size by omega) 2 (.bool (decide (B ≤ 0)))) (show w.heap.size ≤ w1.heap.size by omega) 0 (.bool (true))) (show w.heap.size ≤ w.heap.size + 1 + 1 by omega) (.bool (true)) (.bool U) (.bool (decide (B ≤ 0))))
            obtain ⟨o0, o1, o2⟩ := HO3.out.cells
            have oF := fun i => HO3.out.frozen i
            clear hzr
            go_wp2_with fail
            (try simp only [Exit.inBlock, Exit.then])
            refine bodyPost_ret (results_cell_row rfl _ _ (w.heap.size + 1 + 1) 37 #[.bool (true), .bool U, .bool (decide (B ≤ 0))] (0, 0) _ rfl HS.out Tryd.underlying37 rfl (by kernel_rfl)) rfl ?_
            rw [HEq.out]
            exact ⟨rfl, HE.out⟩
          · have s1 : ¬ St8 ms = St8 ls := fun e => h (St8_inj e)
            have s2 := St8_cmp ms ls
            have s3 := St8_eq ms ls
            rw [decide_eq_false h] at s2 s3
            have k2 : (mk != 0) = true := by rw [bne_iff_ne]; exact hk
            go_enter Tryd.func71, Tryd.ntmps71
            go_wp2_with fail
            rw [HW.out]
            refine (hun.out _).mono ?_
            rintro e w1 ⟨rfl, hb1⟩
            have hz1 := hb1.size
            rw [hW0] at hz1
            have hb2 : Below W.heap.size W (w1.alloc (.cells #[.bool false, .bool U, .bool false] 37)) := hb1.alloc hb1.size _
            have hO1 := T3At.new w1 37 ⟨false, U, false⟩
            have Hb2 := Lib.hid hb2
            have HO1 := Lib.hid hO1
            obtain ⟨c0, c1, c2, c3, c4, c5, c6, c7, c8, c9, c10, c11, c12, c13, c14⟩ := (Hcc.out _ hb2).1
            clear hb1 hb2 hO1
            go_wp2_with fail
            with_reducible refine (hcA.out _).mono ?_
            rintro e w2 ⟨rfl, hbq⟩
            have Hb2w := Lib.hid (Hb2.out.trans (hbq.mono Hb2.out.size))
            have HO2 := Lib.hid (HO1.out.below hbq)
            clear c0 c1 c2 c3 c4 c5 c6 c7 c8 c9 c10 c11 c12 c13 c14
            obtain ⟨d0, d1, d2, d3, d4, d5, d6, d7, d8, d9, d10, d11, d12, d13, d14⟩ := (Hcc.out _ Hb2w.out).1
            clear hbq
            go_wp2_with fail
            with_reducible refine (hcB.out _).mono ?_
            rintro e w3 ⟨rfl, hbq⟩
            have Hb3w := Lib.hid (Hb2w.out.trans (hbq.mono Hb2w.out.size))
            have HO3 := Lib.hid (HO2.out.below hbq)
            clear d0 d1 d2 d3 d4 d5 d6 d7 d8 d9 d10 d11 d12 d13 d14
            obtain ⟨e0, e1, e2, e3, e4, e5, e6, e7, e8, e9, e10, e11, e12, e13, e14⟩ := (Hcc.out _ Hb3w.out).1
            clear hbq
            have hEq := hv1.out (true) (decide (B ≤ 0)) (by simp [Va.mk.injEq, Ne.symm h, h]) (by simp [hA]) ⟨h3, hk⟩
            have HEq := Lib.hid hEq
            clear hEq hv0 hv1
            have HS0 : Hid (T3At (w3.setCell ⟨w1.heap.size, 2, none⟩ (.bool (decide (B ≤ 0)))) w1.heap.size 37 ⟨false, U, decide (B ≤ 0)⟩) := Blk.set_ HO3.out 2 (.bool (decide (B ≤ 0)))
            have HS1 : Hid (T3At ((w3.setCell ⟨w1.heap.size, 2, none⟩ (.bool (decide (B ≤ 0)))).setCell ⟨w1.heap.size, 0, none⟩ (.bool (true))) w1.heap.size 37 ⟨true, U, decide (B ≤ 0)⟩) := Blk.set_ HS0.out 0 (.bool (true))
            have hzr : Blk ((w3.setCell ⟨w1.heap.size, 2, none⟩ (.bool (decide (B ≤ 0)))).setCell ⟨w1.heap.size, 0, none⟩ (.bool (true))) (w.heap.size + 1 + 1) 37 [.bool false, .bool false, .bool false] := ((Hz.out.below Hb3w.out).far (show w.heap.size + 1 + 1 ≠ w1.heap.size by omega) _).far (show w.heap.size + 1 + 1 ≠ w1.heap.size by omega) _
            have HS := Lib.hid (Blk.three hzr (.bool (true)) (.bool U) (.bool (decide (B ≤ 0))))
            have HE := Lib.hid (below_three (below_set (below_set (Hcc.out _ Hb3w.out).2 (show w.heap.size ≤ w1.heap.size by omega) 2 (.bool (decide (B ≤ 0)))) (show w.heap.size ≤ w1.heap.size by omega) 0 (.bool (true))) (show w.heap.size ≤ w.heap.size + 1 + 1 by omega) (.bool (true)) (.bool U) (.bool (decide (B ≤ 0))))
            obtain ⟨o0, o1, o2⟩ := HO3.out.cells
            have oF := fun i => HO3.out.frozen i
            clear hzr
            go_wp2_with fail
            (try simp only [Exit.inBlock, Exit.then])
            refine bodyPost_ret (results_cell_row rfl _ _ (w.heap.size + 1 + 1) 37 #[.bool (true), .bool U, .bool (decide (B ≤ 0))] (0, 0) _ rfl HS.out Tryd.underlying37 rfl (by kernel_rfl)) rfl ?_
            rw [HEq.out]
            exact ⟨rfl, HE.out⟩
        · have k2 : (k != 0) = true := by rw [bne_iff_ne]; exact hk
          go_enter Tryd.func71, Tryd.ntmps71
          go_wp2_with fail
          rw [HW.out]
          refine (hun.out _).mono ?_
          rintro e w1 ⟨rfl, hb1⟩
          have hz1 := hb1.size
          rw [hW0] at hz1
          have hb2 : Below W.heap.size W (w1.alloc (.cells #[.bool false, .bool U, .bool false] 37)) := hb1.alloc hb1.size _
          have hO1 := T3At.new w1 37 ⟨false, U, false⟩
          have Hb2 := Lib.hid hb2
          have HO1 := Lib.hid hO1
          obtain ⟨c0, c1, c2, c3, c4, c5, c6, c7, c8, c9, c10, c11, c12, c13, c14⟩ := (Hcc.out _ hb2).1
          clear hb1 hb2 hO1
          go_wp2_with fail
          with_reducible refine (hcA.out _).mono ?_
          rintro e w2 ⟨rfl, hbq⟩
          have Hb2w := Lib.hid (Hb2.out.trans (hbq.mono Hb2.out.size))
          have HO2 := Lib.hid (HO1.out.below hbq)
          clear c0 c1 c2 c3 c4 c5 c6 c7 c8 c9 c10 c11 c12 c13 c14
          obtain ⟨d0, d1, d2, d3, d4, d5, d6, d7, d8, d9, d10, d11, d12, d13, d14⟩ := (Hcc.out _ Hb2w.out).1
          clear hbq
          go_wp2_with fail
          with_reducible refine (hcB.out _).mono ?_
          rintro e w3 ⟨rfl, hbq⟩
          have Hb3w := Lib.hid (Hb2w.out.trans (hbq.mono Hb2w.out.size))
          have HO3 := Lib.hid (HO2.out.below hbq)
          clear d0 d1 d2 d3 d4 d5 d6 d7 d8 d9 d10 d11 d12 d13 d14
          obtain ⟨e0, e1, e2, e3, e4, e5, e6, e7, e8, e9, e10, e11, e12, e13, e14⟩ := (Hcc.out _ Hb3w.out).1
          clear hbq
          have hEq := hv1.out (true) (decide (B ≤ 0)) (by simp [Va.mk.injEq, Ne.symm h, h]) (by simp [hA]) ⟨h3, hk⟩
          have HEq := Lib.hid hEq
          clear hEq hv0 hv1
          have HS0 : Hid (T3At (w3.setCell ⟨w1.heap.size, 2, none⟩ (.bool (decide (B ≤ 0)))) w1.heap.size 37 ⟨false, U, decide (B ≤ 0)⟩) := Blk.set_ HO3.out 2 (.bool (decide (B ≤ 0)))
          have HS1 : Hid (T3At ((w3.setCell ⟨w1.heap.size, 2, none⟩ (.bool (decide (B ≤ 0)))).setCell ⟨w1.heap.size, 0, none⟩ (.bool (true))) w1.heap.size 37 ⟨true, U, decide (B ≤ 0)⟩) := Blk.set_ HS0.out 0 (.bool (true))
          have hzr : Blk ((w3.setCell ⟨w1.heap.size, 2, none⟩ (.bool (decide (B ≤ 0)))).setCell ⟨w1.heap.size, 0, none⟩ (.bool (true))) (w.heap.size + 1 + 1) 37 [.bool false, .bool false, .bool false] := ((Hz.out.below Hb3w.out).far (show w.heap.size + 1 + 1 ≠ w1.heap.size by omega) _).far (show w.heap.size + 1 + 1 ≠ w1.heap.size by omega) _
          have HS := Lib.hid (Blk.three hzr (.bool (true)) (.bool U) (.bool (decide (B ≤ 0))))
          have HE := Lib.hid (below_three (below_set (below_set (Hcc.out _ Hb3w.out).2 (show w.heap.size ≤ w1.heap.size by omega) 2 (.bool (decide (B ≤ 0)))) (show w.heap.size ≤ w1.heap.size by omega) 0 (.bool (true))) (show w.heap.size ≤ w.heap.size + 1 + 1 by omega) (.bool (true)) (.bool U) (.bool (decide (B ≤ 0))))
          obtain ⟨o0, o1, o2⟩ := HO3.out.cells
          have oF := fun i => HO3.out.frozen i
          clear hzr
          go_wp2_with fail
          (try simp only [Exit.inBlock, Exit.then])
          refine bodyPost_ret (results_cell_row rfl _ _ (w.heap.size + 1 + 1) 37 #[.bool (true), .bool U, .bool (decide (B ≤ 0))] (0, 0) _ rfl HS.out Tryd.underlying37 rfl (by kernel_rfl)) rfl ?_
          rw [HEq.out]
          exact ⟨rfl, HE.out⟩
        · have k2 : (lk != 0) = true := by rw [bne_iff_ne]; exact hk
          go_enter Tryd.func71, Tryd.ntmps71
          go_wp2_with fail
          rw [HW.out]
          refine (hun.out _).mono ?_
          rintro e w1 ⟨rfl, hb1⟩
          have hz1 := hb1.size
          rw [hW0] at hz1
          have hb2 : Below W.heap.size W (w1.alloc (.cells #[.bool false, .bool U, .bool false] 37)) := hb1.alloc hb1.size _
          have hO1 := T3At.new w1 37 ⟨false, U, false⟩
          have Hb2 := Lib.hid hb2
          have HO1 := Lib.hid hO1
          obtain ⟨c0, c1, c2, c3, c4, c5, c6, c7, c8, c9, c10, c11, c12, c13, c14⟩ := (Hcc.out _ hb2).1
          clear hb1 hb2 hO1
          go_wp2_with fail
          with_reducible refine (hcA.out _).mono ?_
          rintro e w2 ⟨rfl, hbq⟩
          have Hb2w := Lib.hid (Hb2.out.trans (hbq.mono Hb2.out.size))
          have HO2 := Lib.hid (HO1.out.below hbq)
          clear c0 c1 c2 c3 c4 c5 c6 c7 c8 c9 c10 c11 c12 c13 c14
          obtain ⟨d0, d1, d2, d3, d4, d5, d6, d7, d8, d9, d10, d11, d12, d13, d14⟩ := (Hcc.out _ Hb2w.out).1
          clear hbq
          go_wp2_with fail
          with_reducible refine (hcB.out _).mono ?_
          rintro e w3 ⟨rfl, hbq⟩
          have Hb3w := Lib.hid (Hb2w.out.trans (hbq.mono Hb2w.out.size))
          have HO3 := Lib.hid (HO2.out.below hbq)
          clear d0 d1 d2 d3 d4 d5 d6 d7 d8 d9 d10 d11 d12 d13 d14
          obtain ⟨e0, e1, e2, e3, e4, e5, e6, e7, e8, e9, e10, e11, e12, e13, e14⟩ := (Hcc.out _ Hb3w.out).1
          clear hbq
          have hEq := hv1.out (true) (decide (B ≤ 0)) (by simp [Va.mk.injEq, Ne.symm h, h]) (by simp [hA]) ⟨h3, hk⟩
          have HEq := Lib.hid hEq
          clear hEq hv0 hv1
          have HS0 : Hid (T3At (w3.setCell ⟨w1.heap.size, 2, none⟩ (.bool (decide (B ≤ 0)))) w1.heap.size 37 ⟨false, U, decide (B ≤ 0)⟩) := Blk.set_ HO3.out 2 (.bool (decide (B ≤ 0)))
          have HS1 : Hid (T3At ((w3.setCell ⟨w1.heap.size, 2, none⟩ (.bool (decide (B ≤ 0)))).setCell ⟨w1.heap.size, 0, none⟩ (.bool (true))) w1.heap.size 37 ⟨true, U, decide (B ≤ 0)⟩) := Blk.set_ HS0.out 0 (.bool (true))
          have hzr : Blk ((w3.setCell ⟨w1.heap.size, 2, none⟩ (.bool (decide (B ≤ 0)))).setCell ⟨w1.heap.size, 0, none⟩ (.bool (true))) (w.heap.size + 1 + 1) 37 [.bool false, .bool false, .bool false] := ((Hz.out.below Hb3w.out).far (show w.heap.size + 1 + 1 ≠ w1.heap.size by omega) _).far (show w.heap.size + 1 + 1 ≠ w1.heap.size by omega) _
          have HS := Lib.hid (Blk.three hzr (.bool (true)) (.bool U) (.bool (decide (B ≤ 0))))
          have HE := Lib.hid (below_three (below_set (below_set (Hcc.out _ Hb3w.out).2 (show w.heap.size ≤ w1.heap.size by omega) 2 (.bool (decide (B ≤ 0)))) (show w.heap.size ≤ w1.heap.size by omega) 0 (.bool (true))) (show w.heap.size ≤ w.heap.size + 1 + 1 by omega) (.bool (true)) (.bool U) (.bool (decide (B ≤ 0))))
          obtain ⟨o0, o1, o2⟩ := HO3.out.cells
          have oF := fun i => HO3.out.frozen i
          clear hzr
          go_wp2_with fail
          (try simp only [Exit.inBlock, Exit.then])
          refine bodyPost_ret (results_cell_row rfl _ _ (w.heap.size + 1 + 1) 37 #[.bool (true), .bool U, .bool (decide (B ≤ 0))] (0, 0) _ rfl HS.out Tryd.underlying37 rfl (by kernel_rfl)) rfl ?_
          rw [HEq.out]
          exact ⟨rfl, HE.out⟩
        · have s1 : ¬ St8 ls = St8 s := fun e => h (St8_inj e)
          have s2 := St8_cmp ls s
          have s3 := St8_eq ls s
          rw [decide_eq_false h] at s2 s3
          have k2 : (lk != 0) = true := by rw [bne_iff_ne]; exact hk
          go_enter Tryd.func71, Tryd.ntmps71
          go_wp2_with fail
          rw [HW.out]
          refine (hun.out _).mono ?_
          rintro e w1 ⟨rfl, hb1⟩
          have hz1 := hb1.size
          rw [hW0] at hz1
          have hb2 : Below W.heap.size W (w1.alloc (.cells #[.bool false, .bool U, .bool false] 37)) := hb1.alloc hb1.size _
          have hO1 := T3At.new w1 37 ⟨false, U, false⟩
          have Hb2 := Lib.hid hb2
          have HO1 := Lib.hid hO1
          obtain ⟨c0, c1, c2, c3, c4, c5, c6, c7, c8, c9, c10, c11, c12, c13, c14⟩ := (Hcc.out _ hb2).1
          clear hb1 hb2 hO1
          go_wp2_with fail
          with_reducible refine (hcA.out _).mono ?_
          rintro e w2 ⟨rfl, hbq⟩
          have Hb2w := Lib.hid (Hb2.out.trans (hbq.mono Hb2.out.size))
          have HO2 := Lib.hid (HO1.out.below hbq)
          clear c0 c1 c2 c3 c4 c5 c6 c7 c8 c9 c10 c11 c12 c13 c14
          obtain ⟨d0, d1, d2, d3, d4, d5, d6, d7, d8, d9, d10, d11, d12, d13, d14⟩ := (Hcc.out _ Hb2w.out).1
          clear hbq
          go_wp2_with fail
          with_reducible refine (hcB.out _).mono ?_
          rintro e w3 ⟨rfl, hbq⟩
          have Hb3w := Lib.hid (Hb2w.out.trans (hbq.mono Hb2w.out.size))
          have HO3 := Lib.hid (HO2.out.below hbq)
          clear d0 d1 d2 d3 d4 d5 d6 d7 d8 d9 d10 d11 d12 d13 d14
          obtain ⟨e0, e1, e2, e3, e4, e5, e6, e7, e8, e9, e10, e11, e12, e13, e14⟩ := (Hcc.out _ Hb3w.out).1
          clear hbq
          have hEq := hv1.out (true) (decide (B ≤ 0)) (by simp [Va.mk.injEq, Ne.symm h, h]) (by simp [hA]) ⟨h3, hk⟩
          have HEq := Lib.hid hEq
          clear hEq hv0 hv1
          have HS0 : Hid (T3At (w3.setCell ⟨w1.heap.size, 2, none⟩ (.bool (decide (B ≤ 0)))) w1.heap.size 37 ⟨false, U, decide (B ≤ 0)⟩) := Blk.set_ HO3.out 2 (.bool (decide (B ≤ 0)))
          have HS1 : Hid (T3At ((w3.setCell ⟨w1.heap.size, 2, none⟩ (.bool (decide (B ≤ 0)))).setCell ⟨w1.heap.size, 0, none⟩ (.bool (true))) w1.heap.size 37 ⟨true, U, decide (B ≤ 0)⟩) := Blk.set_ HS0.out 0 (.bool (true))
          have hzr : Blk ((w3.setCell ⟨w1.heap.size, 2, none⟩ (.bool (decide (B ≤ 0)))).setCell ⟨w1.heap.size, 0, none⟩ (.bool (true))) (w.heap.size + 1 + 1) 37 [.bool false, .bool false, .bool false] := ((Hz.out.below Hb3w.out).far (show w.heap.size + 1 + 1 ≠ w1.heap.size by omega) _).far (show w.heap.size + 1 + 1 ≠ w1.heap.size by omega) _
          have HS := Lib.hid (Blk.three hzr (.bool (true)) (.bool U) (.bool (decide (B ≤ 0))))
          have HE := Lib.hid (below_three (below_set (below_set (Hcc.out _ Hb3w.out).2 (show w.heap.size ≤ w1.heap.size by omega) 2 (.bool (decide (B ≤ 0)))) (show w.heap.size ≤ w1.heap.size by omega) 0 (.bool (true))) (show w.heap.size ≤ w.heap.size + 1 + 1 by omega) (.bool (true)) (.bool U) (.bool (decide (B ≤ 0))))
          obtain ⟨o0, o1, o2⟩ := HO3.out.cells
          have oF := fun i => HO3.out.frozen i
          clear hzr
          go_wp2_with fail
          (try simp only [Exit.inBlock, Exit.then])
          refine bodyPost_ret (results_cell_row rfl _ _ (w.heap.size + 1 + 1) 37 #[.bool (true), .bool U, .bool (decide (B ≤ 0))] (0, 0) _ rfl HS.out Tryd.underlying37 rfl (by kernel_rfl)) rfl ?_
          rw [HEq.out]
          exact ⟨rfl, HE.out⟩
      · have gA : decide (0 ≤ A) = false := decide_eq_false hA
        rcases va_cases lk ln ls k n s with ⟨rfl, rfl, rfl⟩ | h | ⟨rfl, h⟩ | ⟨rfl, rfl, h⟩
        · rcases va_cases mk mn ms lk ln ls with ⟨rfl, rfl, rfl⟩ | h | ⟨rfl, h⟩ | ⟨rfl, rfl, h⟩
          · have k2 : (mk != 0) = true := by rw [bne_iff_ne]; exact hk
            go_enter Tryd.func71, Tryd.ntmps71
            go_wp2_with fail
            rw [HW.out]
            refine (hun.out _).mono ?_
            rintro e w1 ⟨rfl, hb1⟩
            have hz1 := hb1.size
            rw [hW0] at hz1
            have hb2 : Below W.heap.size W (w1.alloc (.cells #[.bool false, .bool U, .bool false] 37)) := hb1.alloc hb1.size _
            have hO1 := T3At.new w1 37 ⟨false, U, false⟩
            have Hb2 := Lib.hid hb2
            have HO1 := Lib.hid hO1
            obtain ⟨c0, c1, c2, c3, c4, c5, c6, c7, c8, c9, c10, c11, c12, c13, c14⟩ := (Hcc.out _ hb2).1
            clear hb1 hb2 hO1
            go_wp2_with fail
            with_reducible refine (hcA.out _).mono ?_
            rintro e w2 ⟨rfl, hbq⟩
            have Hb2w := Lib.hid (Hb2.out.trans (hbq.mono Hb2.out.size))
            have HO2 := Lib.hid (HO1.out.below hbq)
            clear c0 c1 c2 c3 c4 c5 c6 c7 c8 c9 c10 c11 c12 c13 c14
            obtain ⟨d0, d1, d2, d3, d4, d5, d6, d7, d8, d9, d10, d11, d12, d13, d14⟩ := (Hcc.out _ Hb2w.out).1
            clear hbq
            have hEq := hv1.out (false) (false) (by simp) (decide_eq_false (fun hh => absurd hh.1 (by omega))).symm ⟨h3, hk⟩
            have HEq := Lib.hid hEq
            clear hEq hv0 hv1
            have HS0 : Hid (T3At (w2.setCell ⟨w1.heap.size, 2, none⟩ (.bool (false))) w1.heap.size 37 ⟨false, U, false⟩) := Blk.set_ HO2.out 2 (.bool (false))
            have HS1 : Hid (T3At ((w2.setCell ⟨w1.heap.size, 2, none⟩ (.bool (false))).setCell ⟨w1.heap.size, 0, none⟩ (.bool (false))) w1.heap.size 37 ⟨false, U, false⟩) := Blk.set_ HS0.out 0 (.bool (false))
            have hzr : Blk ((w2.setCell ⟨w1.heap.size, 2, none⟩ (.bool (false))).setCell ⟨w1.heap.size, 0, none⟩ (.bool (false))) (w.heap.size + 1 + 1) 37 [.bool false, .bool false, .bool false] := ((Hz.out.below Hb2w.out).far (show w.heap.size + 1 + 1 ≠ w1.heap.size by omega) _).far (show w.heap.size + 1 + 1 ≠ w1.heap.size by omega) _
            have HS := Lib.hid (Blk.three hzr (.bool (false)) (.bool U) (.bool (false)))
            have HE := Lib.hid (below_three (below_set (below_set (Hcc.out _ Hb2w.out).2 (show w.heap.size ≤ w1.heap.size by omega) 2 (.bool (false))) (show w.heap.size ≤ w1.heap.size by omega) 0 (.bool (false))) (show w.heap.size ≤ w.heap.size + 1 + 1 by omega) (.bool (false)) (.bool U) (.bool (false)))
            obtain ⟨o0, o1, o2⟩ := HO2.out.cells
            have oF := fun i => HO2.out.frozen i
            clear hzr
            go_wp2_with fail
            (try simp only [Exit.inBlock, Exit.then])
            refine bodyPost_ret (results_cell_row rfl _ _ (w.heap.size + 1 + 1) 37 #[.bool (false), .bool U, .bool (false)] (0, 0) _ rfl HS.out Tryd.underlying37 rfl (by kernel_rfl)) rfl ?_
            rw [HEq.out]
            exact ⟨rfl, HE.out⟩
          · have k2 : (lk != 0) = true := by rw [bne_iff_ne]; exact hk
            go_enter Tryd.func71, Tryd.ntmps71
            go_wp2_with fail
            rw [HW.out]
            refine (hun.out _).mono ?_
            rintro e w1 ⟨rfl, hb1⟩
            have hz1 := hb1.size
            rw [hW0] at hz1
            have hb2 : Below W.heap.size W (w1.alloc (.cells #[.bool false, .bool U, .bool false] 37)) := hb1.alloc hb1.size _
            have hO1 := T3At.new w1 37 ⟨false, U, false⟩
            have Hb2 := Lib.hid hb2
            have HO1 := Lib.hid hO1
            obtain ⟨c0, c1, c2, c3, c4, c5, c6, c7, c8, c9, c10, c11, c12, c13, c14⟩ := (Hcc.out _ hb2).1
            clear hb1 hb2 hO1
            go_wp2_with fail
            with_reducible refine (hcA.out _).mono ?_
            rintro e w2 ⟨rfl, hbq⟩
            have Hb2w := Lib.hid (Hb2.out.trans (hbq.mono Hb2.out.size))
            have HO2 := Lib.hid (HO1.out.below hbq)
            clear c0 c1 c2 c3 c4 c5 c6 c7 c8 c9 c10 c11 c12 c13 c14
            obtain ⟨d0, d1, d2, d3, d4, d5, d6, d7, d8, d9, d10, d11, d12, d13, d14⟩ := (Hcc.out _ Hb2w.out).1
            clear hbq
            have hEq := hv1.out (true) (false) (by simp [Va.mk.injEq, Ne.symm h, h]) (decide_eq_false (fun hh => absurd hh.1 (by omega))).symm ⟨h3, hk⟩
            have HEq := Lib.hid hEq
            clear hEq hv0 hv1
            have HS0 : Hid (T3At (w2.setCell ⟨w1.heap.size, 2, none⟩ (.bool (false))) w1.heap.size 37 ⟨false, U, false⟩) := Blk.set_ HO2.out 2 (.bool (false))
            have HS1 : Hid (T3At ((w2.setCell ⟨w1.heap.size, 2, none⟩ (.bool (false))).setCell ⟨w1.heap.size, 0, none⟩ (.bool (true))) w1.heap.size 37 ⟨true, U, false⟩) := Blk.set_ HS0.out 0 (.bool (true))
            have hzr : Blk ((w2.setCell ⟨w1.heap.size, 2, none⟩ (.bool (false))).setCell ⟨w1.heap.size, 0, none⟩ (.bool (true))) (w.heap.size + 1 + 1) 37 [.bool false, .bool false, .bool false] := ((Hz.out.below Hb2w.out).far (show w.heap.size + 1 + 1 ≠ w1.heap.size by omega) _).far (show w.heap.size + 1 + 1 ≠ w1.heap.size by omega) _
            have HS := Lib.hid (Blk.three hzr (.bool (true)) (.bool U) (.bool (false)))
            have HE := Lib.hid (below_three (below_set (below_set (Hcc.out _ Hb2w.out).2 (show w.heap.size ≤ w1.heap.size by omega) 2 (.bool (false))) (show w.heap.size ≤ w1.heap.size by omega) 0 (.bool (true))) (show w.heap.size ≤ w.heap.size + 1 + 1 by omega) (.bool (true)) (.bool U) (.bool (false)))
            obtain ⟨o0, o1, o2⟩ := HO2.out.cells
            have oF := fun i => HO2.out.frozen i
            clear hzr
            go_wp2_with fail
            (try simp only [Exit.inBlock, Exit.then])
            refine bodyPost_ret (results_cell_row rfl _ _ (w.heap.size + 1 + 1) 37 #[.bool (true), .bool U, .bool (false)] (0, 0) _ rfl HS.out Tryd.underlying37 rfl (by kernel_rfl)) rfl ?_
            rw [HEq.out]
            exact ⟨rfl, HE.out⟩
          · have k2 : (mk != 0) = true := by rw [bne_iff_ne]; exact hk
            go_enter Tryd.func71, Tryd.ntmps71
            go_wp2_with fail
            rw [HW.out]
            refine (hun.out _).mono ?_
            rintro e w1 ⟨rfl, hb1⟩
            have hz1 := hb1.size
            rw [hW0] at hz1
            have hb2 : Below W.heap.size W (w1.alloc (.cells #[.bool false, .bool U, .bool false] 37)) := hb1.alloc hb1.size _
            have hO1 := T3At.new w1 37 ⟨false, U, false⟩
            have Hb2 := Lib.hid hb2
            have HO1 := Lib.hid hO1
            obtain ⟨c0, c1, c2, c3, c4, c5, c6, c7, c8, c9, c10, c11, c12, c13, c14⟩ := (Hcc.out _ hb2).1
            clear hb1 hb2 hO1
            go_wp2_with fail
            with_reducible refine (hcA.out _).mono ?_
            rintro e w2 ⟨rfl, hbq⟩
            have Hb2w := Lib.hid (Hb2.out.trans (hbq.mono Hb2.out.size))
            have HO2 := Lib.hid (HO1.out.below hbq)
            clear c0 c1 c2 c3 c4 c5 c6 c7 c8 c9 c10 c11 c12 c13 c14
            obtain ⟨d0, d1, d2, d3, d4, d5, d6, d7, d8, d9, d10, d11, d12, d13, d14⟩ := (Hcc.out _ Hb2w.out).1
            clear hbq
            have hEq := hv1.out (true) (false) (by simp [Va.mk.injEq, Ne.symm h, h]) (decide_eq_false (fun hh => absurd hh.1 (by omega))).symm ⟨h3, hk⟩
            have HEq := Lib.hid hEq
            clear hEq hv0 hv1
            have HS0 : Hid (T3At (w2.setCell ⟨w1.heap.size, 2, none⟩ (.bool (false))) w1.heap.size 37 ⟨false, U, false⟩) := Blk.set_ HO2.out 2 (.bool (false))
            have HS1 : Hid (T3At ((w2.setCell ⟨w1.heap.size, 2, none⟩ (.bool (false))).setCell ⟨w1.heap.size, 0, none⟩ (.bool (true))) w1.heap.size 37 ⟨true, U, false⟩) := Blk.set_ HS0.out 0 (.bool (true))
            have hzr : Blk ((w2.setCell ⟨w1.heap.size, 2, none⟩ (.bool (false))).setCell ⟨w1.heap.size, 0, none⟩ (.bool (true))) (w.heap.size + 1 + 1) 37 [.bool false, .bool false, .bool false] := ((Hz.out.below Hb2w.out).far (show w.heap.size + 1 + 1 ≠ w1.heap.size by omega) _).far (show w.heap.size + 1 + 1 ≠ w1.heap.size by omega) _
            have HS := Lib.hid (Blk.three hzr (.bool (true)) (.bool U) (.bool (false)))
            have HE := Lib.hid (below_three (below_set (below_set (Hcc.out _ Hb2w.out).2 (show w.heap.size ≤ w1.heap.size by omega) 2 (.bool (false))) (show w.heap.size ≤ w1.heap.size by omega) 0 (.bool (true))) (show w.heap.size ≤ w.heap.size + 1 + 1 by omega) (.bool (true)) (.bool U) (.bool (false)))
            obtain ⟨o0, o1, o2⟩ := HO2.out.cells
            have oF := fun i => HO2.out.frozen i
            clear hzr
            go_wp2_with fail
            (try simp only [Exit.inBlock, Exit.then])
            refine bodyPost_ret (results_cell_row rfl _ _ (w.heap.size + 1 + 1) 37 #[.bool (true), .bool U, .bool (false)] (0, 0) _ rfl HS.out Tryd.underlying37 rfl (by kernel_rfl)) rfl ?_
            rw [HEq.out]
            exact ⟨rfl, HE.out⟩
          · have s1 : ¬ St8 ms = St8 ls := fun e => h (St8_inj e)
            have s2 := St8_cmp ms ls
            have s3 := St8_eq ms ls
            rw [decide_eq_false h] at s2 s3
            have k2 : (mk != 0) = true := by rw [bne_iff_ne]; exact hk
            go_enter Tryd.func71, Tryd.ntmps71
            go_wp2_with fail
            rw [HW.out]
            refine (hun.out _).mono ?_
            rintro e w1 ⟨rfl, hb1⟩
            have hz1 := hb1.size
            rw [hW0] at hz1
            have hb2 : Below W.heap.size W (w1.alloc (.cells #[.bool false, .bool U, .bool false] 37)) := hb1.alloc hb1.size _
            have hO1 := T3At.new w1 37 ⟨false, U, false⟩
            have Hb2 := Lib.hid hb2
            have HO1 := Lib.hid hO1
            obtain ⟨c0, c1, c2, c3, c4, c5, c6, c7, c8, c9, c10, c11, c12, c13, c14⟩ := (Hcc.out _ hb2).1
            clear hb1 hb2 hO1
            go_wp2_with fail
            with_reducible refine (hcA.out _).mono ?_
            rintro e w2 ⟨rfl, hbq⟩
            have Hb2w := Lib.hid (Hb2.out.trans (hbq.mono Hb2.out.size))
            have HO2 := Lib.hid (HO1.out.below hbq)
            clear c0 c1 c2 c3 c4 c5 c6 c7 c8 c9 c10 c11 c12 c13 c14
            obtain ⟨d0, d1, d2, d3, d4, d5, d6, d7, d8, d9, d10, d11, d12, d13, d14⟩ := (Hcc.out _ Hb2w.out).1
            clear hbq
            have hEq := hv1.out (true) (false) (by simp [Va.mk.injEq, Ne.symm h, h]) (decide_eq_false (fun hh => absurd hh.1 (by omega))).symm ⟨h3, hk⟩
            have HEq := Lib.hid hEq
            clear hEq hv0 hv1
            have HS0 : Hid (T3At (w2.setCell ⟨w1.heap.size, 2, none⟩ (.bool (false))) w1.heap.size 37 ⟨false, U, false⟩) := Blk.set_ HO2.out 2 (.bool (false))
            have HS1 : Hid (T3At ((w2.setCell ⟨w1.heap.size, 2, none⟩ (.bool (false))).setCell ⟨w1.heap.size, 0, none⟩ (.bool (true))) w1.heap.size 37 ⟨true, U, false⟩) := Blk.set_ HS0.out 0 (.bool (true))
            have hzr : Blk ((w2.setCell ⟨w1.heap.size, 2, none⟩ (.bool (false))).setCell ⟨w1.heap.size, 0, none⟩ (.bool (true))) (w.heap.size + 1 + 1) 37 [.bool false, .bool false, .bool false] := ((Hz.out.below Hb2w.out).far (show w.heap.size + 1 + 1 ≠ w1.heap.size by omega) _).far (show w.heap.size + 1 + 1 ≠ w1.heap.size by omega) _
            have HS := Lib.hid (Blk.three hzr (.bool (true)) (.bool U) (.bool (false)))
            have HE := Lib.hid (below_three (below_set (below_set (Hcc.out _ Hb2w.out).2 (show w.heap.size ≤ w1.heap.size by omega) 2 (.bool (false))) (show w.heap.size ≤ w1.heap.size by omega) 0 (.bool (true))) (show w.heap.size ≤ w.heap.size + 1 + 1 by omega) (.bool (true)) (.bool U) (.bool (false)))
            obtain ⟨o0, o1, o2⟩ := HO2.out.cells
            have oF := fun i => HO2.out.frozen i
            clear hzr
            go_wp2_with fail
            (try simp only [Exit.inBlock, Exit.then])
            refine bodyPost_ret (results_cell_row rfl _ _ (w.heap.size + 1 + 1) 37 #[.bool (true), .bool U, .bool (false)] (0, 0) _ rfl HS.out Tryd.underlying37 rfl (by kernel_rfl)) rfl ?_
            rw [HEq.out]
            exact ⟨rfl, HE.out⟩
        · have k2 : (k != 0) = true := by rw [bne_iff_ne]; exact hk
          go_enter Tryd.func71, Tryd.ntmps71
          go_wp2_with fail
          rw [HW.out]
          refine (hun.out _).mono ?_
          rintro e w1 ⟨rfl, hb1⟩
          have hz1 := hb1.size
          rw [hW0] at hz1
          have hb2 : Below W.heap.size W (w1.alloc (.cells #[.bool false, .bool U, .bool false] 37)) := hb1.alloc hb1.size _
          have hO1 := T3At.new w1 37 ⟨false, U, false⟩
          have Hb2 := Lib.hid hb2
          have HO1 := Lib.hid hO1
          obtain ⟨c0, c1, c2, c3, c4, c5, c6, c7, c8, c9, c10, c11, c12, c13, c14⟩ := (Hcc.out _ hb2).1
          clear hb1 hb2 hO1
          go_wp2_with fail
          with_reducible refine (hcA.out _).mono ?_
          rintro e w2 ⟨rfl, hbq⟩
          have Hb2w := Lib.hid (Hb2.out.trans (hbq.mono Hb2.out.size))
          have HO2 := Lib.hid (HO1.out.below hbq)
          clear c0 c1 c2 c3 c4 c5 c6 c7 c8 c9 c10 c11 c12 c13 c14
          obtain ⟨d0, d1, d2, d3, d4, d5, d6, d7, d8, d9, d10, d11, d12, d13, d14⟩ := (Hcc.out _ Hb2w.out).1
          clear hbq
          have hEq := hv1.out (true) (false) (by simp [Va.mk.injEq, Ne.symm h, h]) (decide_eq_false (fun hh => absurd hh.1 (by omega))).symm ⟨h3, hk⟩
          have HEq := Lib.hid hEq
          clear hEq hv0 hv1
          have HS0 : Hid (T3At (w2.setCell ⟨w1.heap.size, 2, none⟩ (.bool (false))) w1.heap.size 37 ⟨false, U, false⟩) := Blk.set_ HO2.out 2 (.bool (false))
          have HS1 : Hid (T3At ((w2.setCell ⟨w1.heap.size, 2, none⟩ (.bool (false))).setCell ⟨w1.heap.size, 0, none⟩ (.bool (true))) w1.heap.size 37 ⟨true, U, false⟩) := Blk.set_ HS0.out 0 (.bool (true))
          have hzr : Blk ((w2.setCell ⟨w1.heap.size, 2, none⟩ (.bool (false))).setCell ⟨w1.heap.size, 0, none⟩ (.bool (true))) (w.heap.size + 1 + 1) 37 [.bool false, .bool false, .bool false] := ((Hz.out.below Hb2w.out).far (show w.heap.size + 1 + 1 ≠ w1.heap.size by omega) _).far (show w.heap.size + 1 + 1 ≠ w1.heap.size by omega) _
          have HS := Lib.hid (Blk.three hzr (.bool (true)) (.bool U) (.bool (false)))
          have HE := Lib.hid (below_three (below_set (below_set (Hcc.out _ Hb2w.out).2 (show w.heap.size ≤ w1.heap.size by omega) 2 (.bool (false))) (show w.heap.size ≤ w1.heap.size by omega) 0 (.bool (true))) (show w.heap.size ≤ w.heap.size + 1 + 1 by omega) (.bool (true)) (.bool U) (.bool (false)))
          obtain ⟨o0, o1, o2⟩ := HO2.out.cells
          have oF := fun i => HO2.out.frozen i
          clear hzr
          go_wp2_with fail
          (try simp only [Exit.inBlock, Exit.then])
          refine bodyPost_ret (results_cell_row rfl _ _ (w.heap.size + 1 + 1) 37 #[.bool (true), .bool U, .bool (false)] (0, 0) _ rfl HS.out Tryd.underlying37 rfl (by kernel_rfl)) rfl ?_
          rw [HEq.out]
          exact ⟨rfl, HE.out⟩
        · have k2 : (lk != 0) = true := by rw [bne_iff_ne]; exact hk
          go_enter Tryd.func71, Tryd.ntmps71
          go_wp2_with fail
          rw [HW.out]
          refine (hun.out _).mono ?_
          rintro e w1 ⟨rfl, hb1⟩
          have hz1 := hb1.size
          rw [hW0] at hz1
          have hb2 : Below W.heap.size W (w1.alloc (.cells #[.bool false, .bool U, .bool false] 37)) := hb1.alloc hb1.size _
          have hO1 := T3At.new w1 37 ⟨false, U, false⟩
          have Hb2 := Lib.hid hb2
          have HO1 := Lib.hid hO1
          obtain ⟨c0, c1, c2, c3, c4, c5, c6, c7, c8, c9, c10, c11, c12, c13, c14⟩ := (Hcc.out _ hb2).1
          clear hb1 hb2 hO1
          go_wp2_with fail
          with_reducible refine (hcA.out _).mono ?_
          rintro e w2 ⟨rfl, hbq⟩
          have Hb2w := Lib.hid (Hb2.out.trans (hbq.mono Hb2.out.size))
          have HO2 := Lib.hid (HO1.out.below hbq)
          clear c0 c1 c2 c3 c4 c5 c6 c7 c8 c9 c10 c11 c12 c13 c14
          obtain ⟨d0, d1, d2, d3, d4, d5, d6, d7, d8, d9, d10, d11, d12, d13, d14⟩ := (Hcc.out _ Hb2w.out).1
          clear hbq
          have hEq := hv1.out (true) (false) (by simp [Va.mk.injEq, Ne.symm h, h]) (decide_eq_false (fun hh => absurd hh.1 (by omega))).symm ⟨h3, hk⟩
          have HEq := Lib.hid hEq
          clear hEq hv0 hv1
          have HS0 : Hid (T3At (w2.setCell ⟨w1.heap.size, 2, none⟩ (.bool (false))) w1.heap.size 37 ⟨false, U, false⟩) := Blk.set_ HO2.out 2 (.bool (false))
          have HS1 : Hid (T3At ((w2.setCell ⟨w1.heap.size, 2, none⟩ (.bool (false))).setCell ⟨w1.heap.size, 0, none⟩ (.bool (true))) w1.heap.size 37 ⟨true, U, false⟩) := Blk.set_ HS0.out 0 (.bool (true))
          have hzr : Blk ((w2.setCell ⟨w1.heap.size, 2, none⟩ (.bool (false))).setCell ⟨w1.heap.size, 0, none⟩ (.bool (true))) (w.heap.size + 1 + 1) 37 [.bool false, .bool false, .bool false] := ((Hz.out.below Hb2w.out).far (show w.heap.size + 1 + 1 ≠ w1.heap.size by omega) _).far (show w.heap.size + 1 + 1 ≠ w1.heap.size by omega) _
          have HS := Lib.hid (Blk.three hzr (.bool (true)) (.bool U) (.bool (false)))
          have HE := Lib.hid (below_three (below_set (below_set (Hcc.out _ Hb2w.out).2 (show w.heap.size ≤ w1.heap.size by omega) 2 (.bool (false))) (show w.heap.size ≤ w1.heap.size by omega) 0 (.bool (true))) (show w.heap.size ≤ w.heap.size + 1 + 1 by omega) (.bool (true)) (.bool U) (.bool (false)))
          obtain ⟨o0, o1, o2⟩ := HO2.out.cells
          have oF := fun i => HO2.out.frozen i
          clear hzr
          go_wp2_with fail
          (try simp only [Exit.inBlock, Exit.then])
          refine bodyPost_ret (results_cell_row rfl _ _ (w.heap.size + 1 + 1) 37 #[.bool (true), .bool U, .bool (false)] (0, 0) _ rfl HS.out Tryd.underlying37 rfl (by kernel_rfl)) rfl ?_
          rw [HEq.out]
          exact ⟨rfl, HE.out⟩
        · have s1 : ¬ St8 ls = St8 s := fun e => h (St8_inj e)
          have s2 := St8_cmp ls s
          have s3 := St8_eq ls s
          rw [decide_eq_false h] at s2 s3
          have k2 : (lk != 0) = true := by rw [bne_iff_ne]; exact hk
          go_enter Tryd.func71, Tryd.ntmps71
          go_wp2_with fail
          rw [HW.out]
          refine (hun.out _).mono ?_
          rintro e w1 ⟨rfl, hb1⟩
          have hz1 := hb1.size
          rw [hW0] at hz1
          have hb2 : Below W.heap.size W (w1.alloc (.cells #[.bool false, .bool U, .bool false] 37)) := hb1.alloc hb1.size _
          have hO1 := T3At.new w1 37 ⟨false, U, false⟩
          have Hb2 := Lib.hid hb2
          have HO1 := Lib.hid hO1
          obtain ⟨c0, c1, c2, c3, c4, c5, c6, c7, c8, c9, c10, c11, c12, c13, c14⟩ := (Hcc.out _ hb2).1
          clear hb1 hb2 hO1
          go_wp2_with fail
          with_reducible refine (hcA.out _).mono ?_
          rintro e w2 ⟨rfl, hbq⟩
          have Hb2w := Lib.hid (Hb2.out.trans (hbq.mono Hb2.out.size))
          have HO2 := Lib.hid (HO1.out.below hbq)
          clear c0 c1 c2 c3 c4 c5 c6 c7 c8 c9 c10 c11 c12 c13 c14
          obtain ⟨d0, d1, d2, d3, d4, d5, d6, d7, d8, d9, d10, d11, d12, d13, d14⟩ := (Hcc.out _ Hb2w.out).1
          clear hbq
          have hEq := hv1.out (true) (false) (by simp [Va.mk.injEq, Ne.symm h, h]) (decide_eq_false (fun hh => absurd hh.1 (by omega))).symm ⟨h3, hk⟩
          have HEq := Lib.hid hEq
          clear hEq hv0 hv1
          have HS0 : Hid (T3At (w2.setCell ⟨w1.heap.size, 2, none⟩ (.bool (false))) w1.heap.size 37 ⟨false, U, false⟩) := Blk.set_ HO2.out 2 (.bool (false))
          have HS1 : Hid (T3At ((w2.setCell ⟨w1.heap.size, 2, none⟩ (.bool (false))).setCell ⟨w1.heap.size, 0, none⟩ (.bool (true))) w1.heap.size 37 ⟨true, U, false⟩) := Blk.set_ HS0.out 0 (.bool (true))
          have hzr : Blk ((w2.setCell ⟨w1.heap.size, 2, none⟩ (.bool (false))).setCell ⟨w1.heap.size, 0, none⟩ (.bool (true))) (w.heap.size + 1 + 1) 37 [.bool false, .bool false, .bool false] := ((Hz.out.below Hb2w.out).far (show w.heap.size + 1 + 1 ≠ w1.heap.size by omega) _).far (show w.heap.size + 1 + 1 ≠ w1.heap.size by omega) _
          have HS := Lib.hid (Blk.three hzr (.bool (true)) (.bool U) (.bool (false)))
          have HE := Lib.hid (below_three (below_set (below_set (Hcc.out _ Hb2w.out).2 (show w.heap.size ≤ w1.heap.size by omega) 2 (.bool (false))) (show w.heap.size ≤ w1.heap.size by omega) 0 (.bool (true))) (show w.heap.size ≤ w.heap.size + 1 + 1 by omega) (.bool (true)) (.bool U) (.bool (false)))
          obtain ⟨o0, o1, o2⟩ := HO2.out.cells
          have oF := fun i => HO2.out.frozen i
          clear hzr
          go_wp2_with fail
          (try simp only [Exit.inBlock, Exit.then])
          refine bodyPost_ret (results_cell_row rfl _ _ (w.heap.size + 1 + 1) 37 #[.bool (true), .bool U, .bool (false)] (0, 0) _ rfl HS.out Tryd.underlying37 rfl (by kernel_rfl)) rfl ?_
          rw [HEq.out]
          exact ⟨rfl, HE.out⟩
  · have hno := hv0.out (fun h => h3 h.1)
    have HEq := Lib.hid hno
    clear hno hv0 hv1
    go_enter Tryd.func71, Tryd.ntmps71
    go_wp2_with fail
    rw [HW.out]
    refine (hun.out _).mono ?_
    rintro e w1 ⟨rfl, hb1⟩
    have hz1 := hb1.size
    rw [hW0] at hz1
    have hb2 : Below W.heap.size W (w1.alloc (.cells #[.bool false, .bool U, .bool false] 37)) := hb1.alloc hb1.size _
    have hO1 := T3At.new w1 37 ⟨false, U, false⟩
    have Hb2 := Lib.hid hb2
    have HO1 := Lib.hid hO1
    obtain ⟨c0, c1, c2, c3, c4, c5, c6, c7, c8, c9, c10, c11, c12, c13, c14⟩ := (Hcc.out _ hb2).1
    clear hb1 hb2 hO1
    have HS := Lib.hid (Blk.three (Hz.out.below Hb2.out) (.bool false) (.bool U) (.bool false))
    have HE := Lib.hid (below_three (Hcc.out _ Hb2.out).2 (show w.heap.size ≤ w.heap.size + 1 + 1 by omega) (.bool false) (.bool U) (.bool false))
    go_wp2_with fail
    (try simp only [Exit.inBlock, Exit.then])
    refine bodyPost_ret (results_cell_row rfl _ _ (w.heap.size + 1 + 1) 37 #[.bool false, .bool U, .bool false] (0, 0) _ rfl HS.out Tryd.underlying37 rfl (by kernel_rfl)) rfl ?_
    rw [HEq.out]
    exact ⟨rfl, HE.out⟩
end Go.Proofs.YtipnglidepfkbaaDoor
