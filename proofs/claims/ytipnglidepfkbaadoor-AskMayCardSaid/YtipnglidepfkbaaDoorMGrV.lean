/- Walks: what may come of what is known of a column and a value: the program's (zone.Equal, zone.Less). (Printed by gen_myc.py.) Walks: what may come of what is known of a column and a value: the reference's (warpref13). (Printed by gen_mye.py.) -/
import Derived.Test.YtipnglidepfkbaaDoorMGrR
import Derived.Test.YtipnglidepfkbaaDoorMGrB
import Derived.Deep.RegionHeld3
import Derived.Test.YtipnglidepfkbaaDoorMGrN
namespace Go.Proofs.YtipnglidepfkbaaDoor
set_option linter.unusedVariables false
set_option linter.unusedSimpArgs false
open Go.RowKit

attribute [local go_sem ↓] Go.wp_at_zero Go.wp_at_succ

set_option maxHeartbeats 8000000 in
set_option maxRecDepth 100000 in
theorem zequal_any (z : Zo) (v : Va) (w : World) : Calls Tryd.prog 67 #[z.agg, v.agg] w fun e w' => e = .returned (equalZ z v).agg ∧ Below w.heap.size w w' := by
  have hcA := Lib.hid (fun w' => compare_any v z.least w')
  have hcB := Lib.hid (fun w' => compare_any v z.most w')
  have hma := Lib.hid (fun no ye w' => zmay_any z v no ye w')
  have hv : Hid (∀ A B : Int, A = cmpVa v z.least → B = cmpVa v z.most → mayF z v (decide (A ≠ 0 ∨ B ≠ 0)) (decide (0 ≤ A ∧ B ≤ 0)) = equalZ z v) := fun A B hA hB => by
    subst hA
    subst hB
    unfold equalZ
    congr 1
    exact decide_eq_decide.2 (or_congr (not_congr cmpVa_zero) (not_congr cmpVa_zero))
  have hv := hv.out _ _ rfl rfl

  generalize mayF z v = M at *
  generalize equalZ z v = R at *
  generalize cmpVa v z.least = A at *
  generalize cmpVa v z.most = B at *
  obtain ⟨⟨lk, ln, ls⟩, ⟨mk, mn, ms⟩, nu, ma⟩ := z
  obtain ⟨k, n, s⟩ := v
  have hb1 : Below w.heap.size w (w.alloc (.cells #[.int .u8 lk, .int .i64 ln, .string (St8 ls), .int .u8 mk, .int .i64 mn, .string (St8 ms), .int .i64 nu, .int .i64 ma] 62)) := (Below.refl _ _).alloc (Nat.le_refl _) _
  have hb2 : Below w.heap.size w ((w.alloc (.cells #[.int .u8 lk, .int .i64 ln, .string (St8 ls), .int .u8 mk, .int .i64 mn, .string (St8 ms), .int .i64 nu, .int .i64 ma] 62)).alloc (.cells #[.int .u8 k, .int .i64 n, .string (St8 s)] 44)) := hb1.alloc (by rw [World.size_alloc]; omega) _
  have hb3 : Below w.heap.size w (((w.alloc (.cells #[.int .u8 lk, .int .i64 ln, .string (St8 ls), .int .u8 mk, .int .i64 mn, .string (St8 ms), .int .i64 nu, .int .i64 ma] 62)).alloc (.cells #[.int .u8 k, .int .i64 n, .string (St8 s)] 44)).alloc (.cells #[.bool false, .bool false, .bool false] 37)) := hb2.alloc (by rw [World.size_alloc, World.size_alloc]; omega) _
  have hx := ((Blk.new w 62 #[.int .u8 lk, .int .i64 ln, .string (St8 ls), .int .u8 mk, .int .i64 mn, .string (St8 ms), .int .i64 nu, .int .i64 ma]).alloc (.cells #[.int .u8 k, .int .i64 n, .string (St8 s)] 44)).alloc (.cells #[.bool false, .bool false, .bool false] 37)
  have hy := (Blk.new (w.alloc (.cells #[.int .u8 lk, .int .i64 ln, .string (St8 ls), .int .u8 mk, .int .i64 mn, .string (St8 ms), .int .i64 nu, .int .i64 ma] 62)) 44 #[.int .u8 k, .int .i64 n, .string (St8 s)]).alloc (.cells #[.bool false, .bool false, .bool false] 37)
  have hz := Blk.new ((w.alloc (.cells #[.int .u8 lk, .int .i64 ln, .string (St8 ls), .int .u8 mk, .int .i64 mn, .string (St8 ms), .int .i64 nu, .int .i64 ma] 62)).alloc (.cells #[.int .u8 k, .int .i64 n, .string (St8 s)] 44)) 37 #[.bool false, .bool false, .bool false]
  rw [World.size_alloc] at hy
  rw [World.size_alloc, World.size_alloc] at hz
  unfold Zo.agg at hma ⊢
  unfold Va.agg at hma hcA hcB ⊢
  dsimp only at hma hcA hcB ⊢
  generalize hW : (((w.alloc (.cells #[.int .u8 lk, .int .i64 ln, .string (St8 ls), .int .u8 mk, .int .i64 mn, .string (St8 ms), .int .i64 nu, .int .i64 ma] 62)).alloc (.cells #[.int .u8 k, .int .i64 n, .string (St8 s)] 44)).alloc (.cells #[.bool false, .bool false, .bool false] 37)) = W at *
  have HW := Lib.hid hW
  have Hz := Lib.hid hz
  have Hcc : Hid (∀ w', Below W.heap.size W w' → (w'.cell? ⟨w.heap.size, 0, none⟩ = some (.int .u8 lk) ∧ w'.cell? ⟨w.heap.size, 1, none⟩ = some (.int .i64 ln) ∧ w'.cell? ⟨w.heap.size, 2, none⟩ = some (.string (St8 ls)) ∧ w'.cell? ⟨w.heap.size, 3, none⟩ = some (.int .u8 mk) ∧ w'.cell? ⟨w.heap.size, 4, none⟩ = some (.int .i64 mn) ∧ w'.cell? ⟨w.heap.size, 5, none⟩ = some (.string (St8 ms)) ∧ w'.cell? ⟨w.heap.size, 6, none⟩ = some (.int .i64 nu) ∧ w'.cell? ⟨w.heap.size, 7, none⟩ = some (.int .i64 ma) ∧ w'.cell? ⟨w.heap.size + 1, 0, none⟩ = some (.int .u8 k) ∧ w'.cell? ⟨w.heap.size + 1, 1, none⟩ = some (.int .i64 n) ∧ w'.cell? ⟨w.heap.size + 1, 2, none⟩ = some (.string (St8 s))) ∧ Below w.heap.size w w') := fun w' hb => ⟨⟨(hx.below hb).cell 0, (hx.below hb).cell 1, (hx.below hb).cell 2, (hx.below hb).cell 3, (hx.below hb).cell 4, (hx.below hb).cell 5, (hx.below hb).cell 6, (hx.below hb).cell 7, (hy.below hb).cell 0, (hy.below hb).cell 1, (hy.below hb).cell 2⟩, hb3.trans (hb.mono hb3.size)⟩
  have hd0 : Below W.heap.size W W.drew := (Below.refl _ _).drew
  have HB := Lib.hid hd0
  have hcc := (Hcc.out W.drew hd0).1
  clear hW hx hy hz hb1 hb2 hb3 hd0
  go_enter Tryd.func67, Tryd.ntmps67
  go_wp2_with fail
  rw [HW.out]
  go_region_held3 (fun w' => w'.cell? ⟨w.heap.size, 0, none⟩ = some (.int .u8 lk) ∧ w'.cell? ⟨w.heap.size, 1, none⟩ = some (.int .i64 ln) ∧ w'.cell? ⟨w.heap.size, 2, none⟩ = some (.string (St8 ls)) ∧ w'.cell? ⟨w.heap.size, 3, none⟩ = some (.int .u8 mk) ∧ w'.cell? ⟨w.heap.size, 4, none⟩ = some (.int .i64 mn) ∧ w'.cell? ⟨w.heap.size, 5, none⟩ = some (.string (St8 ms)) ∧ w'.cell? ⟨w.heap.size, 6, none⟩ = some (.int .i64 nu) ∧ w'.cell? ⟨w.heap.size, 7, none⟩ = some (.int .i64 ma) ∧ w'.cell? ⟨w.heap.size + 1, 0, none⟩ = some (.int .u8 k) ∧ w'.cell? ⟨w.heap.size + 1, 1, none⟩ = some (.int .i64 n) ∧ w'.cell? ⟨w.heap.size + 1, 2, none⟩ = some (.string (St8 s)))
    (first | exact hcc2 | exact hcc1 | exact hcc)
    (first | (go_at_call 80; with_reducible refine (hcA.out _).mono ?_; rintro e w1 ⟨rfl, hb1⟩; have Hb1 := Lib.hid (HB.out.trans (hb1.mono HB.out.size)); have hcc1 := (Hcc.out w1 Hb1.out).1) | (go_at_call 80; with_reducible refine (hcB.out _).mono ?_; rintro e w2 ⟨rfl, hb2⟩; have Hb2 := Lib.hid ((by first | exact Hb1.out | exact HB.out : Below W.heap.size W _).trans (hb2.mono (by first | exact Hb1.out.size | exact HB.out.size))); have hcc2 := (Hcc.out w2 Hb2.out).1))
  rcases (show A < 0 ∨ A = 0 ∨ 0 < A by omega) with hA | hA | hA
  · rcases (show B < 0 ∨ B = 0 ∨ 0 < B by omega) with hB | hB | hB
    · have gA : (A != 0) = true := by rw [bne_iff_ne]; omega
      have gA2 : ¬ (0 : Int) ≤ A := by omega
      have gB : (B != 0) = true := by rw [bne_iff_ne]; omega
      have gB2 : B ≤ (0 : Int) := by omega
      have hR : M true false = R := by
        rw [← hv]
        congr 1
        all_goals (symm; first | exact decide_eq_true (by omega) | exact decide_eq_false (by omega))
      have Hma := Lib.hid (fun w' => hma.out true false w')
      rw [hR] at Hma
      clear hR hma hv
      go_wp2_with fail
      refine (Hma.out _).mono ?_
      rintro e w3 ⟨rfl, hb3⟩
      have Hb3 := Lib.hid (Hb2.out.trans (hb3.mono Hb2.out.size))
      have hz3 := Hz.out.below Hb3.out
      have q0 := hz3.cell 0
      have q1 := hz3.cell 1
      have q2 := hz3.cell 2
      simp only [List.getElem?_cons_zero, List.getElem?_cons_succ, Array.toList] at q0 q1 q2
      have qf := fun i => hz3.frozen i
      have HS := Lib.hid (Blk.three hz3 (.bool R.no) (.bool R.un) (.bool R.ye))
      have HE := Lib.hid (below_three (Hcc.out w3 Hb3.out).2 (show w.heap.size ≤ w.heap.size + 1 + 1 by omega) (.bool R.no) (.bool R.un) (.bool R.ye))
      rw [T3.agg_eq]
      clear hb3 hz3
      go_wp2_with fail
      (try simp only [Exit.inBlock, Exit.then])
      refine bodyPost_ret (results_cell_row rfl _ _ (w.heap.size + 1 + 1) 37 #[.bool R.no, .bool R.un, .bool R.ye] (0, 0) _ rfl HS.out Tryd.underlying37 rfl (by kernel_rfl)) rfl ?_
      exact ⟨rfl, HE.out⟩
    · have gA : (A != 0) = true := by rw [bne_iff_ne]; omega
      have gA2 : ¬ (0 : Int) ≤ A := by omega
      have gB : (B != 0) = false := by rw [hB]; rfl
      have gB2 : B ≤ (0 : Int) := by omega
      have hR : M true false = R := by
        rw [← hv]
        congr 1
        all_goals (symm; first | exact decide_eq_true (by omega) | exact decide_eq_false (by omega))
      have Hma := Lib.hid (fun w' => hma.out true false w')
      rw [hR] at Hma
      clear hR hma hv
      go_wp2_with fail
      refine (Hma.out _).mono ?_
      rintro e w3 ⟨rfl, hb3⟩
      have Hb3 := Lib.hid (Hb2.out.trans (hb3.mono Hb2.out.size))
      have hz3 := Hz.out.below Hb3.out
      have q0 := hz3.cell 0
      have q1 := hz3.cell 1
      have q2 := hz3.cell 2
      simp only [List.getElem?_cons_zero, List.getElem?_cons_succ, Array.toList] at q0 q1 q2
      have qf := fun i => hz3.frozen i
      have HS := Lib.hid (Blk.three hz3 (.bool R.no) (.bool R.un) (.bool R.ye))
      have HE := Lib.hid (below_three (Hcc.out w3 Hb3.out).2 (show w.heap.size ≤ w.heap.size + 1 + 1 by omega) (.bool R.no) (.bool R.un) (.bool R.ye))
      rw [T3.agg_eq]
      clear hb3 hz3
      go_wp2_with fail
      (try simp only [Exit.inBlock, Exit.then])
      refine bodyPost_ret (results_cell_row rfl _ _ (w.heap.size + 1 + 1) 37 #[.bool R.no, .bool R.un, .bool R.ye] (0, 0) _ rfl HS.out Tryd.underlying37 rfl (by kernel_rfl)) rfl ?_
      exact ⟨rfl, HE.out⟩
    · have gA : (A != 0) = true := by rw [bne_iff_ne]; omega
      have gA2 : ¬ (0 : Int) ≤ A := by omega
      have gB : (B != 0) = true := by rw [bne_iff_ne]; omega
      have gB2 : ¬ B ≤ (0 : Int) := by omega
      have hR : M true false = R := by
        rw [← hv]
        congr 1
        all_goals (symm; first | exact decide_eq_true (by omega) | exact decide_eq_false (by omega))
      have Hma := Lib.hid (fun w' => hma.out true false w')
      rw [hR] at Hma
      clear hR hma hv
      go_wp2_with fail
      refine (Hma.out _).mono ?_
      rintro e w3 ⟨rfl, hb3⟩
      have Hb3 := Lib.hid (Hb2.out.trans (hb3.mono Hb2.out.size))
      have hz3 := Hz.out.below Hb3.out
      have q0 := hz3.cell 0
      have q1 := hz3.cell 1
      have q2 := hz3.cell 2
      simp only [List.getElem?_cons_zero, List.getElem?_cons_succ, Array.toList] at q0 q1 q2
      have qf := fun i => hz3.frozen i
      have HS := Lib.hid (Blk.three hz3 (.bool R.no) (.bool R.un) (.bool R.ye))
      have HE := Lib.hid (below_three (Hcc.out w3 Hb3.out).2 (show w.heap.size ≤ w.heap.size + 1 + 1 by omega) (.bool R.no) (.bool R.un) (.bool R.ye))
      rw [T3.agg_eq]
      clear hb3 hz3
      go_wp2_with fail
      (try simp only [Exit.inBlock, Exit.then])
      refine bodyPost_ret (results_cell_row rfl _ _ (w.heap.size + 1 + 1) 37 #[.bool R.no, .bool R.un, .bool R.ye] (0, 0) _ rfl HS.out Tryd.underlying37 rfl (by kernel_rfl)) rfl ?_
      exact ⟨rfl, HE.out⟩
  · rcases (show B < 0 ∨ B = 0 ∨ 0 < B by omega) with hB | hB | hB
    · have gA : (A != 0) = false := by rw [hA]; rfl
      have gA2 : (0 : Int) ≤ A := by omega
      have gB : (B != 0) = true := by rw [bne_iff_ne]; omega
      have gB2 : B ≤ (0 : Int) := by omega
      have hR : M true true = R := by
        rw [← hv]
        congr 1
        all_goals (symm; first | exact decide_eq_true (by omega) | exact decide_eq_false (by omega))
      have Hma := Lib.hid (fun w' => hma.out true true w')
      rw [hR] at Hma
      clear hR hma hv
      go_wp2_with fail
      refine (Hma.out _).mono ?_
      rintro e w3 ⟨rfl, hb3⟩
      have Hb3 := Lib.hid (Hb2.out.trans (hb3.mono Hb2.out.size))
      have hz3 := Hz.out.below Hb3.out
      have q0 := hz3.cell 0
      have q1 := hz3.cell 1
      have q2 := hz3.cell 2
      simp only [List.getElem?_cons_zero, List.getElem?_cons_succ, Array.toList] at q0 q1 q2
      have qf := fun i => hz3.frozen i
      have HS := Lib.hid (Blk.three hz3 (.bool R.no) (.bool R.un) (.bool R.ye))
      have HE := Lib.hid (below_three (Hcc.out w3 Hb3.out).2 (show w.heap.size ≤ w.heap.size + 1 + 1 by omega) (.bool R.no) (.bool R.un) (.bool R.ye))
      rw [T3.agg_eq]
      clear hb3 hz3
      go_wp2_with fail
      (try simp only [Exit.inBlock, Exit.then])
      refine bodyPost_ret (results_cell_row rfl _ _ (w.heap.size + 1 + 1) 37 #[.bool R.no, .bool R.un, .bool R.ye] (0, 0) _ rfl HS.out Tryd.underlying37 rfl (by kernel_rfl)) rfl ?_
      exact ⟨rfl, HE.out⟩
    · have gA : (A != 0) = false := by rw [hA]; rfl
      have gA2 : (0 : Int) ≤ A := by omega
      have gB : (B != 0) = false := by rw [hB]; rfl
      have gB2 : B ≤ (0 : Int) := by omega
      have hR : M false true = R := by
        rw [← hv]
        congr 1
        all_goals (symm; first | exact decide_eq_true (by omega) | exact decide_eq_false (by omega))
      have Hma := Lib.hid (fun w' => hma.out false true w')
      rw [hR] at Hma
      clear hR hma hv
      go_wp2_with fail
      refine (Hma.out _).mono ?_
      rintro e w3 ⟨rfl, hb3⟩
      have Hb3 := Lib.hid (Hb2.out.trans (hb3.mono Hb2.out.size))
      have hz3 := Hz.out.below Hb3.out
      have q0 := hz3.cell 0
      have q1 := hz3.cell 1
      have q2 := hz3.cell 2
      simp only [List.getElem?_cons_zero, List.getElem?_cons_succ, Array.toList] at q0 q1 q2
      have qf := fun i => hz3.frozen i
      have HS := Lib.hid (Blk.three hz3 (.bool R.no) (.bool R.un) (.bool R.ye))
      have HE := Lib.hid (below_three (Hcc.out w3 Hb3.out).2 (show w.heap.size ≤ w.heap.size + 1 + 1 by omega) (.bool R.no) (.bool R.un) (.bool R.ye))
      rw [T3.agg_eq]
      clear hb3 hz3
      go_wp2_with fail
      (try simp only [Exit.inBlock, Exit.then])
      refine bodyPost_ret (results_cell_row rfl _ _ (w.heap.size + 1 + 1) 37 #[.bool R.no, .bool R.un, .bool R.ye] (0, 0) _ rfl HS.out Tryd.underlying37 rfl (by kernel_rfl)) rfl ?_
      exact ⟨rfl, HE.out⟩
    · have gA : (A != 0) = false := by rw [hA]; rfl
      have gA2 : (0 : Int) ≤ A := by omega
      have gB : (B != 0) = true := by rw [bne_iff_ne]; omega
      have gB2 : ¬ B ≤ (0 : Int) := by omega
      have hR : M true false = R := by
        rw [← hv]
        congr 1
        all_goals (symm; first | exact decide_eq_true (by omega) | exact decide_eq_false (by omega))
      have Hma := Lib.hid (fun w' => hma.out true false w')
      rw [hR] at Hma
      clear hR hma hv
      go_wp2_with fail
      refine (Hma.out _).mono ?_
      rintro e w3 ⟨rfl, hb3⟩
      have Hb3 := Lib.hid (Hb2.out.trans (hb3.mono Hb2.out.size))
      have hz3 := Hz.out.below Hb3.out
      have q0 := hz3.cell 0
      have q1 := hz3.cell 1
      have q2 := hz3.cell 2
      simp only [List.getElem?_cons_zero, List.getElem?_cons_succ, Array.toList] at q0 q1 q2
      have qf := fun i => hz3.frozen i
      have HS := Lib.hid (Blk.three hz3 (.bool R.no) (.bool R.un) (.bool R.ye))
      have HE := Lib.hid (below_three (Hcc.out w3 Hb3.out).2 (show w.heap.size ≤ w.heap.size + 1 + 1 by omega) (.bool R.no) (.bool R.un) (.bool R.ye))
      rw [T3.agg_eq]
      clear hb3 hz3
      go_wp2_with fail
      (try simp only [Exit.inBlock, Exit.then])
      refine bodyPost_ret (results_cell_row rfl _ _ (w.heap.size + 1 + 1) 37 #[.bool R.no, .bool R.un, .bool R.ye] (0, 0) _ rfl HS.out Tryd.underlying37 rfl (by kernel_rfl)) rfl ?_
      exact ⟨rfl, HE.out⟩
  · rcases (show B < 0 ∨ B = 0 ∨ 0 < B by omega) with hB | hB | hB
    · have gA : (A != 0) = true := by rw [bne_iff_ne]; omega
      have gA2 : (0 : Int) ≤ A := by omega
      have gB : (B != 0) = true := by rw [bne_iff_ne]; omega
      have gB2 : B ≤ (0 : Int) := by omega
      have hR : M true true = R := by
        rw [← hv]
        congr 1
        all_goals (symm; first | exact decide_eq_true (by omega) | exact decide_eq_false (by omega))
      have Hma := Lib.hid (fun w' => hma.out true true w')
      rw [hR] at Hma
      clear hR hma hv
      go_wp2_with fail
      refine (Hma.out _).mono ?_
      rintro e w3 ⟨rfl, hb3⟩
      have Hb3 := Lib.hid (Hb2.out.trans (hb3.mono Hb2.out.size))
      have hz3 := Hz.out.below Hb3.out
      have q0 := hz3.cell 0
      have q1 := hz3.cell 1
      have q2 := hz3.cell 2
      simp only [List.getElem?_cons_zero, List.getElem?_cons_succ, Array.toList] at q0 q1 q2
      have qf := fun i => hz3.frozen i
      have HS := Lib.hid (Blk.three hz3 (.bool R.no) (.bool R.un) (.bool R.ye))
      have HE := Lib.hid (below_three (Hcc.out w3 Hb3.out).2 (show w.heap.size ≤ w.heap.size + 1 + 1 by omega) (.bool R.no) (.bool R.un) (.bool R.ye))
      rw [T3.agg_eq]
      clear hb3 hz3
      go_wp2_with fail
      (try simp only [Exit.inBlock, Exit.then])
      refine bodyPost_ret (results_cell_row rfl _ _ (w.heap.size + 1 + 1) 37 #[.bool R.no, .bool R.un, .bool R.ye] (0, 0) _ rfl HS.out Tryd.underlying37 rfl (by kernel_rfl)) rfl ?_
      exact ⟨rfl, HE.out⟩
    · have gA : (A != 0) = true := by rw [bne_iff_ne]; omega
      have gA2 : (0 : Int) ≤ A := by omega
      have gB : (B != 0) = false := by rw [hB]; rfl
      have gB2 : B ≤ (0 : Int) := by omega
      have hR : M true true = R := by
        rw [← hv]
        congr 1
        all_goals (symm; first | exact decide_eq_true (by omega) | exact decide_eq_false (by omega))
      have Hma := Lib.hid (fun w' => hma.out true true w')
      rw [hR] at Hma
      clear hR hma hv
      go_wp2_with fail
      refine (Hma.out _).mono ?_
      rintro e w3 ⟨rfl, hb3⟩
      have Hb3 := Lib.hid (Hb2.out.trans (hb3.mono Hb2.out.size))
      have hz3 := Hz.out.below Hb3.out
      have q0 := hz3.cell 0
      have q1 := hz3.cell 1
      have q2 := hz3.cell 2
      simp only [List.getElem?_cons_zero, List.getElem?_cons_succ, Array.toList] at q0 q1 q2
      have qf := fun i => hz3.frozen i
      have HS := Lib.hid (Blk.three hz3 (.bool R.no) (.bool R.un) (.bool R.ye))
      have HE := Lib.hid (below_three (Hcc.out w3 Hb3.out).2 (show w.heap.size ≤ w.heap.size + 1 + 1 by omega) (.bool R.no) (.bool R.un) (.bool R.ye))
      rw [T3.agg_eq]
      clear hb3 hz3
      go_wp2_with fail
      (try simp only [Exit.inBlock, Exit.then])
      refine bodyPost_ret (results_cell_row rfl _ _ (w.heap.size + 1 + 1) 37 #[.bool R.no, .bool R.un, .bool R.ye] (0, 0) _ rfl HS.out Tryd.underlying37 rfl (by kernel_rfl)) rfl ?_
      exact ⟨rfl, HE.out⟩
    · have gA : (A != 0) = true := by rw [bne_iff_ne]; omega
      have gA2 : (0 : Int) ≤ A := by omega
      have gB : (B != 0) = true := by rw [bne_iff_ne]; omega
      have gB2 : ¬ B ≤ (0 : Int) := by omega
      have hR : M true false = R := by
        rw [← hv]
        congr 1
        all_goals (symm; first | exact decide_eq_true (by omega) | exact decide_eq_false (by omega))
      have Hma := Lib.hid (fun w' => hma.out true false w')
      rw [hR] at Hma
      clear hR hma hv
      go_wp2_with fail
      refine (Hma.out _).mono ?_
      rintro e w3 ⟨rfl, hb3⟩
      have Hb3 := Lib.hid (Hb2.out.trans (hb3.mono Hb2.out.size))
      have hz3 := Hz.out.below Hb3.out
      have q0 := hz3.cell 0
      have q1 := hz3.cell 1
      have q2 := hz3.cell 2
      simp only [List.getElem?_cons_zero, List.getElem?_cons_succ, Array.toList] at q0 q1 q2
      have qf := fun i => hz3.frozen i
      have HS := Lib.hid (Blk.three hz3 (.bool R.no) (.bool R.un) (.bool R.ye))
      have HE := Lib.hid (below_three (Hcc.out w3 Hb3.out).2 (show w.heap.size ≤ w.heap.size + 1 + 1 by omega) (.bool R.no) (.bool R.un) (.bool R.ye))
      rw [T3.agg_eq]
      clear hb3 hz3
      go_wp2_with fail
      (try simp only [Exit.inBlock, Exit.then])
      refine bodyPost_ret (results_cell_row rfl _ _ (w.heap.size + 1 + 1) 37 #[.bool R.no, .bool R.un, .bool R.ye] (0, 0) _ rfl HS.out Tryd.underlying37 rfl (by kernel_rfl)) rfl ?_
      exact ⟨rfl, HE.out⟩
set_option maxHeartbeats 8000000 in
set_option maxRecDepth 100000 in
theorem zless_any (z : Zo) (v : Va) (w : World) : Calls Tryd.prog 68 #[z.agg, v.agg] w fun e w' => e = .returned (lessZ z v).agg ∧ Below w.heap.size w w' := by
  have hcA := Lib.hid (fun w' => compare_any z.most v w')
  have hcB := Lib.hid (fun w' => compare_any z.least v w')
  have hma := Lib.hid (fun no ye w' => zmay_any z v no ye w')
  have hv : lessZ z v = mayF z v (decide (0 ≤ cmpVa z.most v)) (decide (cmpVa z.least v < 0)) := rfl

  generalize mayF z v = M at *
  generalize lessZ z v = R at *
  generalize cmpVa z.most v = A at *
  generalize cmpVa z.least v = B at *
  obtain ⟨⟨lk, ln, ls⟩, ⟨mk, mn, ms⟩, nu, ma⟩ := z
  obtain ⟨k, n, s⟩ := v
  have hb1 : Below w.heap.size w (w.alloc (.cells #[.int .u8 lk, .int .i64 ln, .string (St8 ls), .int .u8 mk, .int .i64 mn, .string (St8 ms), .int .i64 nu, .int .i64 ma] 62)) := (Below.refl _ _).alloc (Nat.le_refl _) _
  have hb2 : Below w.heap.size w ((w.alloc (.cells #[.int .u8 lk, .int .i64 ln, .string (St8 ls), .int .u8 mk, .int .i64 mn, .string (St8 ms), .int .i64 nu, .int .i64 ma] 62)).alloc (.cells #[.int .u8 k, .int .i64 n, .string (St8 s)] 44)) := hb1.alloc (by rw [World.size_alloc]; omega) _
  have hb3 : Below w.heap.size w (((w.alloc (.cells #[.int .u8 lk, .int .i64 ln, .string (St8 ls), .int .u8 mk, .int .i64 mn, .string (St8 ms), .int .i64 nu, .int .i64 ma] 62)).alloc (.cells #[.int .u8 k, .int .i64 n, .string (St8 s)] 44)).alloc (.cells #[.bool false, .bool false, .bool false] 37)) := hb2.alloc (by rw [World.size_alloc, World.size_alloc]; omega) _
  have hx := ((Blk.new w 62 #[.int .u8 lk, .int .i64 ln, .string (St8 ls), .int .u8 mk, .int .i64 mn, .string (St8 ms), .int .i64 nu, .int .i64 ma]).alloc (.cells #[.int .u8 k, .int .i64 n, .string (St8 s)] 44)).alloc (.cells #[.bool false, .bool false, .bool false] 37)
  have hy := (Blk.new (w.alloc (.cells #[.int .u8 lk, .int .i64 ln, .string (St8 ls), .int .u8 mk, .int .i64 mn, .string (St8 ms), .int .i64 nu, .int .i64 ma] 62)) 44 #[.int .u8 k, .int .i64 n, .string (St8 s)]).alloc (.cells #[.bool false, .bool false, .bool false] 37)
  have hz := Blk.new ((w.alloc (.cells #[.int .u8 lk, .int .i64 ln, .string (St8 ls), .int .u8 mk, .int .i64 mn, .string (St8 ms), .int .i64 nu, .int .i64 ma] 62)).alloc (.cells #[.int .u8 k, .int .i64 n, .string (St8 s)] 44)) 37 #[.bool false, .bool false, .bool false]
  rw [World.size_alloc] at hy
  rw [World.size_alloc, World.size_alloc] at hz
  unfold Zo.agg at hma ⊢
  unfold Va.agg at hma hcA hcB ⊢
  dsimp only at hma hcA hcB ⊢
  generalize hW : (((w.alloc (.cells #[.int .u8 lk, .int .i64 ln, .string (St8 ls), .int .u8 mk, .int .i64 mn, .string (St8 ms), .int .i64 nu, .int .i64 ma] 62)).alloc (.cells #[.int .u8 k, .int .i64 n, .string (St8 s)] 44)).alloc (.cells #[.bool false, .bool false, .bool false] 37)) = W at *
  have HW := Lib.hid hW
  have Hz := Lib.hid hz
  have Hcc : Hid (∀ w', Below W.heap.size W w' → (w'.cell? ⟨w.heap.size, 0, none⟩ = some (.int .u8 lk) ∧ w'.cell? ⟨w.heap.size, 1, none⟩ = some (.int .i64 ln) ∧ w'.cell? ⟨w.heap.size, 2, none⟩ = some (.string (St8 ls)) ∧ w'.cell? ⟨w.heap.size, 3, none⟩ = some (.int .u8 mk) ∧ w'.cell? ⟨w.heap.size, 4, none⟩ = some (.int .i64 mn) ∧ w'.cell? ⟨w.heap.size, 5, none⟩ = some (.string (St8 ms)) ∧ w'.cell? ⟨w.heap.size, 6, none⟩ = some (.int .i64 nu) ∧ w'.cell? ⟨w.heap.size, 7, none⟩ = some (.int .i64 ma) ∧ w'.cell? ⟨w.heap.size + 1, 0, none⟩ = some (.int .u8 k) ∧ w'.cell? ⟨w.heap.size + 1, 1, none⟩ = some (.int .i64 n) ∧ w'.cell? ⟨w.heap.size + 1, 2, none⟩ = some (.string (St8 s))) ∧ Below w.heap.size w w') := fun w' hb => ⟨⟨(hx.below hb).cell 0, (hx.below hb).cell 1, (hx.below hb).cell 2, (hx.below hb).cell 3, (hx.below hb).cell 4, (hx.below hb).cell 5, (hx.below hb).cell 6, (hx.below hb).cell 7, (hy.below hb).cell 0, (hy.below hb).cell 1, (hy.below hb).cell 2⟩, hb3.trans (hb.mono hb3.size)⟩
  have hd0 : Below W.heap.size W W.drew := (Below.refl _ _).drew
  have HB := Lib.hid hd0
  have hcc := (Hcc.out W.drew hd0).1
  clear hW hx hy hz hb1 hb2 hb3 hd0
  rw [hv]
  clear hv
  have Hma := Lib.hid (fun w' => hma.out (decide (0 ≤ A)) (decide (B < 0)) w')
  clear hma
  generalize M (decide (0 ≤ A)) (decide (B < 0)) = R at *
  go_enter Tryd.func68, Tryd.ntmps68
  go_wp2_with fail
  rw [HW.out]
  go_region_held3 (fun w' => w'.cell? ⟨w.heap.size, 0, none⟩ = some (.int .u8 lk) ∧ w'.cell? ⟨w.heap.size, 1, none⟩ = some (.int .i64 ln) ∧ w'.cell? ⟨w.heap.size, 2, none⟩ = some (.string (St8 ls)) ∧ w'.cell? ⟨w.heap.size, 3, none⟩ = some (.int .u8 mk) ∧ w'.cell? ⟨w.heap.size, 4, none⟩ = some (.int .i64 mn) ∧ w'.cell? ⟨w.heap.size, 5, none⟩ = some (.string (St8 ms)) ∧ w'.cell? ⟨w.heap.size, 6, none⟩ = some (.int .i64 nu) ∧ w'.cell? ⟨w.heap.size, 7, none⟩ = some (.int .i64 ma) ∧ w'.cell? ⟨w.heap.size + 1, 0, none⟩ = some (.int .u8 k) ∧ w'.cell? ⟨w.heap.size + 1, 1, none⟩ = some (.int .i64 n) ∧ w'.cell? ⟨w.heap.size + 1, 2, none⟩ = some (.string (St8 s)))
    (first | exact hcc3 | exact hcc2 | exact hcc1 | exact hcc | (refine ⟨?_, ?_, ?_, ?_, ?_, ?_, ?_, ?_, ?_, ?_, ?_⟩ <;> go_cell))
    (first | (go_at_call 80; with_reducible refine (hcA.out _).mono ?_; rintro e w1 ⟨rfl, hb1⟩; have Hb1 := Lib.hid (HB.out.trans (hb1.mono HB.out.size)); have hcc1 := (Hcc.out w1 Hb1.out).1)
           | (go_at_call 80; with_reducible refine (hcB.out _).mono ?_; rintro e w2 ⟨rfl, hb2⟩; have Hb2 := Lib.hid (Hb1.out.trans (hb2.mono Hb1.out.size)); have hcc2 := (Hcc.out w2 Hb2.out).1)
           | (go_at_call 86; refine (Hma.out _).mono ?_; rintro e w3 ⟨rfl, hb3⟩; have Hb3 := Lib.hid (Hb2.out.trans (hb3.mono Hb2.out.size)); have hcc3 := (Hcc.out w3 Hb3.out).1; have hz3 := Hz.out.below Hb3.out; have q0 := hz3.cell 0; have q1 := hz3.cell 1; have q2 := hz3.cell 2; simp only [List.getElem?_cons_zero, List.getElem?_cons_succ, Array.toList] at q0 q1 q2; have qf := fun i => hz3.frozen i; have Hz3 := Lib.hid hz3; clear hz3; rw [T3.agg_eq]))
  have HS := Lib.hid (Blk.three Hz3.out (.bool R.no) (.bool R.un) (.bool R.ye))
  have HE := Lib.hid (below_three (Hcc.out w3 Hb3.out).2 (show w.heap.size ≤ w.heap.size + 1 + 1 by omega) (.bool R.no) (.bool R.un) (.bool R.ye))
  go_wp2_with fail
  (try simp only [Exit.inBlock, Exit.then])
  refine bodyPost_ret (results_cell_row rfl _ _ (w.heap.size + 1 + 1) 37 #[.bool R.no, .bool R.un, .bool R.ye] (0, 0) _ rfl HS.out Tryd.underlying37 rfl (by kernel_rfl)) rfl ?_
  exact ⟨rfl, HE.out⟩
end Go.Proofs.YtipnglidepfkbaaDoor
namespace Go.Proofs.YtipnglidepfkbaaDoor
set_option linter.unusedVariables false
set_option linter.unusedSimpArgs false
open Go.RowKit

attribute [local go_sem ↓] Go.wp_at_zero Go.wp_at_succ

def unkZ (z : Zo) (v : Va) : T3 := ⟨false, decide (0 < z.nulls) || decide (v.k = 0 ∧ 0 < z.many), false⟩
theorem mayF_no {z : Zo} {v : Va} {x y : Bool} (h : ¬ (z.nulls < z.many ∧ v.k ≠ 0)) : mayF z v x y = unkZ z v := by
  unfold mayF unkZ
  rw [decide_eq_false h]
  rfl
theorem mayF_yes {z : Zo} {v : Va} {x y : Bool} (h : z.nulls < z.many ∧ v.k ≠ 0) : mayF z v x y = ⟨x, (unkZ z v).un, y⟩ := by
  unfold mayF unkZ
  rw [decide_eq_true h]
  rfl
theorem va_ne {k n k' n' : Int} {s s' : List UInt8} (h : k ≠ k' ∨ n ≠ n' ∨ s ≠ s') : (⟨k, n, s⟩ : Va) ≠ ⟨k', n', s'⟩ := fun e => by
  cases e
  rcases h with h | h | h <;> exact h rfl

set_option maxHeartbeats 8000000 in
set_option maxRecDepth 100000 in
theorem runk_any (z : Zo) (v : Va) (w : World) : Calls Tryd.prog 89 #[z.agg, v.agg] w fun e w' => e = .returned (unkZ z v).agg ∧ Below w.heap.size w w' := by
  obtain ⟨⟨lk, ln, ls⟩, ⟨mk, mn, ms⟩, nu, ma⟩ := z
  obtain ⟨k, n, s⟩ := v
  unfold unkZ T3.agg Zo.agg Va.agg
  dsimp only
  by_cases h1 : 0 < nu
  · have e1 : decide (0 < nu) = true := decide_eq_true h1
    have hb : Blk ((((w.alloc (.cells #[.int .u8 lk, .int .i64 ln, .string (St8 ls), .int .u8 mk, .int .i64 mn, .string (St8 ms), .int .i64 nu, .int .i64 ma] 62)).alloc (.cells #[.int .u8 k, .int .i64 n, .string (St8 s)] 44)).alloc (.cells #[.bool false, .bool true, .bool false] 37)).alloc (.cells #[.bool false, .bool true, .bool false] 37)) (w.heap.size + 1 + 1) 37 [.bool false, .bool true, .bool false] := by
      have h := (Blk.new ((w.alloc (.cells #[.int .u8 lk, .int .i64 ln, .string (St8 ls), .int .u8 mk, .int .i64 mn, .string (St8 ms), .int .i64 nu, .int .i64 ma] 62)).alloc (.cells #[.int .u8 k, .int .i64 n, .string (St8 s)] 44)) 37 #[.bool false, .bool true, .bool false]).alloc (.cells #[.bool false, .bool true, .bool false] 37)
      rw [World.size_alloc, World.size_alloc] at h
      exact h
    have HB := Lib.hid hb
    have Hbe : Hid (Below w.heap.size w ((((w.alloc (.cells #[.int .u8 lk, .int .i64 ln, .string (St8 ls), .int .u8 mk, .int .i64 mn, .string (St8 ms), .int .i64 nu, .int .i64 ma] 62)).alloc (.cells #[.int .u8 k, .int .i64 n, .string (St8 s)] 44)).alloc (.cells #[.bool false, .bool true, .bool false] 37)).alloc (.cells #[.bool false, .bool true, .bool false] 37))) := (((((Below.refl _ _).alloc (Nat.le_refl _) _).alloc (by rw [World.size_alloc]; omega) _).alloc (by rw [World.size_alloc, World.size_alloc]; omega) _).alloc (by rw [World.size_alloc, World.size_alloc, World.size_alloc]; omega) _)
    clear hb
    go_enter Tryd.func89, Tryd.ntmps89
    go_wp2_with fail
    (try simp only [Exit.inBlock, Exit.then])
    refine bodyPost_ret (results_cell_row rfl _ _ (w.heap.size + 1 + 1) 37 #[.bool false, .bool true, .bool false] (0, 0) _ rfl HB.out Tryd.underlying37 rfl (by kernel_rfl)) rfl ?_
    exact ⟨by simp [h1], Hbe.out⟩
  · by_cases hk : k = 0
    · by_cases h2 : 0 < ma
      · subst hk
        have e1 : decide (0 < nu) = false := decide_eq_false h1
        have e2 : decide (0 < ma) = true := decide_eq_true h2
        have hb : Blk ((((w.alloc (.cells #[.int .u8 lk, .int .i64 ln, .string (St8 ls), .int .u8 mk, .int .i64 mn, .string (St8 ms), .int .i64 nu, .int .i64 ma] 62)).alloc (.cells #[.int .u8 0, .int .i64 n, .string (St8 s)] 44)).alloc (.cells #[.bool false, .bool true, .bool false] 37)).alloc (.cells #[.bool false, .bool true, .bool false] 37)) (w.heap.size + 1 + 1) 37 [.bool false, .bool true, .bool false] := by
          have h := (Blk.new ((w.alloc (.cells #[.int .u8 lk, .int .i64 ln, .string (St8 ls), .int .u8 mk, .int .i64 mn, .string (St8 ms), .int .i64 nu, .int .i64 ma] 62)).alloc (.cells #[.int .u8 0, .int .i64 n, .string (St8 s)] 44)) 37 #[.bool false, .bool true, .bool false]).alloc (.cells #[.bool false, .bool true, .bool false] 37)
          rw [World.size_alloc, World.size_alloc] at h
          exact h
        have HB := Lib.hid hb
        have Hbe : Hid (Below w.heap.size w ((((w.alloc (.cells #[.int .u8 lk, .int .i64 ln, .string (St8 ls), .int .u8 mk, .int .i64 mn, .string (St8 ms), .int .i64 nu, .int .i64 ma] 62)).alloc (.cells #[.int .u8 0, .int .i64 n, .string (St8 s)] 44)).alloc (.cells #[.bool false, .bool true, .bool false] 37)).alloc (.cells #[.bool false, .bool true, .bool false] 37))) := (((((Below.refl _ _).alloc (Nat.le_refl _) _).alloc (by rw [World.size_alloc]; omega) _).alloc (by rw [World.size_alloc, World.size_alloc]; omega) _).alloc (by rw [World.size_alloc, World.size_alloc, World.size_alloc]; omega) _)
        clear hb
        go_enter Tryd.func89, Tryd.ntmps89
        go_wp2_with fail
        (try simp only [Exit.inBlock, Exit.then])
        refine bodyPost_ret (results_cell_row rfl _ _ (w.heap.size + 1 + 1) 37 #[.bool false, .bool true, .bool false] (0, 0) _ rfl HB.out Tryd.underlying37 rfl (by kernel_rfl)) rfl ?_
        exact ⟨by simp [h1, h2], Hbe.out⟩
      · subst hk
        have e1 : decide (0 < nu) = false := decide_eq_false h1
        have e2 : decide (0 < ma) = false := decide_eq_false h2
        have hb : Blk ((((w.alloc (.cells #[.int .u8 lk, .int .i64 ln, .string (St8 ls), .int .u8 mk, .int .i64 mn, .string (St8 ms), .int .i64 nu, .int .i64 ma] 62)).alloc (.cells #[.int .u8 0, .int .i64 n, .string (St8 s)] 44)).alloc (.cells #[.bool false, .bool false, .bool false] 37)).alloc (.cells #[.bool false, .bool false, .bool false] 37)) (w.heap.size + 1 + 1) 37 [.bool false, .bool false, .bool false] := by
          have h := (Blk.new ((w.alloc (.cells #[.int .u8 lk, .int .i64 ln, .string (St8 ls), .int .u8 mk, .int .i64 mn, .string (St8 ms), .int .i64 nu, .int .i64 ma] 62)).alloc (.cells #[.int .u8 0, .int .i64 n, .string (St8 s)] 44)) 37 #[.bool false, .bool false, .bool false]).alloc (.cells #[.bool false, .bool false, .bool false] 37)
          rw [World.size_alloc, World.size_alloc] at h
          exact h
        have HB := Lib.hid hb
        have Hbe : Hid (Below w.heap.size w ((((w.alloc (.cells #[.int .u8 lk, .int .i64 ln, .string (St8 ls), .int .u8 mk, .int .i64 mn, .string (St8 ms), .int .i64 nu, .int .i64 ma] 62)).alloc (.cells #[.int .u8 0, .int .i64 n, .string (St8 s)] 44)).alloc (.cells #[.bool false, .bool false, .bool false] 37)).alloc (.cells #[.bool false, .bool false, .bool false] 37))) := (((((Below.refl _ _).alloc (Nat.le_refl _) _).alloc (by rw [World.size_alloc]; omega) _).alloc (by rw [World.size_alloc, World.size_alloc]; omega) _).alloc (by rw [World.size_alloc, World.size_alloc, World.size_alloc]; omega) _)
        clear hb
        go_enter Tryd.func89, Tryd.ntmps89
        go_wp2_with fail
        (try simp only [Exit.inBlock, Exit.then])
        refine bodyPost_ret (results_cell_row rfl _ _ (w.heap.size + 1 + 1) 37 #[.bool false, .bool false, .bool false] (0, 0) _ rfl HB.out Tryd.underlying37 rfl (by kernel_rfl)) rfl ?_
        exact ⟨by simp [h1, h2], Hbe.out⟩
    · have k1 : (k == 0) = false := by rw [beq_eq_false_iff_ne]; exact hk
      have e1 : decide (0 < nu) = false := decide_eq_false h1
      have hb : Blk ((((w.alloc (.cells #[.int .u8 lk, .int .i64 ln, .string (St8 ls), .int .u8 mk, .int .i64 mn, .string (St8 ms), .int .i64 nu, .int .i64 ma] 62)).alloc (.cells #[.int .u8 k, .int .i64 n, .string (St8 s)] 44)).alloc (.cells #[.bool false, .bool false, .bool false] 37)).alloc (.cells #[.bool false, .bool false, .bool false] 37)) (w.heap.size + 1 + 1) 37 [.bool false, .bool false, .bool false] := by
        have h := (Blk.new ((w.alloc (.cells #[.int .u8 lk, .int .i64 ln, .string (St8 ls), .int .u8 mk, .int .i64 mn, .string (St8 ms), .int .i64 nu, .int .i64 ma] 62)).alloc (.cells #[.int .u8 k, .int .i64 n, .string (St8 s)] 44)) 37 #[.bool false, .bool false, .bool false]).alloc (.cells #[.bool false, .bool false, .bool false] 37)
        rw [World.size_alloc, World.size_alloc] at h
        exact h
      have HB := Lib.hid hb
      have Hbe : Hid (Below w.heap.size w ((((w.alloc (.cells #[.int .u8 lk, .int .i64 ln, .string (St8 ls), .int .u8 mk, .int .i64 mn, .string (St8 ms), .int .i64 nu, .int .i64 ma] 62)).alloc (.cells #[.int .u8 k, .int .i64 n, .string (St8 s)] 44)).alloc (.cells #[.bool false, .bool false, .bool false] 37)).alloc (.cells #[.bool false, .bool false, .bool false] 37))) := (((((Below.refl _ _).alloc (Nat.le_refl _) _).alloc (by rw [World.size_alloc]; omega) _).alloc (by rw [World.size_alloc, World.size_alloc]; omega) _).alloc (by rw [World.size_alloc, World.size_alloc, World.size_alloc]; omega) _)
      clear hb
      go_enter Tryd.func89, Tryd.ntmps89
      go_wp2_with fail
      (try simp only [Exit.inBlock, Exit.then])
      refine bodyPost_ret (results_cell_row rfl _ _ (w.heap.size + 1 + 1) 37 #[.bool false, .bool false, .bool false] (0, 0) _ rfl HB.out Tryd.underlying37 rfl (by kernel_rfl)) rfl ?_
      exact ⟨by simp [h1, hk], Hbe.out⟩
set_option maxHeartbeats 16000000 in
set_option maxRecDepth 100000 in
theorem rzless_any (z : Zo) (v : Va) (w : World) : Calls Tryd.prog 72 #[z.agg, v.agg] w fun e w' => e = .returned (lessZ z v).agg ∧ Below w.heap.size w w' := by
  have hcA := Lib.hid (fun w' => rcompare_c z.least v w')
  have hcB := Lib.hid (fun w' => rcompare_c z.most v w')
  have hun := Lib.hid (fun w' => runk_any z v w')
  have hv0 : Hid (¬ (z.nulls < z.many ∧ v.k ≠ 0) → lessZ z v = unkZ z v) := mayF_no
  have hv1 : Hid (∀ X Y, X = decide (0 ≤ cmpVa z.most v) → Y = decide (cmpVa z.least v < 0) → z.nulls < z.many ∧ v.k ≠ 0 → lessZ z v = ⟨X, (unkZ z v).un, Y⟩) := fun X Y hX hY h => by
    subst hX
    subst hY
    exact mayF_yes h
  have hu : unkZ z v = ⟨false, (unkZ z v).un, false⟩ := rfl
  generalize lessZ z v = R at *
  generalize (unkZ z v).un = U at *
  generalize unkZ z v = UZ at *
  subst hu
  generalize cmpVa z.least v = A at *
  generalize cmpVa z.most v = B at *
  obtain ⟨⟨lk, ln, ls⟩, ⟨mk, mn, ms⟩, nu, ma⟩ := z
  obtain ⟨k, n, s⟩ := v
  have hb1 : Below w.heap.size w (w.alloc (.cells #[.int .u8 lk, .int .i64 ln, .string (St8 ls), .int .u8 mk, .int .i64 mn, .string (St8 ms), .int .i64 nu, .int .i64 ma] 62)) := (Below.refl _ _).alloc (Nat.le_refl _) _
  have hb2 : Below w.heap.size w ((w.alloc (.cells #[.int .u8 lk, .int .i64 ln, .string (St8 ls), .int .u8 mk, .int .i64 mn, .string (St8 ms), .int .i64 nu, .int .i64 ma] 62)).alloc (.cells #[.int .u8 k, .int .i64 n, .string (St8 s)] 44)) := hb1.alloc (by rw [World.size_alloc]; omega) _
  have hb3 : Below w.heap.size w (((w.alloc (.cells #[.int .u8 lk, .int .i64 ln, .string (St8 ls), .int .u8 mk, .int .i64 mn, .string (St8 ms), .int .i64 nu, .int .i64 ma] 62)).alloc (.cells #[.int .u8 k, .int .i64 n, .string (St8 s)] 44)).alloc (.cells #[.bool false, .bool false, .bool false] 37)) := hb2.alloc (by rw [World.size_alloc, World.size_alloc]; omega) _
  have hx := ((Blk.new w 62 #[.int .u8 lk, .int .i64 ln, .string (St8 ls), .int .u8 mk, .int .i64 mn, .string (St8 ms), .int .i64 nu, .int .i64 ma]).alloc (.cells #[.int .u8 k, .int .i64 n, .string (St8 s)] 44)).alloc (.cells #[.bool false, .bool false, .bool false] 37)
  have hy := (Blk.new (w.alloc (.cells #[.int .u8 lk, .int .i64 ln, .string (St8 ls), .int .u8 mk, .int .i64 mn, .string (St8 ms), .int .i64 nu, .int .i64 ma] 62)) 44 #[.int .u8 k, .int .i64 n, .string (St8 s)]).alloc (.cells #[.bool false, .bool false, .bool false] 37)
  have hz := Blk.new ((w.alloc (.cells #[.int .u8 lk, .int .i64 ln, .string (St8 ls), .int .u8 mk, .int .i64 mn, .string (St8 ms), .int .i64 nu, .int .i64 ma] 62)).alloc (.cells #[.int .u8 k, .int .i64 n, .string (St8 s)] 44)) 37 #[.bool false, .bool false, .bool false]
  rw [World.size_alloc] at hy
  rw [World.size_alloc, World.size_alloc] at hz
  unfold Zo.agg at hun ⊢
  unfold Va.agg at hun hcA hcB ⊢
  unfold T3.agg at hun
  dsimp only at hun hcA hcB hv0 hv1 ⊢
  have hW0 : (((w.alloc (.cells #[.int .u8 lk, .int .i64 ln, .string (St8 ls), .int .u8 mk, .int .i64 mn, .string (St8 ms), .int .i64 nu, .int .i64 ma] 62)).alloc (.cells #[.int .u8 k, .int .i64 n, .string (St8 s)] 44)).alloc (.cells #[.bool false, .bool false, .bool false] 37)).heap.size = w.heap.size + 3 := by rw [World.size_alloc, World.size_alloc, World.size_alloc]
  generalize hW : (((w.alloc (.cells #[.int .u8 lk, .int .i64 ln, .string (St8 ls), .int .u8 mk, .int .i64 mn, .string (St8 ms), .int .i64 nu, .int .i64 ma] 62)).alloc (.cells #[.int .u8 k, .int .i64 n, .string (St8 s)] 44)).alloc (.cells #[.bool false, .bool false, .bool false] 37)) = W at *
  have HW := Lib.hid hW
  have Hz := Lib.hid hz
  have Hcc : Hid (∀ w', Below W.heap.size W w' → (w'.cell? ⟨w.heap.size, 0, none⟩ = some (.int .u8 lk) ∧ w'.cell? ⟨w.heap.size, 1, none⟩ = some (.int .i64 ln) ∧ w'.cell? ⟨w.heap.size, 2, none⟩ = some (.string (St8 ls)) ∧ w'.cell? ⟨w.heap.size, 3, none⟩ = some (.int .u8 mk) ∧ w'.cell? ⟨w.heap.size, 4, none⟩ = some (.int .i64 mn) ∧ w'.cell? ⟨w.heap.size, 5, none⟩ = some (.string (St8 ms)) ∧ w'.cell? ⟨w.heap.size, 6, none⟩ = some (.int .i64 nu) ∧ w'.cell? ⟨w.heap.size, 7, none⟩ = some (.int .i64 ma) ∧ w'.cell? ⟨w.heap.size + 1, 0, none⟩ = some (.int .u8 k) ∧ w'.cell? ⟨w.heap.size + 1, 1, none⟩ = some (.int .i64 n) ∧ w'.cell? ⟨w.heap.size + 1, 2, none⟩ = some (.string (St8 s)) ∧ w'.cell? ⟨w.heap.size + 1 + 1, 0, none⟩ = some (.bool false) ∧ w'.cell? ⟨w.heap.size + 1 + 1, 1, none⟩ = some (.bool false) ∧ w'.cell? ⟨w.heap.size + 1 + 1, 2, none⟩ = some (.bool false) ∧ (∀ i, w'.frozen? ⟨w.heap.size + 1 + 1, i, none⟩ = false)) ∧ Below w.heap.size w w') := fun w' hb => ⟨⟨(hx.below hb).cell 0, (hx.below hb).cell 1, (hx.below hb).cell 2, (hx.below hb).cell 3, (hx.below hb).cell 4, (hx.below hb).cell 5, (hx.below hb).cell 6, (hx.below hb).cell 7, (hy.below hb).cell 0, (hy.below hb).cell 1, (hy.below hb).cell 2, (hz.below hb).cell 0, (hz.below hb).cell 1, (hz.below hb).cell 2, fun i => (hz.below hb).frozen i⟩, hb3.trans (hb.mono hb3.size)⟩
  clear hW hx hy hz hb1 hb2 hb3
  by_cases h3 : nu < ma
  · by_cases hk : k = 0
    · subst hk
      have hno := hv0.out (fun h => h.2 rfl)
      have HEq := Lib.hid hno
      clear hno hv0 hv1
      go_enter Tryd.func72, Tryd.ntmps72
      go_wp2_with fail
      rw [HW.out]
      refine (hun.out _).mono ?_
      rintro e w1 ⟨rfl, hb1⟩
      have hz1 := hb1.size
      rw [hW0] at hz1
      have hb2 : Below W.heap.size W (w1.alloc (.cells #[.bool false, .bool U, .bool false] 37)) := hb1.alloc hb1.size _
      have hO1 := T3At.new w1 37 ⟨false, U, false⟩
      have Hb2 := Lib.hid hb2
      have HO1 := Lib.hid hO1
      obtain ⟨c0, c1, c2, c3, c4, c5, c6, c7, c8, c9, c10, c11, c12, c13, c14⟩ := (Hcc.out _ hb2).1
      clear hb1 hb2 hO1
      have HS := Lib.hid (Blk.three (Hz.out.below Hb2.out) (.bool false) (.bool U) (.bool false))
      have HE := Lib.hid (below_three (Hcc.out _ Hb2.out).2 (show w.heap.size ≤ w.heap.size + 1 + 1 by omega) (.bool false) (.bool U) (.bool false))
      go_wp2_with fail
      (try simp only [Exit.inBlock, Exit.then])
      refine bodyPost_ret (results_cell_row rfl _ _ (w.heap.size + 1 + 1) 37 #[.bool false, .bool U, .bool false] (0, 0) _ rfl HS.out Tryd.underlying37 rfl (by kernel_rfl)) rfl ?_
      rw [HEq.out]
      exact ⟨rfl, HE.out⟩
    · have k2 : (k != 0) = true := by rw [bne_iff_ne]; exact hk
      go_enter Tryd.func72, Tryd.ntmps72
      go_wp2_with fail
      rw [HW.out]
      refine (hun.out _).mono ?_
      rintro e w1 ⟨rfl, hb1⟩
      have hz1 := hb1.size
      rw [hW0] at hz1
      have hb2 : Below W.heap.size W (w1.alloc (.cells #[.bool false, .bool U, .bool false] 37)) := hb1.alloc hb1.size _
      have hO1 := T3At.new w1 37 ⟨false, U, false⟩
      have Hb2 := Lib.hid hb2
      have HO1 := Lib.hid hO1
      obtain ⟨c0, c1, c2, c3, c4, c5, c6, c7, c8, c9, c10, c11, c12, c13, c14⟩ := (Hcc.out _ hb2).1
      clear hb1 hb2 hO1
      go_wp2_with fail
      with_reducible refine (hcA.out _).mono ?_
      rintro e w2 ⟨rfl, hbq⟩
      have Hb2w := Lib.hid (Hb2.out.trans (hbq.mono Hb2.out.size))
      have HO2 := Lib.hid (HO1.out.below hbq)
      clear c0 c1 c2 c3 c4 c5 c6 c7 c8 c9 c10 c11 c12 c13 c14
      obtain ⟨d0, d1, d2, d3, d4, d5, d6, d7, d8, d9, d10, d11, d12, d13, d14⟩ := (Hcc.out _ Hb2w.out).1
      clear hbq
      have HS0 : Hid (T3At (w2.setCell ⟨w1.heap.size, 2, none⟩ (.bool (decide (A < 0)))) w1.heap.size 37 ⟨false, U, decide (A < 0)⟩) := Blk.set_ HO2.out 2 (.bool (decide (A < 0)))
      have hbs : Below W.heap.size W (w2.setCell ⟨w1.heap.size, 2, none⟩ (.bool (decide (A < 0)))) := Hb2w.out.setCell (show W.heap.size ≤ w1.heap.size by omega) _
      have Hbs := Lib.hid hbs
      obtain ⟨o0, o1, o2⟩ := HO2.out.cells
      have oF := fun i => HO2.out.frozen i
      clear hbs
      go_wp2_with fail
      with_reducible refine (hcB.out _).mono ?_
      rintro e w3 ⟨rfl, hbq⟩
      have Hb3w := Lib.hid (Hbs.out.trans (hbq.mono Hbs.out.size))
      have HO3 := Lib.hid (HS0.out.below hbq)
      clear d0 d1 d2 d3 d4 d5 d6 d7 d8 d9 d10 d11 d12 d13 d14
      obtain ⟨e0, e1, e2, e3, e4, e5, e6, e7, e8, e9, e10, e11, e12, e13, e14⟩ := (Hcc.out _ Hb3w.out).1
      clear hbq o0 o1 o2 oF
      have hEq := hv1.out (decide (0 ≤ B)) (decide (A < 0)) rfl rfl ⟨h3, hk⟩
      have HEq := Lib.hid hEq
      clear hEq hv0 hv1
      have hzr : Blk (w3.setCell ⟨w1.heap.size, 0, none⟩ (.bool (decide (0 ≤ B)))) (w.heap.size + 1 + 1) 37 [.bool false, .bool false, .bool false] := (Hz.out.below Hb3w.out).far (show w.heap.size + 1 + 1 ≠ w1.heap.size by omega) _
      have HS := Lib.hid (Blk.three hzr (.bool (decide (0 ≤ B))) (.bool U) (.bool (decide (A < 0))))
      have HE := Lib.hid (below_three (below_set (Hcc.out _ Hb3w.out).2 (show w.heap.size ≤ w1.heap.size by omega) 0 (.bool (decide (0 ≤ B)))) (show w.heap.size ≤ w.heap.size + 1 + 1 by omega) (.bool (decide (0 ≤ B))) (.bool U) (.bool (decide (A < 0))))
      obtain ⟨o0, o1, o2⟩ := HO3.out.cells
      have oF := fun i => HO3.out.frozen i
      clear hzr
      go_wp2_with fail
      (try simp only [Exit.inBlock, Exit.then])
      refine bodyPost_ret (results_cell_row rfl _ _ (w.heap.size + 1 + 1) 37 #[.bool (decide (0 ≤ B)), .bool U, .bool (decide (A < 0))] (0, 0) _ rfl HS.out Tryd.underlying37 rfl (by kernel_rfl)) rfl ?_
      rw [HEq.out]
      exact ⟨rfl, HE.out⟩
  · have hno := hv0.out (fun h => h3 h.1)
    have HEq := Lib.hid hno
    clear hno hv0 hv1
    go_enter Tryd.func72, Tryd.ntmps72
    go_wp2_with fail
    rw [HW.out]
    refine (hun.out _).mono ?_
    rintro e w1 ⟨rfl, hb1⟩
    have hz1 := hb1.size
    rw [hW0] at hz1
    have hb2 : Below W.heap.size W (w1.alloc (.cells #[.bool false, .bool U, .bool false] 37)) := hb1.alloc hb1.size _
    have hO1 := T3At.new w1 37 ⟨false, U, false⟩
    have Hb2 := Lib.hid hb2
    have HO1 := Lib.hid hO1
    obtain ⟨c0, c1, c2, c3, c4, c5, c6, c7, c8, c9, c10, c11, c12, c13, c14⟩ := (Hcc.out _ hb2).1
    clear hb1 hb2 hO1
    have HS := Lib.hid (Blk.three (Hz.out.below Hb2.out) (.bool false) (.bool U) (.bool false))
    have HE := Lib.hid (below_three (Hcc.out _ Hb2.out).2 (show w.heap.size ≤ w.heap.size + 1 + 1 by omega) (.bool false) (.bool U) (.bool false))
    go_wp2_with fail
    (try simp only [Exit.inBlock, Exit.then])
    refine bodyPost_ret (results_cell_row rfl _ _ (w.heap.size + 1 + 1) 37 #[.bool false, .bool U, .bool false] (0, 0) _ rfl HS.out Tryd.underlying37 rfl (by kernel_rfl)) rfl ?_
    rw [HEq.out]
    exact ⟨rfl, HE.out⟩
end Go.Proofs.YtipnglidepfkbaaDoor
