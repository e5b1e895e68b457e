/- Walks: what may come of a node that asks a column: the program's and the reference's. (Printed by gen_myl.py.) -/
import Derived.Test.YtipnglidepfkbaaDoorMMyK
import Derived.Test.YtipnglidepfkbaaDoorMGrV
import Derived.Test.YtipnglidepfkbaaDoorMMyF
namespace Go.Proofs.YtipnglidepfkbaaDoor
set_option linter.unusedVariables false
set_option linter.unusedSimpArgs false
open Go.RowKit

attribute [local go_sem ↓] Go.wp_at_zero Go.wp_at_succ

set_option maxHeartbeats 8000000 in
set_option maxRecDepth 100000 in
theorem zknown_c (n : Nd) (z : Zo) (w : World) (hop : 5 ≤ n.op ∧ n.op ≤ 8) (hs : n.v.s.length ≤ 1000000) (hlk : n.op = 7 → (partsM n.v.s).2 = true) : Calls Tryd.prog 43 #[n.agg, z.agg] w fun e w' => e = .returned (knownZ n z).agg ∧ Below w.heap.size w w' := by
  obtain ⟨⟨lk, ln, ls⟩, ⟨mk, mn, ms⟩, nu, ma⟩ := z
  obtain ⟨op, col, kids, k, nn, s⟩ := n
  dsimp only at hop hs hlk
  rcases (show op = 5 ∨ op = 6 ∨ op = 8 ∨ op = 7 by omega) with rfl | rfl | rfl | rfl
  · have hR : knownZ ⟨5, col, kids, k, nn, s⟩ ⟨⟨lk, ln, ls⟩, ⟨mk, mn, ms⟩, nu, ma⟩ = equalZ ⟨⟨lk, ln, ls⟩, ⟨mk, mn, ms⟩, nu, ma⟩ ⟨k, nn, s⟩ := rfl
    rw [hR]
    clear hlk hop hs hR
    have hb1 : Below w.heap.size w (w.alloc (.cells #[.int .u8 5, .int .i64 col, .int .i64 kids, .int .u8 k, .int .i64 nn, .string (St8 s)] 46)) := (Below.refl _ _).alloc (Nat.le_refl _) _
    have hb2 : Below w.heap.size w ((w.alloc (.cells #[.int .u8 5, .int .i64 col, .int .i64 kids, .int .u8 k, .int .i64 nn, .string (St8 s)] 46)).alloc (.cells #[.int .u8 lk, .int .i64 ln, .string (St8 ls), .int .u8 mk, .int .i64 mn, .string (St8 ms), .int .i64 nu, .int .i64 ma] 62)) := hb1.alloc (by rw [World.size_alloc]; omega) _
    have hb3 : Below w.heap.size w (((w.alloc (.cells #[.int .u8 5, .int .i64 col, .int .i64 kids, .int .u8 k, .int .i64 nn, .string (St8 s)] 46)).alloc (.cells #[.int .u8 lk, .int .i64 ln, .string (St8 ls), .int .u8 mk, .int .i64 mn, .string (St8 ms), .int .i64 nu, .int .i64 ma] 62)).alloc (.cells #[.bool false, .bool false, .bool false] 37)) := hb2.alloc (by rw [World.size_alloc, World.size_alloc]; omega) _
    have hz : T3At (((w.alloc (.cells #[.int .u8 5, .int .i64 col, .int .i64 kids, .int .u8 k, .int .i64 nn, .string (St8 s)] 46)).alloc (.cells #[.int .u8 lk, .int .i64 ln, .string (St8 ls), .int .u8 mk, .int .i64 mn, .string (St8 ms), .int .i64 nu, .int .i64 ma] 62)).alloc (.cells #[.bool false, .bool false, .bool false] 37)) (w.heap.size + 1 + 1) 37 ⟨false, false, false⟩ := by
      have h := T3At.new ((w.alloc (.cells #[.int .u8 5, .int .i64 col, .int .i64 kids, .int .u8 k, .int .i64 nn, .string (St8 s)] 46)).alloc (.cells #[.int .u8 lk, .int .i64 ln, .string (St8 ls), .int .u8 mk, .int .i64 mn, .string (St8 ms), .int .i64 nu, .int .i64 ma] 62)) 37 ⟨false, false, false⟩
      rw [World.size_alloc, World.size_alloc] at h
      exact h
    have hcall := zequal_any ⟨⟨lk, ln, ls⟩, ⟨mk, mn, ms⟩, nu, ma⟩ ⟨k, nn, s⟩ (((w.alloc (.cells #[.int .u8 5, .int .i64 col, .int .i64 kids, .int .u8 k, .int .i64 nn, .string (St8 s)] 46)).alloc (.cells #[.int .u8 lk, .int .i64 ln, .string (St8 ls), .int .u8 mk, .int .i64 mn, .string (St8 ms), .int .i64 nu, .int .i64 ma] 62)).alloc (.cells #[.bool false, .bool false, .bool false] 37))
    generalize equalZ ⟨⟨lk, ln, ls⟩, ⟨mk, mn, ms⟩, nu, ma⟩ ⟨k, nn, s⟩ = R at *
    unfold Zo.agg at hcall ⊢
    unfold Va.agg at hcall
    unfold Nd.agg
    dsimp only at hcall ⊢
    have Hca := Lib.hid hcall
    have Hz := Lib.hid hz
    have Hb3 := Lib.hid hb3
    clear hcall hz hb1 hb2 hb3
    go_enter Tryd.func43, Tryd.ntmps43
    go_wp2_with fail
    refine Hca.out.mono ?_
    rintro e w1 ⟨rfl, hb1⟩
    have Hb1 := Lib.hid (Hb3.out.trans (hb1.mono Hb3.out.size))
    have HO := Lib.hid (Hz.out.below hb1)
    obtain ⟨q0, q1, q2⟩ := HO.out.cells
    have qf := fun i => HO.out.frozen i
    have HS := Lib.hid (HO.out.three R)
    have HE := Lib.hid (below_three Hb1.out (show w.heap.size ≤ w.heap.size + 1 + 1 by omega) (.bool R.no) (.bool R.un) (.bool R.ye))
    rw [T3.agg_eq]
    clear hb1
    go_wp2_with fail
    (try simp only [Exit.inBlock, Exit.then])
    refine bodyPost_ret (results_cell_row rfl _ _ (w.heap.size + 1 + 1) 37 #[.bool R.no, .bool R.un, .bool R.ye] (0, 0) _ rfl HS.out Tryd.underlying37 rfl (by kernel_rfl)) rfl ?_
    exact ⟨rfl, HE.out⟩
  · have hR : knownZ ⟨6, col, kids, k, nn, s⟩ ⟨⟨lk, ln, ls⟩, ⟨mk, mn, ms⟩, nu, ma⟩ = lessZ ⟨⟨lk, ln, ls⟩, ⟨mk, mn, ms⟩, nu, ma⟩ ⟨k, nn, s⟩ := rfl
    rw [hR]
    clear hlk hop hs hR
    have hb1 : Below w.heap.size w (w.alloc (.cells #[.int .u8 6, .int .i64 col, .int .i64 kids, .int .u8 k, .int .i64 nn, .string (St8 s)] 46)) := (Below.refl _ _).alloc (Nat.le_refl _) _
    have hb2 : Below w.heap.size w ((w.alloc (.cells #[.int .u8 6, .int .i64 col, .int .i64 kids, .int .u8 k, .int .i64 nn, .string (St8 s)] 46)).alloc (.cells #[.int .u8 lk, .int .i64 ln, .string (St8 ls), .int .u8 mk, .int .i64 mn, .string (St8 ms), .int .i64 nu, .int .i64 ma] 62)) := hb1.alloc (by rw [World.size_alloc]; omega) _
    have hb3 : Below w.heap.size w (((w.alloc (.cells #[.int .u8 6, .int .i64 col, .int .i64 kids, .int .u8 k, .int .i64 nn, .string (St8 s)] 46)).alloc (.cells #[.int .u8 lk, .int .i64 ln, .string (St8 ls), .int .u8 mk, .int .i64 mn, .string (St8 ms), .int .i64 nu, .int .i64 ma] 62)).alloc (.cells #[.bool false, .bool false, .bool false] 37)) := hb2.alloc (by rw [World.size_alloc, World.size_alloc]; omega) _
    have hz : T3At (((w.alloc (.cells #[.int .u8 6, .int .i64 col, .int .i64 kids, .int .u8 k, .int .i64 nn, .string (St8 s)] 46)).alloc (.cells #[.int .u8 lk, .int .i64 ln, .string (St8 ls), .int .u8 mk, .int .i64 mn, .string (St8 ms), .int .i64 nu, .int .i64 ma] 62)).alloc (.cells #[.bool false, .bool false, .bool false] 37)) (w.heap.size + 1 + 1) 37 ⟨false, false, false⟩ := by
      have h := T3At.new ((w.alloc (.cells #[.int .u8 6, .int .i64 col, .int .i64 kids, .int .u8 k, .int .i64 nn, .string (St8 s)] 46)).alloc (.cells #[.int .u8 lk, .int .i64 ln, .string (St8 ls), .int .u8 mk, .int .i64 mn, .string (St8 ms), .int .i64 nu, .int .i64 ma] 62)) 37 ⟨false, false, false⟩
      rw [World.size_alloc, World.size_alloc] at h
      exact h
    have hcall := zless_any ⟨⟨lk, ln, ls⟩, ⟨mk, mn, ms⟩, nu, ma⟩ ⟨k, nn, s⟩ (((w.alloc (.cells #[.int .u8 6, .int .i64 col, .int .i64 kids, .int .u8 k, .int .i64 nn, .string (St8 s)] 46)).alloc (.cells #[.int .u8 lk, .int .i64 ln, .string (St8 ls), .int .u8 mk, .int .i64 mn, .string (St8 ms), .int .i64 nu, .int .i64 ma] 62)).alloc (.cells #[.bool false, .bool false, .bool false] 37))
    generalize lessZ ⟨⟨lk, ln, ls⟩, ⟨mk, mn, ms⟩, nu, ma⟩ ⟨k, nn, s⟩ = R at *
    unfold Zo.agg at hcall ⊢
    unfold Va.agg at hcall
    unfold Nd.agg
    dsimp only at hcall ⊢
    have Hca := Lib.hid hcall
    have Hz := Lib.hid hz
    have Hb3 := Lib.hid hb3
    clear hcall hz hb1 hb2 hb3
    go_enter Tryd.func43, Tryd.ntmps43
    go_wp2_with fail
    refine Hca.out.mono ?_
    rintro e w1 ⟨rfl, hb1⟩
    have Hb1 := Lib.hid (Hb3.out.trans (hb1.mono Hb3.out.size))
    have HO := Lib.hid (Hz.out.below hb1)
    obtain ⟨q0, q1, q2⟩ := HO.out.cells
    have qf := fun i => HO.out.frozen i
    have HS := Lib.hid (HO.out.three R)
    have HE := Lib.hid (below_three Hb1.out (show w.heap.size ≤ w.heap.size + 1 + 1 by omega) (.bool R.no) (.bool R.un) (.bool R.ye))
    rw [T3.agg_eq]
    clear hb1
    go_wp2_with fail
    (try simp only [Exit.inBlock, Exit.then])
    refine bodyPost_ret (results_cell_row rfl _ _ (w.heap.size + 1 + 1) 37 #[.bool R.no, .bool R.un, .bool R.ye] (0, 0) _ rfl HS.out Tryd.underlying37 rfl (by kernel_rfl)) rfl ?_
    exact ⟨rfl, HE.out⟩
  · have hR : knownZ ⟨8, col, kids, k, nn, s⟩ ⟨⟨lk, ln, ls⟩, ⟨mk, mn, ms⟩, nu, ma⟩ = nullZ ⟨⟨lk, ln, ls⟩, ⟨mk, mn, ms⟩, nu, ma⟩ := rfl
    rw [hR]
    clear hlk hop hs hR
    have hb1 : Below w.heap.size w (w.alloc (.cells #[.int .u8 8, .int .i64 col, .int .i64 kids, .int .u8 k, .int .i64 nn, .string (St8 s)] 46)) := (Below.refl _ _).alloc (Nat.le_refl _) _
    have hb2 : Below w.heap.size w ((w.alloc (.cells #[.int .u8 8, .int .i64 col, .int .i64 kids, .int .u8 k, .int .i64 nn, .string (St8 s)] 46)).alloc (.cells #[.int .u8 lk, .int .i64 ln, .string (St8 ls), .int .u8 mk, .int .i64 mn, .string (St8 ms), .int .i64 nu, .int .i64 ma] 62)) := hb1.alloc (by rw [World.size_alloc]; omega) _
    have hb3 : Below w.heap.size w (((w.alloc (.cells #[.int .u8 8, .int .i64 col, .int .i64 kids, .int .u8 k, .int .i64 nn, .string (St8 s)] 46)).alloc (.cells #[.int .u8 lk, .int .i64 ln, .string (St8 ls), .int .u8 mk, .int .i64 mn, .string (St8 ms), .int .i64 nu, .int .i64 ma] 62)).alloc (.cells #[.bool false, .bool false, .bool false] 37)) := hb2.alloc (by rw [World.size_alloc, World.size_alloc]; omega) _
    have hz : T3At (((w.alloc (.cells #[.int .u8 8, .int .i64 col, .int .i64 kids, .int .u8 k, .int .i64 nn, .string (St8 s)] 46)).alloc (.cells #[.int .u8 lk, .int .i64 ln, .string (St8 ls), .int .u8 mk, .int .i64 mn, .string (St8 ms), .int .i64 nu, .int .i64 ma] 62)).alloc (.cells #[.bool false, .bool false, .bool false] 37)) (w.heap.size + 1 + 1) 37 ⟨false, false, false⟩ := by
      have h := T3At.new ((w.alloc (.cells #[.int .u8 8, .int .i64 col, .int .i64 kids, .int .u8 k, .int .i64 nn, .string (St8 s)] 46)).alloc (.cells #[.int .u8 lk, .int .i64 ln, .string (St8 ls), .int .u8 mk, .int .i64 mn, .string (St8 ms), .int .i64 nu, .int .i64 ma] 62)) 37 ⟨false, false, false⟩
      rw [World.size_alloc, World.size_alloc] at h
      exact h
    have hcall := znull_any ⟨⟨lk, ln, ls⟩, ⟨mk, mn, ms⟩, nu, ma⟩ (((w.alloc (.cells #[.int .u8 8, .int .i64 col, .int .i64 kids, .int .u8 k, .int .i64 nn, .string (St8 s)] 46)).alloc (.cells #[.int .u8 lk, .int .i64 ln, .string (St8 ls), .int .u8 mk, .int .i64 mn, .string (St8 ms), .int .i64 nu, .int .i64 ma] 62)).alloc (.cells #[.bool false, .bool false, .bool false] 37))
    generalize nullZ ⟨⟨lk, ln, ls⟩, ⟨mk, mn, ms⟩, nu, ma⟩ = R at *
    unfold Zo.agg at hcall ⊢

    unfold Nd.agg
    dsimp only at hcall ⊢
    have Hca := Lib.hid hcall
    have Hz := Lib.hid hz
    have Hb3 := Lib.hid hb3
    clear hcall hz hb1 hb2 hb3
    go_enter Tryd.func43, Tryd.ntmps43
    go_wp2_with fail
    refine Hca.out.mono ?_
    rintro e w1 ⟨rfl, hb1⟩
    have Hb1 := Lib.hid (Hb3.out.trans (hb1.mono Hb3.out.size))
    have HO := Lib.hid (Hz.out.below hb1)
    obtain ⟨q0, q1, q2⟩ := HO.out.cells
    have qf := fun i => HO.out.frozen i
    have HS := Lib.hid (HO.out.three R)
    have HE := Lib.hid (below_three Hb1.out (show w.heap.size ≤ w.heap.size + 1 + 1 by omega) (.bool R.no) (.bool R.un) (.bool R.ye))
    rw [T3.agg_eq]
    clear hb1
    go_wp2_with fail
    (try simp only [Exit.inBlock, Exit.then])
    refine bodyPost_ret (results_cell_row rfl _ _ (w.heap.size + 1 + 1) 37 #[.bool R.no, .bool R.un, .bool R.ye] (0, 0) _ rfl HS.out Tryd.underlying37 rfl (by kernel_rfl)) rfl ?_
    exact ⟨rfl, HE.out⟩
  · have hR : knownZ ⟨7, col, kids, k, nn, s⟩ ⟨⟨lk, ln, ls⟩, ⟨mk, mn, ms⟩, nu, ma⟩ = alikeZ ⟨⟨lk, ln, ls⟩, ⟨mk, mn, ms⟩, nu, ma⟩ s := rfl
    rw [hR]
    have hlk := hlk rfl
    clear hop hR
    have hb1 : Below w.heap.size w (w.alloc (.cells #[.int .u8 7, .int .i64 col, .int .i64 kids, .int .u8 k, .int .i64 nn, .string (St8 s)] 46)) := (Below.refl _ _).alloc (Nat.le_refl _) _
    have hb2 : Below w.heap.size w ((w.alloc (.cells #[.int .u8 7, .int .i64 col, .int .i64 kids, .int .u8 k, .int .i64 nn, .string (St8 s)] 46)).alloc (.cells #[.int .u8 lk, .int .i64 ln, .string (St8 ls), .int .u8 mk, .int .i64 mn, .string (St8 ms), .int .i64 nu, .int .i64 ma] 62)) := hb1.alloc (by rw [World.size_alloc]; omega) _
    have hb3 : Below w.heap.size w (((w.alloc (.cells #[.int .u8 7, .int .i64 col, .int .i64 kids, .int .u8 k, .int .i64 nn, .string (St8 s)] 46)).alloc (.cells #[.int .u8 lk, .int .i64 ln, .string (St8 ls), .int .u8 mk, .int .i64 mn, .string (St8 ms), .int .i64 nu, .int .i64 ma] 62)).alloc (.cells #[.bool false, .bool false, .bool false] 37)) := hb2.alloc (by rw [World.size_alloc, World.size_alloc]; omega) _
    have hz : T3At (((w.alloc (.cells #[.int .u8 7, .int .i64 col, .int .i64 kids, .int .u8 k, .int .i64 nn, .string (St8 s)] 46)).alloc (.cells #[.int .u8 lk, .int .i64 ln, .string (St8 ls), .int .u8 mk, .int .i64 mn, .string (St8 ms), .int .i64 nu, .int .i64 ma] 62)).alloc (.cells #[.bool false, .bool false, .bool false] 37)) (w.heap.size + 1 + 1) 37 ⟨false, false, false⟩ := by
      have h := T3At.new ((w.alloc (.cells #[.int .u8 7, .int .i64 col, .int .i64 kids, .int .u8 k, .int .i64 nn, .string (St8 s)] 46)).alloc (.cells #[.int .u8 lk, .int .i64 ln, .string (St8 ls), .int .u8 mk, .int .i64 mn, .string (St8 ms), .int .i64 nu, .int .i64 ma] 62)) 37 ⟨false, false, false⟩
      rw [World.size_alloc, World.size_alloc] at h
      exact h
    have hcall := zalike_c ⟨⟨lk, ln, ls⟩, ⟨mk, mn, ms⟩, nu, ma⟩ s (((w.alloc (.cells #[.int .u8 7, .int .i64 col, .int .i64 kids, .int .u8 k, .int .i64 nn, .string (St8 s)] 46)).alloc (.cells #[.int .u8 lk, .int .i64 ln, .string (St8 ls), .int .u8 mk, .int .i64 mn, .string (St8 ms), .int .i64 nu, .int .i64 ma] 62)).alloc (.cells #[.bool false, .bool false, .bool false] 37)) hs hlk
    generalize alikeZ ⟨⟨lk, ln, ls⟩, ⟨mk, mn, ms⟩, nu, ma⟩ s = R at *
    unfold Zo.agg at hcall ⊢

    unfold Nd.agg
    dsimp only at hcall ⊢
    have Hca := Lib.hid hcall
    have Hz := Lib.hid hz
    have Hb3 := Lib.hid hb3
    clear hs hlk hcall hz hb1 hb2 hb3
    go_enter Tryd.func43, Tryd.ntmps43
    go_wp2_with fail
    refine Hca.out.mono ?_
    rintro e w1 ⟨rfl, hb1⟩
    have Hb1 := Lib.hid (Hb3.out.trans (hb1.mono Hb3.out.size))
    have HO := Lib.hid (Hz.out.below hb1)
    obtain ⟨q0, q1, q2⟩ := HO.out.cells
    have qf := fun i => HO.out.frozen i
    have HS := Lib.hid (HO.out.three R)
    have HE := Lib.hid (below_three Hb1.out (show w.heap.size ≤ w.heap.size + 1 + 1 by omega) (.bool R.no) (.bool R.un) (.bool R.ye))
    rw [T3.agg_eq]
    clear hb1
    go_wp2_with fail
    (try simp only [Exit.inBlock, Exit.then])
    refine bodyPost_ret (results_cell_row rfl _ _ (w.heap.size + 1 + 1) 37 #[.bool R.no, .bool R.un, .bool R.ye] (0, 0) _ rfl HS.out Tryd.underlying37 rfl (by kernel_rfl)) rfl ?_
    exact ⟨rfl, HE.out⟩
set_option maxHeartbeats 8000000 in
set_option maxRecDepth 100000 in
theorem rknownZ_c (n : Nd) (z : Zo) (w : World) (hop : 5 ≤ n.op ∧ n.op ≤ 8) (hs : n.v.s.length ≤ 1000000) (hlk : n.op = 7 → (partsM n.v.s).2 = true) (hT : Lib.Utf8Tabs 0 1 w) : Calls Tryd.prog 45 #[n.agg, z.agg] w fun e w' => e = .returned (knownZ n z).agg ∧ Below w.heap.size w w' := by
  obtain ⟨⟨lk, ln, ls⟩, ⟨mk, mn, ms⟩, nu, ma⟩ := z
  obtain ⟨op, col, kids, k, nn, s⟩ := n
  dsimp only at hop hs hlk
  rcases (show op = 5 ∨ op = 6 ∨ op = 8 ∨ op = 7 by omega) with rfl | rfl | rfl | rfl
  · have hR : knownZ ⟨5, col, kids, k, nn, s⟩ ⟨⟨lk, ln, ls⟩, ⟨mk, mn, ms⟩, nu, ma⟩ = equalZ ⟨⟨lk, ln, ls⟩, ⟨mk, mn, ms⟩, nu, ma⟩ ⟨k, nn, s⟩ := rfl
    rw [hR]
    clear hlk hop hs hR hT
    have hb1 : Below w.heap.size w (w.alloc (.cells #[.int .u8 5, .int .i64 col, .int .i64 kids, .int .u8 k, .int .i64 nn, .string (St8 s)] 46)) := (Below.refl _ _).alloc (Nat.le_refl _) _
    have hb2 : Below w.heap.size w ((w.alloc (.cells #[.int .u8 5, .int .i64 col, .int .i64 kids, .int .u8 k, .int .i64 nn, .string (St8 s)] 46)).alloc (.cells #[.int .u8 lk, .int .i64 ln, .string (St8 ls), .int .u8 mk, .int .i64 mn, .string (St8 ms), .int .i64 nu, .int .i64 ma] 62)) := hb1.alloc (by rw [World.size_alloc]; omega) _
    have hb3 : Below w.heap.size w (((w.alloc (.cells #[.int .u8 5, .int .i64 col, .int .i64 kids, .int .u8 k, .int .i64 nn, .string (St8 s)] 46)).alloc (.cells #[.int .u8 lk, .int .i64 ln, .string (St8 ls), .int .u8 mk, .int .i64 mn, .string (St8 ms), .int .i64 nu, .int .i64 ma] 62)).alloc (.cells #[.bool false, .bool false, .bool false] 37)) := hb2.alloc (by rw [World.size_alloc, World.size_alloc]; omega) _
    have hz : T3At (((w.alloc (.cells #[.int .u8 5, .int .i64 col, .int .i64 kids, .int .u8 k, .int .i64 nn, .string (St8 s)] 46)).alloc (.cells #[.int .u8 lk, .int .i64 ln, .string (St8 ls), .int .u8 mk, .int .i64 mn, .string (St8 ms), .int .i64 nu, .int .i64 ma] 62)).alloc (.cells #[.bool false, .bool false, .bool false] 37)) (w.heap.size + 1 + 1) 37 ⟨false, false, false⟩ := by
      have h := T3At.new ((w.alloc (.cells #[.int .u8 5, .int .i64 col, .int .i64 kids, .int .u8 k, .int .i64 nn, .string (St8 s)] 46)).alloc (.cells #[.int .u8 lk, .int .i64 ln, .string (St8 ls), .int .u8 mk, .int .i64 mn, .string (St8 ms), .int .i64 nu, .int .i64 ma] 62)) 37 ⟨false, false, false⟩
      rw [World.size_alloc, World.size_alloc] at h
      exact h
    have hcall := rzequal_any ⟨⟨lk, ln, ls⟩, ⟨mk, mn, ms⟩, nu, ma⟩ ⟨k, nn, s⟩ (((w.alloc (.cells #[.int .u8 5, .int .i64 col, .int .i64 kids, .int .u8 k, .int .i64 nn, .string (St8 s)] 46)).alloc (.cells #[.int .u8 lk, .int .i64 ln, .string (St8 ls), .int .u8 mk, .int .i64 mn, .string (St8 ms), .int .i64 nu, .int .i64 ma] 62)).alloc (.cells #[.bool false, .bool false, .bool false] 37))
    generalize equalZ ⟨⟨lk, ln, ls⟩, ⟨mk, mn, ms⟩, nu, ma⟩ ⟨k, nn, s⟩ = R at *
    unfold Zo.agg at hcall ⊢
    unfold Va.agg at hcall
    unfold Nd.agg
    dsimp only at hcall ⊢
    have Hca := Lib.hid hcall
    have Hz := Lib.hid hz
    have Hb3 := Lib.hid hb3
    clear hcall hz hb1 hb2 hb3
    go_enter Tryd.func45, Tryd.ntmps45
    go_wp2_with fail
    refine Hca.out.mono ?_
    rintro e w1 ⟨rfl, hb1⟩
    have Hb1 := Lib.hid (Hb3.out.trans (hb1.mono Hb3.out.size))
    have HO := Lib.hid (Hz.out.below hb1)
    obtain ⟨q0, q1, q2⟩ := HO.out.cells
    have qf := fun i => HO.out.frozen i
    have HS := Lib.hid (HO.out.three R)
    have HE := Lib.hid (below_three Hb1.out (show w.heap.size ≤ w.heap.size + 1 + 1 by omega) (.bool R.no) (.bool R.un) (.bool R.ye))
    rw [T3.agg_eq]
    clear hb1
    go_wp2_with fail
    (try simp only [Exit.inBlock, Exit.then])
    refine bodyPost_ret (results_cell_row rfl _ _ (w.heap.size + 1 + 1) 37 #[.bool R.no, .bool R.un, .bool R.ye] (0, 0) _ rfl HS.out Tryd.underlying37 rfl (by kernel_rfl)) rfl ?_
    exact ⟨rfl, HE.out⟩
  · have hR : knownZ ⟨6, col, kids, k, nn, s⟩ ⟨⟨lk, ln, ls⟩, ⟨mk, mn, ms⟩, nu, ma⟩ = lessZ ⟨⟨lk, ln, ls⟩, ⟨mk, mn, ms⟩, nu, ma⟩ ⟨k, nn, s⟩ := rfl
    rw [hR]
    clear hlk hop hs hR hT
    have hb1 : Below w.heap.size w (w.alloc (.cells #[.int .u8 6, .int .i64 col, .int .i64 kids, .int .u8 k, .int .i64 nn, .string (St8 s)] 46)) := (Below.refl _ _).alloc (Nat.le_refl _) _
    have hb2 : Below w.heap.size w ((w.alloc (.cells #[.int .u8 6, .int .i64 col, .int .i64 kids, .int .u8 k, .int .i64 nn, .string (St8 s)] 46)).alloc (.cells #[.int .u8 lk, .int .i64 ln, .string (St8 ls), .int .u8 mk, .int .i64 mn, .string (St8 ms), .int .i64 nu, .int .i64 ma] 62)) := hb1.alloc (by rw [World.size_alloc]; omega) _
    have hb3 : Below w.heap.size w (((w.alloc (.cells #[.int .u8 6, .int .i64 col, .int .i64 kids, .int .u8 k, .int .i64 nn, .string (St8 s)] 46)).alloc (.cells #[.int .u8 lk, .int .i64 ln, .string (St8 ls), .int .u8 mk, .int .i64 mn, .string (St8 ms), .int .i64 nu, .int .i64 ma] 62)).alloc (.cells #[.bool false, .bool false, .bool false] 37)) := hb2.alloc (by rw [World.size_alloc, World.size_alloc]; omega) _
    have hz : T3At (((w.alloc (.cells #[.int .u8 6, .int .i64 col, .int .i64 kids, .int .u8 k, .int .i64 nn, .string (St8 s)] 46)).alloc (.cells #[.int .u8 lk, .int .i64 ln, .string (St8 ls), .int .u8 mk, .int .i64 mn, .string (St8 ms), .int .i64 nu, .int .i64 ma] 62)).alloc (.cells #[.bool false, .bool false, .bool false] 37)) (w.heap.size + 1 + 1) 37 ⟨false, false, false⟩ := by
      have h := T3At.new ((w.alloc (.cells #[.int .u8 6, .int .i64 col, .int .i64 kids, .int .u8 k, .int .i64 nn, .string (St8 s)] 46)).alloc (.cells #[.int .u8 lk, .int .i64 ln, .string (St8 ls), .int .u8 mk, .int .i64 mn, .string (St8 ms), .int .i64 nu, .int .i64 ma] 62)) 37 ⟨false, false, false⟩
      rw [World.size_alloc, World.size_alloc] at h
      exact h
    have hcall := rzless_any ⟨⟨lk, ln, ls⟩, ⟨mk, mn, ms⟩, nu, ma⟩ ⟨k, nn, s⟩ (((w.alloc (.cells #[.int .u8 6, .int .i64 col, .int .i64 kids, .int .u8 k, .int .i64 nn, .string (St8 s)] 46)).alloc (.cells #[.int .u8 lk, .int .i64 ln, .string (St8 ls), .int .u8 mk, .int .i64 mn, .string (St8 ms), .int .i64 nu, .int .i64 ma] 62)).alloc (.cells #[.bool false, .bool false, .bool false] 37))
    generalize lessZ ⟨⟨lk, ln, ls⟩, ⟨mk, mn, ms⟩, nu, ma⟩ ⟨k, nn, s⟩ = R at *
    unfold Zo.agg at hcall ⊢
    unfold Va.agg at hcall
    unfold Nd.agg
    dsimp only at hcall ⊢
    have Hca := Lib.hid hcall
    have Hz := Lib.hid hz
    have Hb3 := Lib.hid hb3
    clear hcall hz hb1 hb2 hb3
    go_enter Tryd.func45, Tryd.ntmps45
    go_wp2_with fail
    refine Hca.out.mono ?_
    rintro e w1 ⟨rfl, hb1⟩
    have Hb1 := Lib.hid (Hb3.out.trans (hb1.mono Hb3.out.size))
    have HO := Lib.hid (Hz.out.below hb1)
    obtain ⟨q0, q1, q2⟩ := HO.out.cells
    have qf := fun i => HO.out.frozen i
    have HS := Lib.hid (HO.out.three R)
    have HE := Lib.hid (below_three Hb1.out (show w.heap.size ≤ w.heap.size + 1 + 1 by omega) (.bool R.no) (.bool R.un) (.bool R.ye))
    rw [T3.agg_eq]
    clear hb1
    go_wp2_with fail
    (try simp only [Exit.inBlock, Exit.then])
    refine bodyPost_ret (results_cell_row rfl _ _ (w.heap.size + 1 + 1) 37 #[.bool R.no, .bool R.un, .bool R.ye] (0, 0) _ rfl HS.out Tryd.underlying37 rfl (by kernel_rfl)) rfl ?_
    exact ⟨rfl, HE.out⟩
  · have hR : knownZ ⟨8, col, kids, k, nn, s⟩ ⟨⟨lk, ln, ls⟩, ⟨mk, mn, ms⟩, nu, ma⟩ = nullZ ⟨⟨lk, ln, ls⟩, ⟨mk, mn, ms⟩, nu, ma⟩ := rfl
    rw [hR]
    clear hlk hop hs hR hT
    have hb1 : Below w.heap.size w (w.alloc (.cells #[.int .u8 8, .int .i64 col, .int .i64 kids, .int .u8 k, .int .i64 nn, .string (St8 s)] 46)) := (Below.refl _ _).alloc (Nat.le_refl _) _
    have hb2 : Below w.heap.size w ((w.alloc (.cells #[.int .u8 8, .int .i64 col, .int .i64 kids, .int .u8 k, .int .i64 nn, .string (St8 s)] 46)).alloc (.cells #[.int .u8 lk, .int .i64 ln, .string (St8 ls), .int .u8 mk, .int .i64 mn, .string (St8 ms), .int .i64 nu, .int .i64 ma] 62)) := hb1.alloc (by rw [World.size_alloc]; omega) _
    have hb3 : Below w.heap.size w (((w.alloc (.cells #[.int .u8 8, .int .i64 col, .int .i64 kids, .int .u8 k, .int .i64 nn, .string (St8 s)] 46)).alloc (.cells #[.int .u8 lk, .int .i64 ln, .string (St8 ls), .int .u8 mk, .int .i64 mn, .string (St8 ms), .int .i64 nu, .int .i64 ma] 62)).alloc (.cells #[.bool false, .bool false, .bool false] 37)) := hb2.alloc (by rw [World.size_alloc, World.size_alloc]; omega) _
    have hz : T3At (((w.alloc (.cells #[.int .u8 8, .int .i64 col, .int .i64 kids, .int .u8 k, .int .i64 nn, .string (St8 s)] 46)).alloc (.cells #[.int .u8 lk, .int .i64 ln, .string (St8 ls), .int .u8 mk, .int .i64 mn, .string (St8 ms), .int .i64 nu, .int .i64 ma] 62)).alloc (.cells #[.bool false, .bool false, .bool false] 37)) (w.heap.size + 1 + 1) 37 ⟨false, false, false⟩ := by
      have h := T3At.new ((w.alloc (.cells #[.int .u8 8, .int .i64 col, .int .i64 kids, .int .u8 k, .int .i64 nn, .string (St8 s)] 46)).alloc (.cells #[.int .u8 lk, .int .i64 ln, .string (St8 ls), .int .u8 mk, .int .i64 mn, .string (St8 ms), .int .i64 nu, .int .i64 ma] 62)) 37 ⟨false, false, false⟩
      rw [World.size_alloc, World.size_alloc] at h
      exact h
    have hcall := rznull_any ⟨⟨lk, ln, ls⟩, ⟨mk, mn, ms⟩, nu, ma⟩ (((w.alloc (.cells #[.int .u8 8, .int .i64 col, .int .i64 kids, .int .u8 k, .int .i64 nn, .string (St8 s)] 46)).alloc (.cells #[.int .u8 lk, .int .i64 ln, .string (St8 ls), .int .u8 mk, .int .i64 mn, .string (St8 ms), .int .i64 nu, .int .i64 ma] 62)).alloc (.cells #[.bool false, .bool false, .bool false] 37))
    generalize nullZ ⟨⟨lk, ln, ls⟩, ⟨mk, mn, ms⟩, nu, ma⟩ = R at *
    unfold Zo.agg at hcall ⊢

    unfold Nd.agg
    dsimp only at hcall ⊢
    have Hca := Lib.hid hcall
    have Hz := Lib.hid hz
    have Hb3 := Lib.hid hb3
    clear hcall hz hb1 hb2 hb3
    go_enter Tryd.func45, Tryd.ntmps45
    go_wp2_with fail
    refine Hca.out.mono ?_
    rintro e w1 ⟨rfl, hb1⟩
    have Hb1 := Lib.hid (Hb3.out.trans (hb1.mono Hb3.out.size))
    have HO := Lib.hid (Hz.out.below hb1)
    obtain ⟨q0, q1, q2⟩ := HO.out.cells
    have qf := fun i => HO.out.frozen i
    have HS := Lib.hid (HO.out.three R)
    have HE := Lib.hid (below_three Hb1.out (show w.heap.size ≤ w.heap.size + 1 + 1 by omega) (.bool R.no) (.bool R.un) (.bool R.ye))
    rw [T3.agg_eq]
    clear hb1
    go_wp2_with fail
    (try simp only [Exit.inBlock, Exit.then])
    refine bodyPost_ret (results_cell_row rfl _ _ (w.heap.size + 1 + 1) 37 #[.bool R.no, .bool R.un, .bool R.ye] (0, 0) _ rfl HS.out Tryd.underlying37 rfl (by kernel_rfl)) rfl ?_
    exact ⟨rfl, HE.out⟩
  · have hR : knownZ ⟨7, col, kids, k, nn, s⟩ ⟨⟨lk, ln, ls⟩, ⟨mk, mn, ms⟩, nu, ma⟩ = alikeZ ⟨⟨lk, ln, ls⟩, ⟨mk, mn, ms⟩, nu, ma⟩ s := rfl
    rw [hR]
    have hlk := hlk rfl
    clear hop hR
    have hb1 : Below w.heap.size w (w.alloc (.cells #[.int .u8 7, .int .i64 col, .int .i64 kids, .int .u8 k, .int .i64 nn, .string (St8 s)] 46)) := (Below.refl _ _).alloc (Nat.le_refl _) _
    have hb2 : Below w.heap.size w ((w.alloc (.cells #[.int .u8 7, .int .i64 col, .int .i64 kids, .int .u8 k, .int .i64 nn, .string (St8 s)] 46)).alloc (.cells #[.int .u8 lk, .int .i64 ln, .string (St8 ls), .int .u8 mk, .int .i64 mn, .string (St8 ms), .int .i64 nu, .int .i64 ma] 62)) := hb1.alloc (by rw [World.size_alloc]; omega) _
    have hb3 : Below w.heap.size w (((w.alloc (.cells #[.int .u8 7, .int .i64 col, .int .i64 kids, .int .u8 k, .int .i64 nn, .string (St8 s)] 46)).alloc (.cells #[.int .u8 lk, .int .i64 ln, .string (St8 ls), .int .u8 mk, .int .i64 mn, .string (St8 ms), .int .i64 nu, .int .i64 ma] 62)).alloc (.cells #[.bool false, .bool false, .bool false] 37)) := hb2.alloc (by rw [World.size_alloc, World.size_alloc]; omega) _
    have hz : T3At (((w.alloc (.cells #[.int .u8 7, .int .i64 col, .int .i64 kids, .int .u8 k, .int .i64 nn, .string (St8 s)] 46)).alloc (.cells #[.int .u8 lk, .int .i64 ln, .string (St8 ls), .int .u8 mk, .int .i64 mn, .string (St8 ms), .int .i64 nu, .int .i64 ma] 62)).alloc (.cells #[.bool false, .bool false, .bool false] 37)) (w.heap.size + 1 + 1) 37 ⟨false, false, false⟩ := by
      have h := T3At.new ((w.alloc (.cells #[.int .u8 7, .int .i64 col, .int .i64 kids, .int .u8 k, .int .i64 nn, .string (St8 s)] 46)).alloc (.cells #[.int .u8 lk, .int .i64 ln, .string (St8 ls), .int .u8 mk, .int .i64 mn, .string (St8 ms), .int .i64 nu, .int .i64 ma] 62)) 37 ⟨false, false, false⟩
      rw [World.size_alloc, World.size_alloc] at h
      exact h
    have hcall := ralike_c ⟨⟨lk, ln, ls⟩, ⟨mk, mn, ms⟩, nu, ma⟩ s (((w.alloc (.cells #[.int .u8 7, .int .i64 col, .int .i64 kids, .int .u8 k, .int .i64 nn, .string (St8 s)] 46)).alloc (.cells #[.int .u8 lk, .int .i64 ln, .string (St8 ls), .int .u8 mk, .int .i64 mn, .string (St8 ms), .int .i64 nu, .int .i64 ma] 62)).alloc (.cells #[.bool false, .bool false, .bool false] 37)) hs hlk (Utf8Tabs_below hT hb3)
    generalize alikeZ ⟨⟨lk, ln, ls⟩, ⟨mk, mn, ms⟩, nu, ma⟩ s = R at *
    unfold Zo.agg at hcall ⊢

    unfold Nd.agg
    dsimp only at hcall ⊢
    have Hca := Lib.hid hcall
    have Hz := Lib.hid hz
    have Hb3 := Lib.hid hb3
    clear hs hlk hT hcall hz hb1 hb2 hb3
    go_enter Tryd.func45, Tryd.ntmps45
    go_wp2_with fail
    refine Hca.out.mono ?_
    rintro e w1 ⟨rfl, hb1⟩
    have Hb1 := Lib.hid (Hb3.out.trans (hb1.mono Hb3.out.size))
    have HO := Lib.hid (Hz.out.below hb1)
    obtain ⟨q0, q1, q2⟩ := HO.out.cells
    have qf := fun i => HO.out.frozen i
    have HS := Lib.hid (HO.out.three R)
    have HE := Lib.hid (below_three Hb1.out (show w.heap.size ≤ w.heap.size + 1 + 1 by omega) (.bool R.no) (.bool R.un) (.bool R.ye))
    rw [T3.agg_eq]
    clear hb1
    go_wp2_with fail
    (try simp only [Exit.inBlock, Exit.then])
    refine bodyPost_ret (results_cell_row rfl _ _ (w.heap.size + 1 + 1) 37 #[.bool R.no, .bool R.un, .bool R.ye] (0, 0) _ rfl HS.out Tryd.underlying37 rfl (by kernel_rfl)) rfl ?_
    exact ⟨rfl, HE.out⟩
end Go.Proofs.YtipnglidepfkbaaDoor
