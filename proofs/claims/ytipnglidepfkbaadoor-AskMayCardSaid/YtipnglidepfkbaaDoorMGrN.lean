/- Walks: truths; what comes of a node that asks a column. Walks: the reference's truths of values. -/
import Derived.Test.YtipnglidepfkbaaDoorMGrD
import Derived.Test.YtipnglidepfkbaaDoorMGrC
import Derived.Test.YtipnglidepfkbaaDoorMGrB
import Derived.Test.YtipnglidepfkbaaDoorMAkR
namespace Go.Proofs.YtipnglidepfkbaaDoor
set_option linter.unusedVariables false
set_option linter.unusedSimpArgs false
open Go.RowKit

attribute [local go_sem ↓] Go.wp_at_zero Go.wp_at_succ

set_option maxRecDepth 100000 in
theorem known_c (a : Int) (w : World) : Calls Tryd.prog 59 #[.int .u8 a] w fun e w' => e = .returned (.int .u8 (known a)) ∧ w = w' := by
  have hv : Hid (known a = if 2 < a then 1 else a) := rfl
  generalize known a = R at *
  by_cases h : 2 < a
  · rw [if_pos h] at hv
    go_enter Tryd.func59, Tryd.ntmps59
    go_wp2_with fail
    go_ret
    rw [hv.out]
    exact ⟨rfl, rfl⟩
  · rw [if_neg h] at hv
    go_enter Tryd.func59, Tryd.ntmps59
    go_wp2_with fail
    go_ret
    rw [hv.out]
    exact ⟨rfl, rfl⟩
theorem known_bounds {a : Int} (h : 0 ≤ a ∧ a ≤ 255) : 0 ≤ known a ∧ known a ≤ 2 := by
  unfold known
  split <;> omega
theorem andT_bounds {a b : Int} (h : 0 ≤ a ∧ a ≤ 255) (h' : 0 ≤ b ∧ b ≤ 255) : 0 ≤ andT a b ∧ andT a b ≤ 2 := by
  have h1 := known_bounds h
  have h2 := known_bounds h'
  unfold andT
  omega
theorem orT_bounds {a b : Int} (h : 0 ≤ a ∧ a ≤ 255) (h' : 0 ≤ b ∧ b ≤ 255) : 0 ≤ orT a b ∧ orT a b ≤ 2 := by
  have h1 := known_bounds h
  have h2 := known_bounds h'
  unfold orT
  omega
theorem notT_bounds {a : Int} (h : 0 ≤ a ∧ a ≤ 255) : 0 ≤ notT a ∧ notT a ≤ 2 := by
  have h1 := known_bounds h
  unfold notT
  omega

set_option maxRecDepth 100000 in
theorem andT_c (a b : Int) (w : World) : Calls Tryd.prog 32 #[.int .u8 a, .int .u8 b] w fun e w' => e = .returned (.int .u8 (andT a b)) ∧ w = w' := by
  have hv : Hid (andT a b = min (known a) (known b)) := rfl
  have hk := Lib.hid (fun x w' => known_c x w')
  generalize andT a b = R at *
  have hka := Lib.hid (hk.out a)
  have hkb := Lib.hid (hk.out b)
  generalize known a = x at *
  generalize known b = y at *
  rcases (show x < y ∨ y < x ∨ x = y by omega) with h | h | rfl
  · have hm : Hid (R = x) := by show _ = _; rw [hv.out]; omega
    clear hv
    go_enter Tryd.func32, Tryd.ntmps32
    go_wp2_with fail
    refine (hka.out _).mono ?_
    rintro e w1 ⟨rfl, rfl⟩
    go_wp2_with fail
    refine (hkb.out _).mono ?_
    rintro e w1 ⟨rfl, rfl⟩
    go_wp2_with fail
    go_ret
    rw [hm.out]
    exact ⟨by first | rfl | (congr 2; omega), rfl⟩
  · have hm : Hid (R = y) := by show _ = _; rw [hv.out]; omega
    clear hv
    go_enter Tryd.func32, Tryd.ntmps32
    go_wp2_with fail
    refine (hka.out _).mono ?_
    rintro e w1 ⟨rfl, rfl⟩
    go_wp2_with fail
    refine (hkb.out _).mono ?_
    rintro e w1 ⟨rfl, rfl⟩
    go_wp2_with fail
    go_ret
    rw [hm.out]
    exact ⟨by first | rfl | (congr 2; omega), rfl⟩
  · have hm : Hid (R = x) := by show _ = _; rw [hv.out]; omega
    clear hv
    go_enter Tryd.func32, Tryd.ntmps32
    go_wp2_with fail
    refine (hka.out _).mono ?_
    rintro e w1 ⟨rfl, rfl⟩
    go_wp2_with fail
    refine (hkb.out _).mono ?_
    rintro e w1 ⟨rfl, rfl⟩
    go_wp2_with fail
    go_ret
    rw [hm.out]
    exact ⟨by first | rfl | (congr 2; omega), rfl⟩

set_option maxRecDepth 100000 in
theorem orT_c (a b : Int) (w : World) : Calls Tryd.prog 33 #[.int .u8 a, .int .u8 b] w fun e w' => e = .returned (.int .u8 (orT a b)) ∧ w = w' := by
  have hv : Hid (orT a b = max (known a) (known b)) := rfl
  have hk := Lib.hid (fun x w' => known_c x w')
  generalize orT a b = R at *
  have hka := Lib.hid (hk.out a)
  have hkb := Lib.hid (hk.out b)
  generalize known a = x at *
  generalize known b = y at *
  rcases (show x < y ∨ y < x ∨ x = y by omega) with h | h | rfl
  · have hm : Hid (R = y) := by show _ = _; rw [hv.out]; omega
    clear hv
    go_enter Tryd.func33, Tryd.ntmps33
    go_wp2_with fail
    refine (hka.out _).mono ?_
    rintro e w1 ⟨rfl, rfl⟩
    go_wp2_with fail
    refine (hkb.out _).mono ?_
    rintro e w1 ⟨rfl, rfl⟩
    go_wp2_with fail
    go_ret
    rw [hm.out]
    exact ⟨by first | rfl | (congr 2; omega), rfl⟩
  · have hm : Hid (R = x) := by show _ = _; rw [hv.out]; omega
    clear hv
    go_enter Tryd.func33, Tryd.ntmps33
    go_wp2_with fail
    refine (hka.out _).mono ?_
    rintro e w1 ⟨rfl, rfl⟩
    go_wp2_with fail
    refine (hkb.out _).mono ?_
    rintro e w1 ⟨rfl, rfl⟩
    go_wp2_with fail
    go_ret
    rw [hm.out]
    exact ⟨by first | rfl | (congr 2; omega), rfl⟩
  · have hm : Hid (R = x) := by show _ = _; rw [hv.out]; omega
    clear hv
    go_enter Tryd.func33, Tryd.ntmps33
    go_wp2_with fail
    refine (hka.out _).mono ?_
    rintro e w1 ⟨rfl, rfl⟩
    go_wp2_with fail
    refine (hkb.out _).mono ?_
    rintro e w1 ⟨rfl, rfl⟩
    go_wp2_with fail
    go_ret
    rw [hm.out]
    exact ⟨by first | rfl | (congr 2; omega), rfl⟩

set_option maxRecDepth 100000 in
theorem notT_c (a : Int) (ha : 0 ≤ a ∧ a ≤ 255) (w : World) : Calls Tryd.prog 34 #[.int .u8 a] w fun e w' => e = .returned (.int .u8 (notT a)) ∧ w = w' := by
  have hv : Hid (notT a = 2 - known a) := rfl
  have hka := Lib.hid (known_c a w)
  have hb := known_bounds ha
  generalize notT a = R at *
  generalize known a = x at *
  have hw : IntKind.u8.wrap (2 - x) = 2 - x := by
    unfold IntKind.wrap
    simp [IntKind.bits, IntKind.signed]
    omega
  clear ha
  go_enter Tryd.func34, Tryd.ntmps34
  go_wp2_with fail
  refine hka.out.mono ?_
  rintro e w1 ⟨rfl, rfl⟩
  go_wp2_with fail
  go_ret
  rw [hv.out]
  exact ⟨rfl, rfl⟩

set_option maxRecDepth 100000 in
theorem atruth_c (b : Bool) (w : World) : Calls Tryd.prog 57 #[.bool b] w fun e w' => e = .returned (.int .u8 (if b = true then 2 else 0)) ∧ w = w' := by
  cases b
  · go_enter Tryd.func57, Tryd.ntmps57
    go_wp2_with fail
    go_ret
    exact ⟨rfl, rfl⟩
  · go_enter Tryd.func57, Tryd.ntmps57
    go_wp2_with fail
    go_ret
    exact ⟨rfl, rfl⟩

set_option maxHeartbeats 4000000 in
set_option maxRecDepth 100000 in
theorem truth_c (a b : Va) (is : Bool) (w : World) : Calls Tryd.prog 79 #[a.agg, b.agg, .bool is] w fun e w' => e = .returned (.int .u8 (truthV a b is)) ∧ Below w.heap.size w w' := by
  have hv : Hid (truthV a b is = if a.k = 0 ∨ b.k = 0 then 1 else if is then 2 else 0) := rfl
  generalize truthV a b is = R at *
  obtain ⟨k, n, s⟩ := a
  obtain ⟨k', n', s'⟩ := b
  have hb : Hid (Below w.heap.size w ((w.alloc (.cells #[.int .u8 k, .int .i64 n, .string (St8 s)] 44)).alloc (.cells #[.int .u8 k', .int .i64 n', .string (St8 s')] 44))) := ((Below.refl _ _).alloc (Nat.le_refl _) _).alloc (by rw [World.size_alloc]; omega) _
  unfold Va.agg
  dsimp only at hv ⊢
  by_cases h0 : k = 0
  · subst h0
    rw [if_pos (.inl rfl)] at hv
    go_enter Tryd.func79, Tryd.ntmps79
    go_wp2_with fail
    go_ret
    rw [hv.out]
    exact ⟨rfl, hb.out⟩
  · have e0 : (k == 0) = false := by rw [beq_eq_false_iff_ne]; exact h0
    by_cases h0' : k' = 0
    · subst h0'
      rw [if_pos (.inr rfl)] at hv
      go_enter Tryd.func79, Tryd.ntmps79
      go_wp2_with fail
      go_ret
      rw [hv.out]
      exact ⟨rfl, hb.out⟩
    · have e0' : (k' == 0) = false := by rw [beq_eq_false_iff_ne]; exact h0'
      rw [if_neg (by omega)] at hv
      cases is
      · go_enter Tryd.func79, Tryd.ntmps79
        go_wp2_with fail
        go_ret
        rw [hv.out]
        exact ⟨rfl, hb.out⟩
      · go_enter Tryd.func79, Tryd.ntmps79
        go_wp2_with fail
        go_ret
        rw [hv.out]
        exact ⟨rfl, hb.out⟩

set_option maxHeartbeats 4000000 in
set_option maxRecDepth 100000 in
theorem equal_c (a b : Va) (w : World) : Calls Tryd.prog 55 #[a.agg, b.agg] w fun e w' => e = .returned (.int .u8 (truthV a b (decide (cmpVa a b = 0)))) ∧ Below w.heap.size w w' := by
  have hcm := Lib.hid (fun w' => compare_any a b w')
  have htr := Lib.hid (fun is w' => truth_c a b is w')
  have hv : Hid (∀ is : Bool, is = decide (cmpVa a b = 0) → truthV a b is = truthV a b (decide (cmpVa a b = 0))) := fun is h => by rw [h]
  generalize truthV a b (decide (cmpVa a b = 0)) = R at *
  generalize cmpVa a b = C at *
  generalize truthV a b = T at *
  obtain ⟨k, n, s⟩ := a
  obtain ⟨k', n', s'⟩ := b
  have hb0 : Below w.heap.size w (w.alloc (.cells #[.int .u8 k, .int .i64 n, .string (St8 s)] 44)) := (Below.refl _ _).alloc (Nat.le_refl _) _
  have hb1 : Below w.heap.size w ((w.alloc (.cells #[.int .u8 k, .int .i64 n, .string (St8 s)] 44)).alloc (.cells #[.int .u8 k', .int .i64 n', .string (St8 s')] 44)) := hb0.alloc (by rw [World.size_alloc]; omega) _
  have hx := (Blk.new w 44 #[.int .u8 k, .int .i64 n, .string (St8 s)]).below ((Below.refl _ _).alloc (Nat.le_refl _) (.cells #[.int .u8 k', .int .i64 n', .string (St8 s')] 44))
  have hy := Blk.new (w.alloc (.cells #[.int .u8 k, .int .i64 n, .string (St8 s)] 44)) 44 #[.int .u8 k', .int .i64 n', .string (St8 s')]
  rw [World.size_alloc] at hy
  unfold Va.agg at hcm htr ⊢
  dsimp only at hcm htr ⊢
  generalize hW : ((w.alloc (.cells #[.int .u8 k, .int .i64 n, .string (St8 s)] 44)).alloc (.cells #[.int .u8 k', .int .i64 n', .string (St8 s')] 44)) = W at *
  have HW := Lib.hid hW
  have Hx := Lib.hid hx
  have Hy := Lib.hid hy
  have Hb1 := Lib.hid hb1
  have hcc : Hid (∀ w', Below W.heap.size W w' → (w'.cell? ⟨w.heap.size, 0, none⟩ = some (.int .u8 k) ∧ w'.cell? ⟨w.heap.size, 1, none⟩ = some (.int .i64 n) ∧ w'.cell? ⟨w.heap.size, 2, none⟩ = some (.string (St8 s)) ∧ w'.cell? ⟨w.heap.size + 1, 0, none⟩ = some (.int .u8 k') ∧ w'.cell? ⟨w.heap.size + 1, 1, none⟩ = some (.int .i64 n') ∧ w'.cell? ⟨w.heap.size + 1, 2, none⟩ = some (.string (St8 s'))) ∧ Below w.heap.size w w') := fun w' hb => ⟨⟨(hx.below hb).cell 0, (hx.below hb).cell 1, (hx.below hb).cell 2, (hy.below hb).cell 0, (hy.below hb).cell 1, (hy.below hb).cell 2⟩, hb1.trans (hb.mono hb1.size)⟩
  have hd0 : Below W.heap.size W W.drew := (Below.refl _ _).drew
  have hc0 := (hcc.out W.drew hd0).1
  have Hd0 := Lib.hid hd0
  clear hW hx hy hb1 hb0 hd0
  go_enter Tryd.func55, Tryd.ntmps55
  go_wp2_with fail
  rw [HW.out]
  go_region_held3 (fun w' => w'.cell? ⟨w.heap.size, 0, none⟩ = some (.int .u8 k) ∧ w'.cell? ⟨w.heap.size, 1, none⟩ = some (.int .i64 n) ∧ w'.cell? ⟨w.heap.size, 2, none⟩ = some (.string (St8 s)) ∧ w'.cell? ⟨w.heap.size + 1, 0, none⟩ = some (.int .u8 k') ∧ w'.cell? ⟨w.heap.size + 1, 1, none⟩ = some (.int .i64 n') ∧ w'.cell? ⟨w.heap.size + 1, 2, none⟩ = some (.string (St8 s')))
    (first | exact hc2 | exact hc1 | exact hc0)
    (first | (go_at_call 80; refine (hcm.out _).mono ?_; rintro e w1 ⟨rfl, hb1⟩; have Hb1 := Lib.hid (Hd0.out.trans (hb1.mono Hd0.out.size)); have hc1 := (hcc.out w1 Hb1.out).1) | (go_at_call 79; refine (htr.out _ _).mono ?_; rintro e w2 ⟨rfl, hb2⟩; have Hb2 := Lib.hid (Hb1.out.trans (hb2.mono Hb1.out.size)); have hc2 := (hcc.out w2 Hb2.out).1))
  go_wp2_with fail
  go_ret
  exact ⟨congrArg (fun z => Ending.returned (Value.int .u8 z)) (hv.out _ (by first | rfl | simp)), (hcc.out w2 Hb2.out).2⟩

set_option maxHeartbeats 4000000 in
set_option maxRecDepth 100000 in
theorem less_c (a b : Va) (w : World) : Calls Tryd.prog 56 #[a.agg, b.agg] w fun e w' => e = .returned (.int .u8 (truthV a b (decide (cmpVa a b < 0)))) ∧ Below w.heap.size w w' := by
  have hcm := Lib.hid (fun w' => compare_any a b w')
  have htr := Lib.hid (fun is w' => truth_c a b is w')
  have hv : Hid (∀ is : Bool, is = decide (cmpVa a b < 0) → truthV a b is = truthV a b (decide (cmpVa a b < 0))) := fun is h => by rw [h]
  generalize truthV a b (decide (cmpVa a b < 0)) = R at *
  generalize cmpVa a b = C at *
  generalize truthV a b = T at *
  obtain ⟨k, n, s⟩ := a
  obtain ⟨k', n', s'⟩ := b
  have hb0 : Below w.heap.size w (w.alloc (.cells #[.int .u8 k, .int .i64 n, .string (St8 s)] 44)) := (Below.refl _ _).alloc (Nat.le_refl _) _
  have hb1 : Below w.heap.size w ((w.alloc (.cells #[.int .u8 k, .int .i64 n, .string (St8 s)] 44)).alloc (.cells #[.int .u8 k', .int .i64 n', .string (St8 s')] 44)) := hb0.alloc (by rw [World.size_alloc]; omega) _
  have hx := (Blk.new w 44 #[.int .u8 k, .int .i64 n, .string (St8 s)]).below ((Below.refl _ _).alloc (Nat.le_refl _) (.cells #[.int .u8 k', .int .i64 n', .string (St8 s')] 44))
  have hy := Blk.new (w.alloc (.cells #[.int .u8 k, .int .i64 n, .string (St8 s)] 44)) 44 #[.int .u8 k', .int .i64 n', .string (St8 s')]
  rw [World.size_alloc] at hy
  unfold Va.agg at hcm htr ⊢
  dsimp only at hcm htr ⊢
  generalize hW : ((w.alloc (.cells #[.int .u8 k, .int .i64 n, .string (St8 s)] 44)).alloc (.cells #[.int .u8 k', .int .i64 n', .string (St8 s')] 44)) = W at *
  have HW := Lib.hid hW
  have Hx := Lib.hid hx
  have Hy := Lib.hid hy
  have Hb1 := Lib.hid hb1
  have hcc : Hid (∀ w', Below W.heap.size W w' → (w'.cell? ⟨w.heap.size, 0, none⟩ = some (.int .u8 k) ∧ w'.cell? ⟨w.heap.size, 1, none⟩ = some (.int .i64 n) ∧ w'.cell? ⟨w.heap.size, 2, none⟩ = some (.string (St8 s)) ∧ w'.cell? ⟨w.heap.size + 1, 0, none⟩ = some (.int .u8 k') ∧ w'.cell? ⟨w.heap.size + 1, 1, none⟩ = some (.int .i64 n') ∧ w'.cell? ⟨w.heap.size + 1, 2, none⟩ = some (.string (St8 s'))) ∧ Below w.heap.size w w') := fun w' hb => ⟨⟨(hx.below hb).cell 0, (hx.below hb).cell 1, (hx.below hb).cell 2, (hy.below hb).cell 0, (hy.below hb).cell 1, (hy.below hb).cell 2⟩, hb1.trans (hb.mono hb1.size)⟩
  have hd0 : Below W.heap.size W W.drew := (Below.refl _ _).drew
  have hc0 := (hcc.out W.drew hd0).1
  have Hd0 := Lib.hid hd0
  clear hW hx hy hb1 hb0 hd0
  go_enter Tryd.func56, Tryd.ntmps56
  go_wp2_with fail
  rw [HW.out]
  go_region_held3 (fun w' => w'.cell? ⟨w.heap.size, 0, none⟩ = some (.int .u8 k) ∧ w'.cell? ⟨w.heap.size, 1, none⟩ = some (.int .i64 n) ∧ w'.cell? ⟨w.heap.size, 2, none⟩ = some (.string (St8 s)) ∧ w'.cell? ⟨w.heap.size + 1, 0, none⟩ = some (.int .u8 k') ∧ w'.cell? ⟨w.heap.size + 1, 1, none⟩ = some (.int .i64 n') ∧ w'.cell? ⟨w.heap.size + 1, 2, none⟩ = some (.string (St8 s')))
    (first | exact hc2 | exact hc1 | exact hc0)
    (first | (go_at_call 80; refine (hcm.out _).mono ?_; rintro e w1 ⟨rfl, hb1⟩; have Hb1 := Lib.hid (Hd0.out.trans (hb1.mono Hd0.out.size)); have hc1 := (hcc.out w1 Hb1.out).1) | (go_at_call 79; refine (htr.out _ _).mono ?_; rintro e w2 ⟨rfl, hb2⟩; have Hb2 := Lib.hid (Hb1.out.trans (hb2.mono Hb1.out.size)); have hc2 := (hcc.out w2 Hb2.out).1))
  go_wp2_with fail
  go_ret
  exact ⟨congrArg (fun z => Ending.returned (Value.int .u8 z)) (hv.out _ (by first | rfl | simp)), (hcc.out w2 Hb2.out).2⟩
end Go.Proofs.YtipnglidepfkbaaDoor
namespace Go.Proofs.YtipnglidepfkbaaDoor
set_option linter.unusedVariables false
set_option linter.unusedSimpArgs false
open Go.RowKit

attribute [local go_sem ↓] Go.wp_at_zero Go.wp_at_succ

theorem less_str (s s' : List UInt8) : Op.bytesLess (St8 s).toList (St8 s').toList = Op.bytesLess s s' := by rw [St8_list, St8_list]
set_option maxHeartbeats 8000000 in
set_option maxRecDepth 100000 in
theorem rcompare_c (x y : Va) (w : World) : Calls Tryd.prog 83 #[x.agg, y.agg] w fun e w' => e = .returned (.int .i64 (cmpVa x y)) ∧ Below w.heap.size w w' := by
  obtain ⟨k, n, s⟩ := x
  obtain ⟨k', n', s'⟩ := y
  have hv : Hid (cmpVa ⟨k, n, s⟩ ⟨k', n', s'⟩ = or3 (cmpI k k') (cmpI n n') (cmpS s s')) := rfl
  generalize cmpVa ⟨k, n, s⟩ ⟨k', n', s'⟩ = R at *
  have hb : Hid (Below w.heap.size w ((w.alloc (.cells #[.int .u8 k, .int .i64 n, .string (St8 s)] 44)).alloc (.cells #[.int .u8 k', .int .i64 n', .string (St8 s')] 44))) := ((Below.refl _ _).alloc (Nat.le_refl _) _).alloc (by rw [World.size_alloc]; omega) _
  unfold Va.agg
  dsimp only
  have hl := less_str s s'
  have he := St8_cmp s s'
  have he2 := St8_eq s s'
  by_cases hk : k = k'
  · subst hk
    have ek : (k != k) = false := by simp
    have c1 : cmpI k k = 0 := by unfold cmpI; rw [if_neg (by omega), if_neg (by omega)]
    rw [c1] at hv
    by_cases hn : n = n'
    · subst hn
      have en : (n != n) = false := by simp
      have c2 : cmpI n n = 0 := by unfold cmpI; rw [if_neg (by omega), if_neg (by omega)]
      rw [c2] at hv
      by_cases hs : s = s'
      · subst hs
        have hR : Hid (R = 0) := by
          show _ = _
          rw [hv.out]
          unfold or3 cmpS
          rw [if_neg (by omega), if_neg (by omega), bless_irrefl, if_neg (by decide), if_pos rfl]
        have hl : Op.bytesLess (St8 s).toList (St8 s).toList = false := bless_irrefl _
        clear he he2
        clear hv c1 c2
        go_enter Tryd.func83, Tryd.ntmps83
        go_wp2_with fail
        go_ret
        rw [hR.out]
        exact ⟨rfl, hb.out⟩
      · rw [decide_eq_false hs] at he he2
        have hne : ¬ St8 s = St8 s' := fun e => hs (St8_inj e)
        have hR : Hid (R = if Op.bytesLess s s' = true then -1 else 1) := by
          show _ = _
          rw [hv.out]
          unfold or3 cmpS
          rw [if_neg (by omega), if_neg (by omega), if_neg hs]
        cases hb' : Op.bytesLess s s'
        · rw [hb'] at hl
          rw [hb', if_neg (by decide)] at hR
          clear hv c1 c2 hb' hs
          go_enter Tryd.func83, Tryd.ntmps83
          go_wp2_with fail
          go_ret
          rw [hR.out]
          exact ⟨rfl, hb.out⟩
        · rw [hb'] at hl
          rw [hb', if_pos rfl] at hR
          clear hv c1 c2 hb' hs
          go_enter Tryd.func83, Tryd.ntmps83
          go_wp2_with fail
          go_ret
          rw [hR.out]
          exact ⟨rfl, hb.out⟩
    · have en : (n != n') = true := by simpa using hn
      have en2 : (n == n') = false := by simpa using hn
      have hc2 : cmpI n n' ≠ 0 := by unfold cmpI; split; omega; split; omega; omega
      by_cases hlt : n < n'
      · have hR : Hid (R = -1) := by
          show _ = _
          rw [hv.out]
          unfold or3
          rw [if_neg (by omega), if_pos hc2]
          unfold cmpI
          rw [if_pos hlt]
        clear hv c1 hc2
        go_enter Tryd.func83, Tryd.ntmps83
        go_wp2_with fail
        go_ret
        rw [hR.out]
        exact ⟨rfl, hb.out⟩
      · have hR : Hid (R = 1) := by
          show _ = _
          rw [hv.out]
          unfold or3
          rw [if_neg (by omega), if_pos hc2]
          unfold cmpI
          rw [if_neg hlt, if_pos (by omega)]
        clear hv c1 hc2
        go_enter Tryd.func83, Tryd.ntmps83
        go_wp2_with fail
        go_ret
        rw [hR.out]
        exact ⟨rfl, hb.out⟩
  · have ek : (k != k') = true := by simpa using hk
    have ek2 : (k == k') = false := by simpa using hk
    have hc1 : cmpI k k' ≠ 0 := by unfold cmpI; split; omega; split; omega; omega
    by_cases hlt : k < k'
    · have hR : Hid (R = -1) := by
        show _ = _
        rw [hv.out]
        unfold or3
        rw [if_pos hc1]
        unfold cmpI
        rw [if_pos hlt]
      clear hv hc1
      by_cases hn : n = n'
      · subst hn
        have en : (n != n) = false := by simp
        go_enter Tryd.func83, Tryd.ntmps83
        go_wp2_with fail
        go_ret
        rw [hR.out]
        exact ⟨rfl, hb.out⟩
      · have en : (n != n') = true := by simpa using hn
        go_enter Tryd.func83, Tryd.ntmps83
        go_wp2_with fail
        go_ret
        rw [hR.out]
        exact ⟨rfl, hb.out⟩
    · have hR : Hid (R = 1) := by
        show _ = _
        rw [hv.out]
        unfold or3
        rw [if_pos hc1]
        unfold cmpI
        rw [if_neg hlt, if_pos (by omega)]
      clear hv hc1
      by_cases hn : n = n'
      · subst hn
        have en : (n != n) = false := by simp
        go_enter Tryd.func83, Tryd.ntmps83
        go_wp2_with fail
        go_ret
        rw [hR.out]
        exact ⟨rfl, hb.out⟩
      · have en : (n != n') = true := by simpa using hn
        go_enter Tryd.func83, Tryd.ntmps83
        go_wp2_with fail
        go_ret
        rw [hR.out]
        exact ⟨rfl, hb.out⟩
set_option maxRecDepth 100000 in
theorem rknown_c (a : Int) (w : World) : Calls Tryd.prog 64 #[.int .u8 a] w fun e w' => e = .returned (.int .u8 (known a)) ∧ w = w' := by
  have hv : Hid (known a = if 2 < a then 1 else a) := rfl
  generalize known a = R at *
  by_cases h : 2 < a
  · rw [if_pos h] at hv
    go_enter Tryd.func64, Tryd.ntmps64
    go_wp2_with fail
    go_ret
    rw [hv.out]
    exact ⟨rfl, rfl⟩
  · rw [if_neg h] at hv
    go_enter Tryd.func64, Tryd.ntmps64
    go_wp2_with fail
    go_ret
    rw [hv.out]
    exact ⟨rfl, rfl⟩
set_option maxRecDepth 100000 in
theorem randT_c (a b : Int) (w : World) : Calls Tryd.prog 38 #[.int .u8 a, .int .u8 b] w fun e w' => e = .returned (.int .u8 (andT a b)) ∧ w = w' := by
  have hv : Hid (andT a b = min (known a) (known b)) := rfl
  have hk := Lib.hid (fun x w' => rknown_c x w')
  generalize andT a b = R at *
  have hka := Lib.hid (hk.out a)
  have hkb := Lib.hid (hk.out b)
  generalize known a = x at *
  generalize known b = y at *
  rcases (show x < y ∨ y < x ∨ x = y by omega) with h | h | rfl
  · have hm : Hid (R = x) := by show _ = _; rw [hv.out]; omega
    clear hv
    go_enter Tryd.func38, Tryd.ntmps38
    go_wp2_with fail
    refine (hka.out _).mono ?_
    rintro e w1 ⟨rfl, rfl⟩
    go_wp2_with fail
    refine (hkb.out _).mono ?_
    rintro e w1 ⟨rfl, rfl⟩
    go_wp2_with fail
    go_ret
    rw [hm.out]
    exact ⟨by first | rfl | (congr 2; omega), rfl⟩
  · have hm : Hid (R = y) := by show _ = _; rw [hv.out]; omega
    clear hv
    go_enter Tryd.func38, Tryd.ntmps38
    go_wp2_with fail
    refine (hka.out _).mono ?_
    rintro e w1 ⟨rfl, rfl⟩
    go_wp2_with fail
    refine (hkb.out _).mono ?_
    rintro e w1 ⟨rfl, rfl⟩
    go_wp2_with fail
    go_ret
    rw [hm.out]
    exact ⟨by first | rfl | (congr 2; omega), rfl⟩
  · have hm : Hid (R = x) := by show _ = _; rw [hv.out]; omega
    clear hv
    go_enter Tryd.func38, Tryd.ntmps38
    go_wp2_with fail
    refine (hka.out _).mono ?_
    rintro e w1 ⟨rfl, rfl⟩
    go_wp2_with fail
    refine (hkb.out _).mono ?_
    rintro e w1 ⟨rfl, rfl⟩
    go_wp2_with fail
    go_ret
    rw [hm.out]
    exact ⟨by first | rfl | (congr 2; omega), rfl⟩

set_option maxRecDepth 100000 in
theorem rorT_c (a b : Int) (w : World) : Calls Tryd.prog 39 #[.int .u8 a, .int .u8 b] w fun e w' => e = .returned (.int .u8 (orT a b)) ∧ w = w' := by
  have hv : Hid (orT a b = max (known a) (known b)) := rfl
  have hk := Lib.hid (fun x w' => rknown_c x w')
  generalize orT a b = R at *
  have hka := Lib.hid (hk.out a)
  have hkb := Lib.hid (hk.out b)
  generalize known a = x at *
  generalize known b = y at *
  rcases (show x < y ∨ y < x ∨ x = y by omega) with h | h | rfl
  · have hm : Hid (R = y) := by show _ = _; rw [hv.out]; omega
    clear hv
    go_enter Tryd.func39, Tryd.ntmps39
    go_wp2_with fail
    refine (hka.out _).mono ?_
    rintro e w1 ⟨rfl, rfl⟩
    go_wp2_with fail
    refine (hkb.out _).mono ?_
    rintro e w1 ⟨rfl, rfl⟩
    go_wp2_with fail
    go_ret
    rw [hm.out]
    exact ⟨by first | rfl | (congr 2; omega), rfl⟩
  · have hm : Hid (R = x) := by show _ = _; rw [hv.out]; omega
    clear hv
    go_enter Tryd.func39, Tryd.ntmps39
    go_wp2_with fail
    refine (hka.out _).mono ?_
    rintro e w1 ⟨rfl, rfl⟩
    go_wp2_with fail
    refine (hkb.out _).mono ?_
    rintro e w1 ⟨rfl, rfl⟩
    go_wp2_with fail
    go_ret
    rw [hm.out]
    exact ⟨by first | rfl | (congr 2; omega), rfl⟩
  · have hm : Hid (R = x) := by show _ = _; rw [hv.out]; omega
    clear hv
    go_enter Tryd.func39, Tryd.ntmps39
    go_wp2_with fail
    refine (hka.out _).mono ?_
    rintro e w1 ⟨rfl, rfl⟩
    go_wp2_with fail
    refine (hkb.out _).mono ?_
    rintro e w1 ⟨rfl, rfl⟩
    go_wp2_with fail
    go_ret
    rw [hm.out]
    exact ⟨by first | rfl | (congr 2; omega), rfl⟩

set_option maxRecDepth 100000 in
theorem rnotT_c (a : Int) (ha : 0 ≤ a ∧ a ≤ 255) (w : World) : Calls Tryd.prog 40 #[.int .u8 a] w fun e w' => e = .returned (.int .u8 (notT a)) ∧ w = w' := by
  have hv : Hid (notT a = 2 - known a) := rfl
  have hka := Lib.hid (rknown_c a w)
  have hb := known_bounds ha
  generalize notT a = R at *
  generalize known a = x at *
  have hw : IntKind.u8.wrap (2 - x) = 2 - x := by
    unfold IntKind.wrap
    simp [IntKind.bits, IntKind.signed]
    omega
  clear ha
  go_enter Tryd.func40, Tryd.ntmps40
  go_wp2_with fail
  refine hka.out.mono ?_
  rintro e w1 ⟨rfl, rfl⟩
  go_wp2_with fail
  go_ret
  rw [hv.out]
  exact ⟨rfl, rfl⟩

set_option maxRecDepth 100000 in
theorem ratruth_c (b : Bool) (w : World) : Calls Tryd.prog 62 #[.bool b] w fun e w' => e = .returned (.int .u8 (if b = true then 2 else 0)) ∧ w = w' := by
  cases b
  · go_enter Tryd.func62, Tryd.ntmps62
    go_wp2_with fail
    go_ret
    exact ⟨rfl, rfl⟩
  · go_enter Tryd.func62, Tryd.ntmps62
    go_wp2_with fail
    go_ret
    exact ⟨rfl, rfl⟩

set_option maxHeartbeats 4000000 in
set_option maxRecDepth 100000 in
theorem rtruth_c (a b : Va) (is : Bool) (w : World) : Calls Tryd.prog 82 #[a.agg, b.agg, .bool is] w fun e w' => e = .returned (.int .u8 (truthV a b is)) ∧ Below w.heap.size w w' := by
  have hv : Hid (truthV a b is = if a.k = 0 ∨ b.k = 0 then 1 else if is then 2 else 0) := rfl
  generalize truthV a b is = R at *
  obtain ⟨k, n, s⟩ := a
  obtain ⟨k', n', s'⟩ := b
  have hb : Hid (Below w.heap.size w ((w.alloc (.cells #[.int .u8 k, .int .i64 n, .string (St8 s)] 44)).alloc (.cells #[.int .u8 k', .int .i64 n', .string (St8 s')] 44))) := ((Below.refl _ _).alloc (Nat.le_refl _) _).alloc (by rw [World.size_alloc]; omega) _
  unfold Va.agg
  dsimp only at hv ⊢
  by_cases h0 : k = 0
  · subst h0
    rw [if_pos (.inl rfl)] at hv
    go_enter Tryd.func82, Tryd.ntmps82
    go_wp2_with fail
    go_ret
    rw [hv.out]
    exact ⟨rfl, hb.out⟩
  · have e0 : (k == 0) = false := by rw [beq_eq_false_iff_ne]; exact h0
    by_cases h0' : k' = 0
    · subst h0'
      rw [if_pos (.inr rfl)] at hv
      go_enter Tryd.func82, Tryd.ntmps82
      go_wp2_with fail
      go_ret
      rw [hv.out]
      exact ⟨rfl, hb.out⟩
    · have e0' : (k' == 0) = false := by rw [beq_eq_false_iff_ne]; exact h0'
      rw [if_neg (by omega)] at hv
      cases is
      · go_enter Tryd.func82, Tryd.ntmps82
        go_wp2_with fail
        go_ret
        rw [hv.out]
        exact ⟨rfl, hb.out⟩
      · go_enter Tryd.func82, Tryd.ntmps82
        go_wp2_with fail
        go_ret
        rw [hv.out]
        exact ⟨rfl, hb.out⟩

set_option maxHeartbeats 4000000 in
set_option maxRecDepth 100000 in
theorem rless_c (a b : Va) (w : World) : Calls Tryd.prog 61 #[a.agg, b.agg] w fun e w' => e = .returned (.int .u8 (truthV a b (decide (cmpVa a b < 0)))) ∧ Below w.heap.size w w' := by
  have hcm := Lib.hid (fun w' => rcompare_c a b w')
  have htr := Lib.hid (fun is w' => rtruth_c a b is w')
  have hv : Hid (∀ is : Bool, is = decide (cmpVa a b < 0) → truthV a b is = truthV a b (decide (cmpVa a b < 0))) := fun is h => by rw [h]
  generalize truthV a b (decide (cmpVa a b < 0)) = R at *
  generalize cmpVa a b = C at *
  generalize truthV a b = T at *
  obtain ⟨k, n, s⟩ := a
  obtain ⟨k', n', s'⟩ := b
  have hb0 : Below w.heap.size w (w.alloc (.cells #[.int .u8 k, .int .i64 n, .string (St8 s)] 44)) := (Below.refl _ _).alloc (Nat.le_refl _) _
  have hb1 : Below w.heap.size w ((w.alloc (.cells #[.int .u8 k, .int .i64 n, .string (St8 s)] 44)).alloc (.cells #[.int .u8 k', .int .i64 n', .string (St8 s')] 44)) := hb0.alloc (by rw [World.size_alloc]; omega) _
  have hx := (Blk.new w 44 #[.int .u8 k, .int .i64 n, .string (St8 s)]).below ((Below.refl _ _).alloc (Nat.le_refl _) (.cells #[.int .u8 k', .int .i64 n', .string (St8 s')] 44))
  have hy := Blk.new (w.alloc (.cells #[.int .u8 k, .int .i64 n, .string (St8 s)] 44)) 44 #[.int .u8 k', .int .i64 n', .string (St8 s')]
  rw [World.size_alloc] at hy
  unfold Va.agg at hcm htr ⊢
  dsimp only at hcm htr ⊢
  generalize hW : ((w.alloc (.cells #[.int .u8 k, .int .i64 n, .string (St8 s)] 44)).alloc (.cells #[.int .u8 k', .int .i64 n', .string (St8 s')] 44)) = W at *
  have HW := Lib.hid hW
  have Hx := Lib.hid hx
  have Hy := Lib.hid hy
  have Hb1 := Lib.hid hb1
  have hcc : Hid (∀ w', Below W.heap.size W w' → (w'.cell? ⟨w.heap.size, 0, none⟩ = some (.int .u8 k) ∧ w'.cell? ⟨w.heap.size, 1, none⟩ = some (.int .i64 n) ∧ w'.cell? ⟨w.heap.size, 2, none⟩ = some (.string (St8 s)) ∧ w'.cell? ⟨w.heap.size + 1, 0, none⟩ = some (.int .u8 k') ∧ w'.cell? ⟨w.heap.size + 1, 1, none⟩ = some (.int .i64 n') ∧ w'.cell? ⟨w.heap.size + 1, 2, none⟩ = some (.string (St8 s'))) ∧ Below w.heap.size w w') := fun w' hb => ⟨⟨(hx.below hb).cell 0, (hx.below hb).cell 1, (hx.below hb).cell 2, (hy.below hb).cell 0, (hy.below hb).cell 1, (hy.below hb).cell 2⟩, hb1.trans (hb.mono hb1.size)⟩
  have hd0 : Below W.heap.size W W.drew := (Below.refl _ _).drew
  have hc0 := (hcc.out W.drew hd0).1
  have Hd0 := Lib.hid hd0
  clear hW hx hy hb1 hb0 hd0
  go_enter Tryd.func61, Tryd.ntmps61
  go_wp2_with fail
  rw [HW.out]
  go_region_held3 (fun w' => w'.cell? ⟨w.heap.size, 0, none⟩ = some (.int .u8 k) ∧ w'.cell? ⟨w.heap.size, 1, none⟩ = some (.int .i64 n) ∧ w'.cell? ⟨w.heap.size, 2, none⟩ = some (.string (St8 s)) ∧ w'.cell? ⟨w.heap.size + 1, 0, none⟩ = some (.int .u8 k') ∧ w'.cell? ⟨w.heap.size + 1, 1, none⟩ = some (.int .i64 n') ∧ w'.cell? ⟨w.heap.size + 1, 2, none⟩ = some (.string (St8 s')))
    (first | exact hc2 | exact hc1 | exact hc0)
    (first | (go_at_call 83; refine (hcm.out _).mono ?_; rintro e w1 ⟨rfl, hb1⟩; have Hb1 := Lib.hid (Hd0.out.trans (hb1.mono Hd0.out.size)); have hc1 := (hcc.out w1 Hb1.out).1) | (go_at_call 82; refine (htr.out _ _).mono ?_; rintro e w2 ⟨rfl, hb2⟩; have Hb2 := Lib.hid (Hb1.out.trans (hb2.mono Hb1.out.size)); have hc2 := (hcc.out w2 Hb2.out).1))
  go_wp2_with fail
  go_ret
  exact ⟨congrArg (fun z => Ending.returned (Value.int .u8 z)) (hv.out _ (by first | rfl | simp)), (hcc.out w2 Hb2.out).2⟩
set_option maxHeartbeats 4000000 in
set_option maxRecDepth 100000 in
theorem requal_c (a b : Va) (w : World) : Calls Tryd.prog 60 #[a.agg, b.agg] w fun e w' => e = .returned (.int .u8 (truthV a b (decide (a = b)))) ∧ Below w.heap.size w w' := by
  have htr := Lib.hid (fun is w' => rtruth_c a b is w')
  have hv : Hid (∀ is : Bool, is = decide (a = b) → truthV a b is = truthV a b (decide (a = b))) := fun is h => by rw [h]
  generalize truthV a b (decide (a = b)) = R at *
  generalize truthV a b = T at *
  obtain ⟨k, n, s⟩ := a
  obtain ⟨k', n', s'⟩ := b
  have hb0 : Below w.heap.size w (w.alloc (.cells #[.int .u8 k, .int .i64 n, .string (St8 s)] 44)) := (Below.refl _ _).alloc (Nat.le_refl _) _
  have hb1 : Below w.heap.size w ((w.alloc (.cells #[.int .u8 k, .int .i64 n, .string (St8 s)] 44)).alloc (.cells #[.int .u8 k', .int .i64 n', .string (St8 s')] 44)) := hb0.alloc (by rw [World.size_alloc]; omega) _
  have hx := (Blk.new w 44 #[.int .u8 k, .int .i64 n, .string (St8 s)]).below ((Below.refl _ _).alloc (Nat.le_refl _) (.cells #[.int .u8 k', .int .i64 n', .string (St8 s')] 44))
  have hy := Blk.new (w.alloc (.cells #[.int .u8 k, .int .i64 n, .string (St8 s)] 44)) 44 #[.int .u8 k', .int .i64 n', .string (St8 s')]
  rw [World.size_alloc] at hy
  unfold Va.agg at htr ⊢
  dsimp only at htr ⊢
  generalize hW : ((w.alloc (.cells #[.int .u8 k, .int .i64 n, .string (St8 s)] 44)).alloc (.cells #[.int .u8 k', .int .i64 n', .string (St8 s')] 44)) = W at *
  have HW := Lib.hid hW
  have Hx := Lib.hid hx
  have Hy := Lib.hid hy
  have Hb1 := Lib.hid hb1
  have hcc : Hid (∀ w', Below W.heap.size W w' → (w'.cell? ⟨w.heap.size, 0, none⟩ = some (.int .u8 k) ∧ w'.cell? ⟨w.heap.size, 1, none⟩ = some (.int .i64 n) ∧ w'.cell? ⟨w.heap.size, 2, none⟩ = some (.string (St8 s)) ∧ w'.cell? ⟨w.heap.size + 1, 0, none⟩ = some (.int .u8 k') ∧ w'.cell? ⟨w.heap.size + 1, 1, none⟩ = some (.int .i64 n') ∧ w'.cell? ⟨w.heap.size + 1, 2, none⟩ = some (.string (St8 s'))) ∧ Below w.heap.size w w') := fun w' hb => ⟨⟨(hx.below hb).cell 0, (hx.below hb).cell 1, (hx.below hb).cell 2, (hy.below hb).cell 0, (hy.below hb).cell 1, (hy.below hb).cell 2⟩, hb1.trans (hb.mono hb1.size)⟩
  have hd0 : Below W.heap.size W W.drew := (Below.refl _ _).drew
  have hc0 := (hcc.out W.drew hd0).1
  have Hd0 := Lib.hid hd0
  clear hW hx hy hb1 hb0 hd0
  rcases va_cases k n s k' n' s' with ⟨rfl, rfl, rfl⟩ | h | ⟨rfl, h⟩ | ⟨rfl, rfl, h⟩
  · have hv2 : Hid (R = T true) := (hv.out true (by rw [decide_eq_true rfl])).symm
    clear hv
    go_enter Tryd.func60, Tryd.ntmps60
    go_wp2_with fail
    rw [HW.out]
    go_region_held3 (fun w' => w'.cell? ⟨w.heap.size, 0, none⟩ = some (.int .u8 k) ∧ w'.cell? ⟨w.heap.size, 1, none⟩ = some (.int .i64 n) ∧ w'.cell? ⟨w.heap.size, 2, none⟩ = some (.string (St8 s)) ∧ w'.cell? ⟨w.heap.size + 1, 0, none⟩ = some (.int .u8 k) ∧ w'.cell? ⟨w.heap.size + 1, 1, none⟩ = some (.int .i64 n) ∧ w'.cell? ⟨w.heap.size + 1, 2, none⟩ = some (.string (St8 s)))
      (first | exact hc2 | exact hc0)
      (first | (go_at_call 82; refine (htr.out _ _).mono ?_; rintro e w2 ⟨rfl, hb2⟩; have Hb2 := Lib.hid (Hd0.out.trans (hb2.mono Hd0.out.size)); have hc2 := (hcc.out w2 Hb2.out).1))
    go_wp2_with fail
    go_ret
    rw [hv2.out]
    exact ⟨rfl, (hcc.out w2 Hb2.out).2⟩
  · have hv2 : Hid (R = T false) := (hv.out false (by rw [decide_eq_false (fun e => by cases e; exact h rfl)])).symm
    clear hv
    go_enter Tryd.func60, Tryd.ntmps60
    go_wp2_with fail
    rw [HW.out]
    go_region_held3 (fun w' => w'.cell? ⟨w.heap.size, 0, none⟩ = some (.int .u8 k) ∧ w'.cell? ⟨w.heap.size, 1, none⟩ = some (.int .i64 n) ∧ w'.cell? ⟨w.heap.size, 2, none⟩ = some (.string (St8 s)) ∧ w'.cell? ⟨w.heap.size + 1, 0, none⟩ = some (.int .u8 k') ∧ w'.cell? ⟨w.heap.size + 1, 1, none⟩ = some (.int .i64 n') ∧ w'.cell? ⟨w.heap.size + 1, 2, none⟩ = some (.string (St8 s')))
      (first | exact hc2 | exact hc0)
      (first | (go_at_call 82; refine (htr.out _ _).mono ?_; rintro e w2 ⟨rfl, hb2⟩; have Hb2 := Lib.hid (Hd0.out.trans (hb2.mono Hd0.out.size)); have hc2 := (hcc.out w2 Hb2.out).1))
    go_wp2_with fail
    go_ret
    rw [hv2.out]
    exact ⟨rfl, (hcc.out w2 Hb2.out).2⟩
  · have hv2 : Hid (R = T false) := (hv.out false (by rw [decide_eq_false (fun e => by cases e; exact h rfl)])).symm
    clear hv
    go_enter Tryd.func60, Tryd.ntmps60
    go_wp2_with fail
    rw [HW.out]
    go_region_held3 (fun w' => w'.cell? ⟨w.heap.size, 0, none⟩ = some (.int .u8 k) ∧ w'.cell? ⟨w.heap.size, 1, none⟩ = some (.int .i64 n) ∧ w'.cell? ⟨w.heap.size, 2, none⟩ = some (.string (St8 s)) ∧ w'.cell? ⟨w.heap.size + 1, 0, none⟩ = some (.int .u8 k) ∧ w'.cell? ⟨w.heap.size + 1, 1, none⟩ = some (.int .i64 n') ∧ w'.cell? ⟨w.heap.size + 1, 2, none⟩ = some (.string (St8 s')))
      (first | exact hc2 | exact hc0)
      (first | (go_at_call 82; refine (htr.out _ _).mono ?_; rintro e w2 ⟨rfl, hb2⟩; have Hb2 := Lib.hid (Hd0.out.trans (hb2.mono Hd0.out.size)); have hc2 := (hcc.out w2 Hb2.out).1))
    go_wp2_with fail
    go_ret
    rw [hv2.out]
    exact ⟨rfl, (hcc.out w2 Hb2.out).2⟩
  · have h1 : ¬ St8 s = St8 s' := fun e => h (St8_inj e)
    have h2 := St8_cmp s s'
    have h3 := St8_eq s s'
    rw [decide_eq_false h] at h2 h3
    have hv2 : Hid (R = T false) := (hv.out false (by rw [decide_eq_false (fun e => by cases e; exact h rfl)])).symm
    clear hv
    go_enter Tryd.func60, Tryd.ntmps60
    go_wp2_with fail
    rw [HW.out]
    go_region_held3 (fun w' => w'.cell? ⟨w.heap.size, 0, none⟩ = some (.int .u8 k) ∧ w'.cell? ⟨w.heap.size, 1, none⟩ = some (.int .i64 n) ∧ w'.cell? ⟨w.heap.size, 2, none⟩ = some (.string (St8 s)) ∧ w'.cell? ⟨w.heap.size + 1, 0, none⟩ = some (.int .u8 k) ∧ w'.cell? ⟨w.heap.size + 1, 1, none⟩ = some (.int .i64 n) ∧ w'.cell? ⟨w.heap.size + 1, 2, none⟩ = some (.string (St8 s')))
      (first | exact hc2 | exact hc0)
      (first | (go_at_call 82; refine (htr.out _ _).mono ?_; rintro e w2 ⟨rfl, hb2⟩; have Hb2 := Lib.hid (Hd0.out.trans (hb2.mono Hd0.out.size)); have hc2 := (hcc.out w2 Hb2.out).1))
    go_wp2_with fail
    go_ret
    rw [hv2.out]
    exact ⟨rfl, (hcc.out w2 Hb2.out).2⟩
end Go.Proofs.YtipnglidepfkbaaDoor
