/- Walks: all that two truths come to: the program's (ask.both). (Printed by gen_myg.py.) -/
import Derived.Test.YtipnglidepfkbaaDoorMGrR
import Derived.Test.YtipnglidepfkbaaDoorMGrN
namespace Go.Proofs.YtipnglidepfkbaaDoor
set_option linter.unusedVariables false
set_option linter.unusedSimpArgs false
open Go.RowKit

attribute [local go_sem ↓] Go.wp_at_zero Go.wp_at_succ

theorem andT_nat {x y : Nat} (hx : x < 3) (hy : y < 3) : andT (x : Int) (y : Int) = ((min x y : Nat) : Int) := by
  rcases (show x = 0 ∨ x = 1 ∨ x = 2 by omega) with rfl | rfl | rfl <;> rcases (show y = 0 ∨ y = 1 ∨ y = 2 by omega) with rfl | rfl | rfl <;> rfl
theorem orT_nat {x y : Nat} (hx : x < 3) (hy : y < 3) : orT (x : Int) (y : Int) = ((max x y : Nat) : Int) := by
  rcases (show x = 0 ∨ x = 1 ∨ x = 2 by omega) with rfl | rfl | rfl <;> rcases (show y = 0 ∨ y = 1 ∨ y = 2 by omega) with rfl | rfl | rfl <;> rfl
theorem accT_yes {or : Bool} {a b : T3} {x y : Nat} (hy : y < 3) (ha : a.get x = true) (hb : b.get y = true) : accT or a b (x * 3 + y + 1) = (accT or a b (x * 3 + y)).set_ (if or = true then max x y else min x y) := by
  rw [accT, show (x * 3 + y) / 3 = x by omega, show (x * 3 + y) % 3 = y by omega, ha, hb]
  rfl
theorem accT_no {or : Bool} {a b : T3} {x y : Nat} (hy : y < 3) (h : ¬ (a.get x = true ∧ b.get y = true)) : accT or a b (x * 3 + y + 1) = accT or a b (x * 3 + y) := by
  rw [accT, show (x * 3 + y) / 3 = x by omega, show (x * 3 + y) % 3 = y by omega, if_neg (by rw [Bool.and_eq_true]; exact h)]

/-- What the two loops hold: both arrays, and what was found. -/
structure BoAt (w wr : World) (a b t : T3) : Prop where
  a : T3At wr w.heap.size 37 a
  b : T3At wr (w.heap.size + 1) 37 b
  t : T3At wr (w.heap.size + 1 + 1) 37 t
  below : Below w.heap.size w wr
theorem BoAt.set_ {w wr : World} {a b t : T3} (h : BoAt w wr a b t) {i : Nat} (hi : i < 3) : BoAt w (wr.setCell ⟨w.heap.size + 1 + 1, i, none⟩ (.bool true)) a b (t.set_ i) :=
  ⟨h.a.far (by omega) _ _, h.b.far (by omega) _ _, h.t.set_ hi, below_set h.below (by omega) _ _⟩

set_option maxHeartbeats 4000000 in
set_option maxRecDepth 100000 in
theorem zboth_and (a b : T3) (w : World) : Calls Tryd.prog 44 #[a.agg, b.agg, .func (Fn.func 32) #[] #[]] w fun e w' => e = .returned (bothZ false a b).agg ∧ Below w.heap.size w w' := by
  have hb1 : Below w.heap.size w (w.alloc (.cells #[.bool a.no, .bool a.un, .bool a.ye] 37)) := (Below.refl _ _).alloc (Nat.le_refl _) _
  have hb2 : Below w.heap.size w ((w.alloc (.cells #[.bool a.no, .bool a.un, .bool a.ye] 37)).alloc (.cells #[.bool b.no, .bool b.un, .bool b.ye] 37)) := hb1.alloc (by rw [World.size_alloc]; omega) _
  have hb3 : Below w.heap.size w (((w.alloc (.cells #[.bool a.no, .bool a.un, .bool a.ye] 37)).alloc (.cells #[.bool b.no, .bool b.un, .bool b.ye] 37)).alloc (.cells #[.bool false, .bool false, .bool false] 37)) := hb2.alloc (by rw [World.size_alloc, World.size_alloc]; omega) _
  have hx := ((T3At.new w 37 a).alloc (.cells #[.bool b.no, .bool b.un, .bool b.ye] 37)).alloc (.cells #[.bool false, .bool false, .bool false] 37)
  have hy := (T3At.new (w.alloc (.cells #[.bool a.no, .bool a.un, .bool a.ye] 37)) 37 b).alloc (.cells #[.bool false, .bool false, .bool false] 37)
  have hz := T3At.new ((w.alloc (.cells #[.bool a.no, .bool a.un, .bool a.ye] 37)).alloc (.cells #[.bool b.no, .bool b.un, .bool b.ye] 37)) 37 ⟨false, false, false⟩
  rw [World.size_alloc] at hy
  rw [World.size_alloc, World.size_alloc] at hz
  have HB0 : Hid (BoAt w _ a b (accT false a b 0)) := ⟨hx, hy, hz, hb3⟩
  rw [T3.agg_eq, T3.agg_eq]
  clear hb1 hb2 hb3 hx hy hz
  go_enter Tryd.func44, Tryd.ntmps44
  go_wp2_with fail
  go_loopw [9] (fun v9 wr => ∃ x : Nat, v9 = .int .i64 (x : Int) ∧ x ≤ 3 ∧ Hid (BoAt w wr a b (accT false a b (x * 3)))) (fun v9 _ => 3 - (intOf v9).toNat)
  case atStart => exact ⟨0, rfl, by omega, HB0⟩
  case round =>
    clear HB0
    obtain ⟨x, rfl, hx, HB⟩ := hrel
    by_cases hx3 : x < 3
    · have hxI : (x : Int) < 3 := by omega
      have hxI0 : (0 : Int) ≤ (x : Int) := by omega
      have hwx : IntKind.u8.wrap (x : Int) = (x : Int) := by
        rcases (show x = 0 ∨ x = 1 ∨ x = 2 by omega) with rfl | rfl | rfl <;> rfl
      go_wp2_with fail
      go_loopw [12] (fun v12 wr => ∃ y : Nat, v12 = .int .i64 (y : Int) ∧ y ≤ 3 ∧ Hid (BoAt w wr a b (accT false a b (x * 3 + y)))) (fun v12 _ => 3 - (intOf v12).toNat)
      case atStart => exact ⟨0, rfl, by omega, HB⟩
      case round =>
        clear HB
        obtain ⟨y, rfl, hy, HB⟩ := hrel
        by_cases hy3 : y < 3
        · have hyI : (y : Int) < 3 := by omega
          have hyI0 : (0 : Int) ≤ (y : Int) := by omega
          have hwy : IntKind.u8.wrap (y : Int) = (y : Int) := by
            rcases (show y = 0 ∨ y = 1 ∨ y = 2 by omega) with rfl | rfl | rfl <;> rfl
          have ca := HB.out.a.cell hx3
          have cb := HB.out.b.cell hy3
          cases ha : a.get x
          · have HN : Hid (BoAt w wr a b (accT false a b (x * 3 + (y + 1)))) := by
              show BoAt _ _ _ _ _
              rw [← Nat.add_assoc, accT_no hy3 (fun h => by rw [ha] at h; exact Bool.noConfusion h.1)]
              exact HB.out
            rw [ha] at ca
            go_wp2_with fail
            go_roundw
            case rel => exact ⟨y + 1, by go_num, by omega, HN⟩
            case measure => simp [intOf]; omega
          · cases hb : b.get y
            · have HN : Hid (BoAt w wr a b (accT false a b (x * 3 + (y + 1)))) := by
                show BoAt _ _ _ _ _
                rw [← Nat.add_assoc, accT_no hy3 (fun h => by rw [hb] at h; exact Bool.noConfusion h.2)]
                exact HB.out
              rw [ha] at ca
              rw [hb] at cb
              go_wp2_with fail
              go_roundw
              case rel => exact ⟨y + 1, by go_num, by omega, HN⟩
              case measure => simp [intOf]; omega
            · have hm3 : min x y < 3 := by omega
              have HN : Hid (BoAt w (wr.setCell ⟨w.heap.size + 1 + 1, min x y, none⟩ (.bool true)) a b (accT false a b (x * 3 + (y + 1)))) := by
                show BoAt _ _ _ _ _
                rw [← Nat.add_assoc, accT_yes hy3 ha hb]
                exact HB.out.set_ hm3
              rw [ha] at ca
              rw [hb] at cb
              have ct := HB.out.t.cell hm3
              have cf := HB.out.t.frozen (min x y)
              have hca := Lib.hid (fun w' => andT_c (x : Int) (y : Int) w')
              have hop := andT_nat hx3 hy3
              rw [hop] at hca
              obtain ⟨m, hm⟩ : ∃ m, min x y = m := ⟨_, rfl⟩
              rw [hm] at hca ct cf HN hm3
              have hmI : (m : Int) < 3 := by omega
              have hmI0 : (0 : Int) ≤ (m : Int) := by omega
              clear hop hm
              go_wp2_with fail
              refine (hca.out _).mono ?_
              rintro e w5 ⟨rfl, rfl⟩
              go_wp2_with fail
              go_roundw
              case rel => exact ⟨y + 1, by go_num, by omega, HN⟩
              case measure => simp [intOf]; omega
        · obtain rfl : y = 3 := by omega
          have HN : Hid (BoAt w wr a b (accT false a b ((x + 1) * 3))) := by
            show BoAt _ _ _ _ _
            rw [show (x + 1) * 3 = x * 3 + 3 by omega]
            exact HB.out
          go_wp2_with fail
          go_roundw
          case rel => exact ⟨x + 1, by go_num, by omega, HN⟩
          case measure => simp [intOf]; omega
    · obtain rfl : x = 3 := by omega
      have hR : Hid (accT false a b (3 * 3) = bothZ false a b) := rfl
      obtain ⟨t0, t1, t2⟩ := HB.out.t.cells
      have tf := fun i => HB.out.t.frozen i
      have HS := HB.out.t.three (accT false a b (3 * 3))
      have HE := below_three HB.out.below (show w.heap.size ≤ w.heap.size + 1 + 1 by omega) (.bool (accT false a b (3 * 3)).no) (.bool (accT false a b (3 * 3)).un) (.bool (accT false a b (3 * 3)).ye)
      have HS := Lib.hid HS
      have HE := Lib.hid HE
      rw [hR.out] at t0 t1 t2 HS HE
      go_wp2_with fail
      (try simp only [Exit.inBlock, Exit.then])
      refine bodyPost_ret (results_cell_row rfl _ _ (w.heap.size + 1 + 1) 37 #[.bool (bothZ false a b).no, .bool (bothZ false a b).un, .bool (bothZ false a b).ye] (0, 0) _ rfl HS.out Tryd.underlying37 rfl (by kernel_rfl)) rfl ?_
      exact ⟨rfl, HE.out⟩
set_option maxHeartbeats 4000000 in
set_option maxRecDepth 100000 in
theorem zboth_or (a b : T3) (w : World) : Calls Tryd.prog 44 #[a.agg, b.agg, .func (Fn.func 33) #[] #[]] w fun e w' => e = .returned (bothZ true a b).agg ∧ Below w.heap.size w w' := by
  have hb1 : Below w.heap.size w (w.alloc (.cells #[.bool a.no, .bool a.un, .bool a.ye] 37)) := (Below.refl _ _).alloc (Nat.le_refl _) _
  have hb2 : Below w.heap.size w ((w.alloc (.cells #[.bool a.no, .bool a.un, .bool a.ye] 37)).alloc (.cells #[.bool b.no, .bool b.un, .bool b.ye] 37)) := hb1.alloc (by rw [World.size_alloc]; omega) _
  have hb3 : Below w.heap.size w (((w.alloc (.cells #[.bool a.no, .bool a.un, .bool a.ye] 37)).alloc (.cells #[.bool b.no, .bool b.un, .bool b.ye] 37)).alloc (.cells #[.bool false, .bool false, .bool false] 37)) := hb2.alloc (by rw [World.size_alloc, World.size_alloc]; omega) _
  have hx := ((T3At.new w 37 a).alloc (.cells #[.bool b.no, .bool b.un, .bool b.ye] 37)).alloc (.cells #[.bool false, .bool false, .bool false] 37)
  have hy := (T3At.new (w.alloc (.cells #[.bool a.no, .bool a.un, .bool a.ye] 37)) 37 b).alloc (.cells #[.bool false, .bool false, .bool false] 37)
  have hz := T3At.new ((w.alloc (.cells #[.bool a.no, .bool a.un, .bool a.ye] 37)).alloc (.cells #[.bool b.no, .bool b.un, .bool b.ye] 37)) 37 ⟨false, false, false⟩
  rw [World.size_alloc] at hy
  rw [World.size_alloc, World.size_alloc] at hz
  have HB0 : Hid (BoAt w _ a b (accT true a b 0)) := ⟨hx, hy, hz, hb3⟩
  rw [T3.agg_eq, T3.agg_eq]
  clear hb1 hb2 hb3 hx hy hz
  go_enter Tryd.func44, Tryd.ntmps44
  go_wp2_with fail
  go_loopw [9] (fun v9 wr => ∃ x : Nat, v9 = .int .i64 (x : Int) ∧ x ≤ 3 ∧ Hid (BoAt w wr a b (accT true a b (x * 3)))) (fun v9 _ => 3 - (intOf v9).toNat)
  case atStart => exact ⟨0, rfl, by omega, HB0⟩
  case round =>
    clear HB0
    obtain ⟨x, rfl, hx, HB⟩ := hrel
    by_cases hx3 : x < 3
    · have hxI : (x : Int) < 3 := by omega
      have hxI0 : (0 : Int) ≤ (x : Int) := by omega
      have hwx : IntKind.u8.wrap (x : Int) = (x : Int) := by
        rcases (show x = 0 ∨ x = 1 ∨ x = 2 by omega) with rfl | rfl | rfl <;> rfl
      go_wp2_with fail
      go_loopw [12] (fun v12 wr => ∃ y : Nat, v12 = .int .i64 (y : Int) ∧ y ≤ 3 ∧ Hid (BoAt w wr a b (accT true a b (x * 3 + y)))) (fun v12 _ => 3 - (intOf v12).toNat)
      case atStart => exact ⟨0, rfl, by omega, HB⟩
      case round =>
        clear HB
        obtain ⟨y, rfl, hy, HB⟩ := hrel
        by_cases hy3 : y < 3
        · have hyI : (y : Int) < 3 := by omega
          have hyI0 : (0 : Int) ≤ (y : Int) := by omega
          have hwy : IntKind.u8.wrap (y : Int) = (y : Int) := by
            rcases (show y = 0 ∨ y = 1 ∨ y = 2 by omega) with rfl | rfl | rfl <;> rfl
          have ca := HB.out.a.cell hx3
          have cb := HB.out.b.cell hy3
          cases ha : a.get x
          · have HN : Hid (BoAt w wr a b (accT true a b (x * 3 + (y + 1)))) := by
              show BoAt _ _ _ _ _
              rw [← Nat.add_assoc, accT_no hy3 (fun h => by rw [ha] at h; exact Bool.noConfusion h.1)]
              exact HB.out
            rw [ha] at ca
            go_wp2_with fail
            go_roundw
            case rel => exact ⟨y + 1, by go_num, by omega, HN⟩
            case measure => simp [intOf]; omega
          · cases hb : b.get y
            · have HN : Hid (BoAt w wr a b (accT true a b (x * 3 + (y + 1)))) := by
                show BoAt _ _ _ _ _
                rw [← Nat.add_assoc, accT_no hy3 (fun h => by rw [hb] at h; exact Bool.noConfusion h.2)]
                exact HB.out
              rw [ha] at ca
              rw [hb] at cb
              go_wp2_with fail
              go_roundw
              case rel => exact ⟨y + 1, by go_num, by omega, HN⟩
              case measure => simp [intOf]; omega
            · have hm3 : max x y < 3 := by omega
              have HN : Hid (BoAt w (wr.setCell ⟨w.heap.size + 1 + 1, max x y, none⟩ (.bool true)) a b (accT true a b (x * 3 + (y + 1)))) := by
                show BoAt _ _ _ _ _
                rw [← Nat.add_assoc, accT_yes hy3 ha hb]
                exact HB.out.set_ hm3
              rw [ha] at ca
              rw [hb] at cb
              have ct := HB.out.t.cell hm3
              have cf := HB.out.t.frozen (max x y)
              have hca := Lib.hid (fun w' => orT_c (x : Int) (y : Int) w')
              have hop := orT_nat hx3 hy3
              rw [hop] at hca
              obtain ⟨m, hm⟩ : ∃ m, max x y = m := ⟨_, rfl⟩
              rw [hm] at hca ct cf HN hm3
              have hmI : (m : Int) < 3 := by omega
              have hmI0 : (0 : Int) ≤ (m : Int) := by omega
              clear hop hm
              go_wp2_with fail
              refine (hca.out _).mono ?_
              rintro e w5 ⟨rfl, rfl⟩
              go_wp2_with fail
              go_roundw
              case rel => exact ⟨y + 1, by go_num, by omega, HN⟩
              case measure => simp [intOf]; omega
        · obtain rfl : y = 3 := by omega
          have HN : Hid (BoAt w wr a b (accT true a b ((x + 1) * 3))) := by
            show BoAt _ _ _ _ _
            rw [show (x + 1) * 3 = x * 3 + 3 by omega]
            exact HB.out
          go_wp2_with fail
          go_roundw
          case rel => exact ⟨x + 1, by go_num, by omega, HN⟩
          case measure => simp [intOf]; omega
    · obtain rfl : x = 3 := by omega
      have hR : Hid (accT true a b (3 * 3) = bothZ true a b) := rfl
      obtain ⟨t0, t1, t2⟩ := HB.out.t.cells
      have tf := fun i => HB.out.t.frozen i
      have HS := HB.out.t.three (accT true a b (3 * 3))
      have HE := below_three HB.out.below (show w.heap.size ≤ w.heap.size + 1 + 1 by omega) (.bool (accT true a b (3 * 3)).no) (.bool (accT true a b (3 * 3)).un) (.bool (accT true a b (3 * 3)).ye)
      have HS := Lib.hid HS
      have HE := Lib.hid HE
      rw [hR.out] at t0 t1 t2 HS HE
      go_wp2_with fail
      (try simp only [Exit.inBlock, Exit.then])
      refine bodyPost_ret (results_cell_row rfl _ _ (w.heap.size + 1 + 1) 37 #[.bool (bothZ true a b).no, .bool (bothZ true a b).un, .bool (bothZ true a b).ye] (0, 0) _ rfl HS.out Tryd.underlying37 rfl (by kernel_rfl)) rfl ?_
      exact ⟨rfl, HE.out⟩
end Go.Proofs.YtipnglidepfkbaaDoor
