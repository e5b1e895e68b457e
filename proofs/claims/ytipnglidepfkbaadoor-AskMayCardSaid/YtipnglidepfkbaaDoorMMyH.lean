/- Walks: all that two truths come to: the reference's (warpref14.both). (Printed by gen_myh.py.) -/
import Derived.Test.YtipnglidepfkbaaDoorMMyG
namespace Go.Proofs.YtipnglidepfkbaaDoor
set_option linter.unusedVariables false
set_option linter.unusedSimpArgs false
open Go.RowKit

attribute [local go_sem ↓] Go.wp_at_zero Go.wp_at_succ

def T3.upd (t : T3) (i : Nat) (u : Bool) : T3 := match i with
  | 0 => ⟨u, t.un, t.ye⟩
  | 1 => ⟨t.no, u, t.ye⟩
  | _ => ⟨t.no, t.un, u⟩
theorem T3.upd_set (t : T3) {i : Nat} (hi : i < 3) : t.upd i true = t.set_ i := by
  rcases (show i = 0 ∨ i = 1 ∨ i = 2 by omega) with rfl | rfl | rfl <;> rfl
theorem T3.upd_get (t : T3) {i : Nat} (hi : i < 3) : t.upd i (t.get i) = t := by
  rcases (show i = 0 ∨ i = 1 ∨ i = 2 by omega) with rfl | rfl | rfl <;> rfl
theorem T3At.upd {w : World} {g : Nat} {t : TypeId} {x : T3} {i : Nat} (h : T3At w g t x) (hi : i < 3) (u : Bool) : T3At (w.setCell ⟨g, i, none⟩ (.bool u)) g t (x.upd i u) := by
  match i, hi with
  | 0, _ => exact Blk.set_ h 0 _
  | 1, _ => exact Blk.set_ h 1 _
  | 2, _ => exact Blk.set_ h 2 _
theorem accT_upd {or : Bool} {a b : T3} {x y m : Nat} (hx : x < 3) (hy : y < 3) (hm : (if or = true then max x y else min x y) = m) {u : Bool} (hu : u = ((accT or a b (x * 3 + y)).get m || (a.get x && b.get y))) : (accT or a b (x * 3 + y)).upd m u = accT or a b (x * 3 + (y + 1)) := by
  have hm3 : m < 3 := by rw [← hm]; split <;> omega
  rw [← Nat.add_assoc]
  by_cases h : a.get x = true ∧ b.get y = true
  · rw [accT_yes hy h.1 h.2, hm, ← T3.upd_set _ hm3, hu, h.1, h.2]
    simp
  · rw [accT_no hy h]
    have e : (a.get x && b.get y) = false := by
      rw [← Bool.not_eq_true, Bool.and_eq_true]
      exact h
    rw [hu, e, Bool.or_false, T3.upd_get _ hm3]

structure RBoAt (w wr : World) (a b t : T3) : Prop where
  a : T3At wr w.heap.size 37 a
  b : T3At wr (w.heap.size + 1) 37 b
  r : T3At wr (w.heap.size + 1 + 1) 37 ⟨false, false, false⟩
  t : T3At wr (w.heap.size + 1 + 1 + 1) 37 t
  below : Below w.heap.size w wr
theorem RBoAt.upd {w wr : World} {a b t : T3} (h : RBoAt w wr a b t) {i : Nat} (hi : i < 3) (u : Bool) : RBoAt w (wr.setCell ⟨w.heap.size + 1 + 1 + 1, i, none⟩ (.bool u)) a b (t.upd i u) :=
  ⟨h.a.far (by omega) _ _, h.b.far (by omega) _ _, h.r.far (by omega) _ _, h.t.upd hi u, below_set h.below (by omega) _ _⟩

set_option maxHeartbeats 4000000 in
set_option maxRecDepth 100000 in
theorem rboth_and (a b : T3) (w : World) : Calls Tryd.prog 46 #[a.agg, b.agg, .bool false] w fun e w' => e = .returned (bothZ false a b).agg ∧ Below w.heap.size w w' := by
  have hb1 : Below w.heap.size w (w.alloc (.cells #[.bool a.no, .bool a.un, .bool a.ye] 37)) := (Below.refl _ _).alloc (Nat.le_refl _) _
  have hb2 : Below w.heap.size w ((w.alloc (.cells #[.bool a.no, .bool a.un, .bool a.ye] 37)).alloc (.cells #[.bool b.no, .bool b.un, .bool b.ye] 37)) := hb1.alloc (by rw [World.size_alloc]; omega) _
  have hb3 : Below w.heap.size w (((w.alloc (.cells #[.bool a.no, .bool a.un, .bool a.ye] 37)).alloc (.cells #[.bool b.no, .bool b.un, .bool b.ye] 37)).alloc (.cells #[.bool false, .bool false, .bool false] 37)) := hb2.alloc (by rw [World.size_alloc, World.size_alloc]; omega) _
  have hb4 : Below w.heap.size w ((((w.alloc (.cells #[.bool a.no, .bool a.un, .bool a.ye] 37)).alloc (.cells #[.bool b.no, .bool b.un, .bool b.ye] 37)).alloc (.cells #[.bool false, .bool false, .bool false] 37)).alloc (.cells #[.bool false, .bool false, .bool false] 37)) := hb3.alloc (by rw [World.size_alloc, World.size_alloc, World.size_alloc]; omega) _
  have hx := (((T3At.new w 37 a).alloc (.cells #[.bool b.no, .bool b.un, .bool b.ye] 37)).alloc (.cells #[.bool false, .bool false, .bool false] 37)).alloc (.cells #[.bool false, .bool false, .bool false] 37)
  have hy := ((T3At.new (w.alloc (.cells #[.bool a.no, .bool a.un, .bool a.ye] 37)) 37 b).alloc (.cells #[.bool false, .bool false, .bool false] 37)).alloc (.cells #[.bool false, .bool false, .bool false] 37)
  have hr := (T3At.new ((w.alloc (.cells #[.bool a.no, .bool a.un, .bool a.ye] 37)).alloc (.cells #[.bool b.no, .bool b.un, .bool b.ye] 37)) 37 ⟨false, false, false⟩).alloc (.cells #[.bool false, .bool false, .bool false] 37)
  have hz := T3At.new (((w.alloc (.cells #[.bool a.no, .bool a.un, .bool a.ye] 37)).alloc (.cells #[.bool b.no, .bool b.un, .bool b.ye] 37)).alloc (.cells #[.bool false, .bool false, .bool false] 37)) 37 ⟨false, false, false⟩
  rw [World.size_alloc] at hy
  rw [World.size_alloc, World.size_alloc] at hr
  rw [World.size_alloc, World.size_alloc, World.size_alloc] at hz
  have HB0 : Hid (RBoAt w _ a b (accT false a b 0)) := ⟨hx, hy, hr, hz, hb4⟩
  rw [T3.agg_eq, T3.agg_eq]
  clear hb1 hb2 hb3 hb4 hx hy hz hr
  go_enter Tryd.func46, Tryd.ntmps46
  go_wp2_with fail
  go_loopw [8] (fun v8 wr => ∃ x : Nat, v8 = .int .i64 (x : Int) ∧ x ≤ 3 ∧ Hid (RBoAt w wr a b (accT false a b (x * 3)))) (fun v8 _ => 3 - (intOf v8).toNat)
  case atStart => exact ⟨0, rfl, by omega, HB0⟩
  case round =>
    clear HB0
    obtain ⟨x, rfl, hx, HB⟩ := hrel
    by_cases hx3 : x < 3
    · have hxI : (x : Int) < 3 := by omega
      have hxI0 : (0 : Int) ≤ (x : Int) := by omega
      go_wp2_with fail
      go_loopw [9] (fun v9 wr => ∃ y : Nat, v9 = .int .i64 (y : Int) ∧ y ≤ 3 ∧ Hid (RBoAt w wr a b (accT false a b (x * 3 + y)))) (fun v9 _ => 3 - (intOf v9).toNat)
      case atStart => exact ⟨0, rfl, by omega, HB⟩
      case round =>
        clear HB
        obtain ⟨y, rfl, hy, HB⟩ := hrel
        by_cases hy3 : y < 3
        · have hyI : (y : Int) < 3 := by omega
          have hyI0 : (0 : Int) ≤ (y : Int) := by omega
          rcases (show y < x ∨ x < y ∨ x = y by omega) with hxy | hxy | rfl
          · have hxyI : (y : Int) < (x : Int) := by omega
            have hxyI2 : ¬ (x : Int) < (y : Int) := by omega
            have hm : (if false = true then max x y else min x y) = y := by simp; omega
            have hm3 : y < 3 := by omega
            have ca := HB.out.a.cell hx3
            have cb := HB.out.b.cell hy3
            have ct := HB.out.t.cell hm3
            have cf := HB.out.t.frozen y
            cases ht : (accT false a b (x * 3 + y)).get y
            · rw [ht] at ct
              cases ha : a.get x
              · rw [ha] at ca
                have HN : Hid (RBoAt w (wr.setCell ⟨w.heap.size + 1 + 1 + 1, y, none⟩ (.bool (false))) a b (accT false a b (x * 3 + (y + 1)))) := by
                  show RBoAt _ _ _ _ _
                  rw [← accT_upd hx3 hy3 hm (u := false) (by simp [ht, ha])]
                  exact HB.out.upd hm3 (false)
                clear hm
                go_wp2_with fail
                go_roundw
                case rel => exact ⟨y + 1, by go_num, by omega, HN⟩
                case measure => simp [intOf]; omega
              · rw [ha] at ca
                have HN : Hid (RBoAt w (wr.setCell ⟨w.heap.size + 1 + 1 + 1, y, none⟩ (.bool (b.get y))) a b (accT false a b (x * 3 + (y + 1)))) := by
                  show RBoAt _ _ _ _ _
                  rw [← accT_upd hx3 hy3 hm (u := b.get y) (by simp [ht, ha])]
                  exact HB.out.upd hm3 (b.get y)
                clear hm
                go_wp2_with fail
                go_roundw
                case rel => exact ⟨y + 1, by go_num, by omega, HN⟩
                case measure => simp [intOf]; omega
            · rw [ht] at ct
              have HN : Hid (RBoAt w (wr.setCell ⟨w.heap.size + 1 + 1 + 1, y, none⟩ (.bool (true))) a b (accT false a b (x * 3 + (y + 1)))) := by
                show RBoAt _ _ _ _ _
                rw [← accT_upd hx3 hy3 hm (u := true) (by simp [ht])]
                exact HB.out.upd hm3 (true)
              clear hm
              go_wp2_with fail
              go_roundw
              case rel => exact ⟨y + 1, by go_num, by omega, HN⟩
              case measure => simp [intOf]; omega
          · have hxyI : (x : Int) < (y : Int) := by omega
            have hxyI2 : ¬ (y : Int) < (x : Int) := by omega
            have hm : (if false = true then max x y else min x y) = x := by simp; omega
            have hm3 : x < 3 := by omega
            have ca := HB.out.a.cell hx3
            have cb := HB.out.b.cell hy3
            have ct := HB.out.t.cell hm3
            have cf := HB.out.t.frozen x
            cases ht : (accT false a b (x * 3 + y)).get x
            · rw [ht] at ct
              cases ha : a.get x
              · rw [ha] at ca
                have HN : Hid (RBoAt w (wr.setCell ⟨w.heap.size + 1 + 1 + 1, x, none⟩ (.bool (false))) a b (accT false a b (x * 3 + (y + 1)))) := by
                  show RBoAt _ _ _ _ _
                  rw [← accT_upd hx3 hy3 hm (u := false) (by simp [ht, ha])]
                  exact HB.out.upd hm3 (false)
                clear hm
                go_wp2_with fail
                go_roundw
                case rel => exact ⟨y + 1, by go_num, by omega, HN⟩
                case measure => simp [intOf]; omega
              · rw [ha] at ca
                have HN : Hid (RBoAt w (wr.setCell ⟨w.heap.size + 1 + 1 + 1, x, none⟩ (.bool (b.get y))) a b (accT false a b (x * 3 + (y + 1)))) := by
                  show RBoAt _ _ _ _ _
                  rw [← accT_upd hx3 hy3 hm (u := b.get y) (by simp [ht, ha])]
                  exact HB.out.upd hm3 (b.get y)
                clear hm
                go_wp2_with fail
                go_roundw
                case rel => exact ⟨y + 1, by go_num, by omega, HN⟩
                case measure => simp [intOf]; omega
            · rw [ht] at ct
              have HN : Hid (RBoAt w (wr.setCell ⟨w.heap.size + 1 + 1 + 1, x, none⟩ (.bool (true))) a b (accT false a b (x * 3 + (y + 1)))) := by
                show RBoAt _ _ _ _ _
                rw [← accT_upd hx3 hy3 hm (u := true) (by simp [ht])]
                exact HB.out.upd hm3 (true)
              clear hm
              go_wp2_with fail
              go_roundw
              case rel => exact ⟨y + 1, by go_num, by omega, HN⟩
              case measure => simp [intOf]; omega
          · have hm : (if false = true then max x x else min x x) = x := by simp
            have hm3 : x < 3 := by omega
            have ca := HB.out.a.cell hx3
            have cb := HB.out.b.cell hy3
            have ct := HB.out.t.cell hm3
            have cf := HB.out.t.frozen x
            cases ht : (accT false a b (x * 3 + x)).get x
            · rw [ht] at ct
              cases ha : a.get x
              · rw [ha] at ca
                have HN : Hid (RBoAt w (wr.setCell ⟨w.heap.size + 1 + 1 + 1, x, none⟩ (.bool (false))) a b (accT false a b (x * 3 + (x + 1)))) := by
                  show RBoAt _ _ _ _ _
                  rw [← accT_upd hx3 hy3 hm (u := false) (by simp [ht, ha])]
                  exact HB.out.upd hm3 (false)
                clear hm
                go_wp2_with fail
                go_roundw
                case rel => exact ⟨x + 1, by go_num, by omega, HN⟩
                case measure => simp [intOf]; omega
              · rw [ha] at ca
                have HN : Hid (RBoAt w (wr.setCell ⟨w.heap.size + 1 + 1 + 1, x, none⟩ (.bool (b.get x))) a b (accT false a b (x * 3 + (x + 1)))) := by
                  show RBoAt _ _ _ _ _
                  rw [← accT_upd hx3 hy3 hm (u := b.get x) (by simp [ht, ha])]
                  exact HB.out.upd hm3 (b.get x)
                clear hm
                go_wp2_with fail
                go_roundw
                case rel => exact ⟨x + 1, by go_num, by omega, HN⟩
                case measure => simp [intOf]; omega
            · rw [ht] at ct
              have HN : Hid (RBoAt w (wr.setCell ⟨w.heap.size + 1 + 1 + 1, x, none⟩ (.bool (true))) a b (accT false a b (x * 3 + (x + 1)))) := by
                show RBoAt _ _ _ _ _
                rw [← accT_upd hx3 hy3 hm (u := true) (by simp [ht])]
                exact HB.out.upd hm3 (true)
              clear hm
              go_wp2_with fail
              go_roundw
              case rel => exact ⟨x + 1, by go_num, by omega, HN⟩
              case measure => simp [intOf]; omega
        · obtain rfl : y = 3 := by omega
          have HN : Hid (RBoAt w wr a b (accT false a b ((x + 1) * 3))) := by
            show RBoAt _ _ _ _ _
            rw [show (x + 1) * 3 = x * 3 + 3 by omega]
            exact HB.out
          go_wp2_with fail
          go_roundw
          case rel => exact ⟨x + 1, by go_num, by omega, HN⟩
          case measure => simp [intOf]; omega
    · obtain rfl : x = 3 := by omega
      have hR : Hid (accT false a b (3 * 3) = bothZ false a b) := rfl
      obtain ⟨t0, t1, t2⟩ := HB.out.t.cells
      obtain ⟨r0, r1, r2⟩ := HB.out.r.cells
      have tf := fun i => HB.out.r.frozen i
      have HS := HB.out.r.three (accT false a b (3 * 3))
      have HE := below_three HB.out.below (show w.heap.size ≤ w.heap.size + 1 + 1 by omega) (.bool (accT false a b (3 * 3)).no) (.bool (accT false a b (3 * 3)).un) (.bool (accT false a b (3 * 3)).ye)
      have HS := Lib.hid HS
      have HE := Lib.hid HE
      rw [hR.out] at t0 t1 t2 HS HE
      go_wp2_with fail
      (try simp only [Exit.inBlock, Exit.then])
      refine bodyPost_ret (results_cell_row rfl _ _ (w.heap.size + 1 + 1) 37 #[.bool (bothZ false a b).no, .bool (bothZ false a b).un, .bool (bothZ false a b).ye] (0, 0) _ rfl HS.out Tryd.underlying37 rfl (by kernel_rfl)) rfl ?_
      exact ⟨rfl, HE.out⟩
set_option maxHeartbeats 4000000 in
set_option maxRecDepth 100000 in
theorem rboth_or (a b : T3) (w : World) : Calls Tryd.prog 46 #[a.agg, b.agg, .bool true] w fun e w' => e = .returned (bothZ true a b).agg ∧ Below w.heap.size w w' := by
  have hb1 : Below w.heap.size w (w.alloc (.cells #[.bool a.no, .bool a.un, .bool a.ye] 37)) := (Below.refl _ _).alloc (Nat.le_refl _) _
  have hb2 : Below w.heap.size w ((w.alloc (.cells #[.bool a.no, .bool a.un, .bool a.ye] 37)).alloc (.cells #[.bool b.no, .bool b.un, .bool b.ye] 37)) := hb1.alloc (by rw [World.size_alloc]; omega) _
  have hb3 : Below w.heap.size w (((w.alloc (.cells #[.bool a.no, .bool a.un, .bool a.ye] 37)).alloc (.cells #[.bool b.no, .bool b.un, .bool b.ye] 37)).alloc (.cells #[.bool false, .bool false, .bool false] 37)) := hb2.alloc (by rw [World.size_alloc, World.size_alloc]; omega) _
  have hb4 : Below w.heap.size w ((((w.alloc (.cells #[.bool a.no, .bool a.un, .bool a.ye] 37)).alloc (.cells #[.bool b.no, .bool b.un, .bool b.ye] 37)).alloc (.cells #[.bool false, .bool false, .bool false] 37)).alloc (.cells #[.bool false, .bool false, .bool false] 37)) := hb3.alloc (by rw [World.size_alloc, World.size_alloc, World.size_alloc]; omega) _
  have hx := (((T3At.new w 37 a).alloc (.cells #[.bool b.no, .bool b.un, .bool b.ye] 37)).alloc (.cells #[.bool false, .bool false, .bool false] 37)).alloc (.cells #[.bool false, .bool false, .bool false] 37)
  have hy := ((T3At.new (w.alloc (.cells #[.bool a.no, .bool a.un, .bool a.ye] 37)) 37 b).alloc (.cells #[.bool false, .bool false, .bool false] 37)).alloc (.cells #[.bool false, .bool false, .bool false] 37)
  have hr := (T3At.new ((w.alloc (.cells #[.bool a.no, .bool a.un, .bool a.ye] 37)).alloc (.cells #[.bool b.no, .bool b.un, .bool b.ye] 37)) 37 ⟨false, false, false⟩).alloc (.cells #[.bool false, .bool false, .bool false] 37)
  have hz := T3At.new (((w.alloc (.cells #[.bool a.no, .bool a.un, .bool a.ye] 37)).alloc (.cells #[.bool b.no, .bool b.un, .bool b.ye] 37)).alloc (.cells #[.bool false, .bool false, .bool false] 37)) 37 ⟨false, false, false⟩
  rw [World.size_alloc] at hy
  rw [World.size_alloc, World.size_alloc] at hr
  rw [World.size_alloc, World.size_alloc, World.size_alloc] at hz
  have HB0 : Hid (RBoAt w _ a b (accT true a b 0)) := ⟨hx, hy, hr, hz, hb4⟩
  rw [T3.agg_eq, T3.agg_eq]
  clear hb1 hb2 hb3 hb4 hx hy hz hr
  go_enter Tryd.func46, Tryd.ntmps46
  go_wp2_with fail
  go_loopw [8] (fun v8 wr => ∃ x : Nat, v8 = .int .i64 (x : Int) ∧ x ≤ 3 ∧ Hid (RBoAt w wr a b (accT true a b (x * 3)))) (fun v8 _ => 3 - (intOf v8).toNat)
  case atStart => exact ⟨0, rfl, by omega, HB0⟩
  case round =>
    clear HB0
    obtain ⟨x, rfl, hx, HB⟩ := hrel
    by_cases hx3 : x < 3
    · have hxI : (x : Int) < 3 := by omega
      have hxI0 : (0 : Int) ≤ (x : Int) := by omega
      go_wp2_with fail
      go_loopw [9] (fun v9 wr => ∃ y : Nat, v9 = .int .i64 (y : Int) ∧ y ≤ 3 ∧ Hid (RBoAt w wr a b (accT true a b (x * 3 + y)))) (fun v9 _ => 3 - (intOf v9).toNat)
      case atStart => exact ⟨0, rfl, by omega, HB⟩
      case round =>
        clear HB
        obtain ⟨y, rfl, hy, HB⟩ := hrel
        by_cases hy3 : y < 3
        · have hyI : (y : Int) < 3 := by omega
          have hyI0 : (0 : Int) ≤ (y : Int) := by omega
          rcases (show y < x ∨ x < y ∨ x = y by omega) with hxy | hxy | rfl
          · have hxyI : (y : Int) < (x : Int) := by omega
            have hxyI2 : ¬ (x : Int) < (y : Int) := by omega
            have hm : (if true = true then max x y else min x y) = x := by simp; omega
            have hm3 : x < 3 := by omega
            have ca := HB.out.a.cell hx3
            have cb := HB.out.b.cell hy3
            have ct := HB.out.t.cell hm3
            have cf := HB.out.t.frozen x
            cases ht : (accT true a b (x * 3 + y)).get x
            · rw [ht] at ct
              cases ha : a.get x
              · rw [ha] at ca
                have HN : Hid (RBoAt w (wr.setCell ⟨w.heap.size + 1 + 1 + 1, x, none⟩ (.bool (false))) a b (accT true a b (x * 3 + (y + 1)))) := by
                  show RBoAt _ _ _ _ _
                  rw [← accT_upd hx3 hy3 hm (u := false) (by simp [ht, ha])]
                  exact HB.out.upd hm3 (false)
                clear hm
                go_wp2_with fail
                go_roundw
                case rel => exact ⟨y + 1, by go_num, by omega, HN⟩
                case measure => simp [intOf]; omega
              · rw [ha] at ca
                have HN : Hid (RBoAt w (wr.setCell ⟨w.heap.size + 1 + 1 + 1, x, none⟩ (.bool (b.get y))) a b (accT true a b (x * 3 + (y + 1)))) := by
                  show RBoAt _ _ _ _ _
                  rw [← accT_upd hx3 hy3 hm (u := b.get y) (by simp [ht, ha])]
                  exact HB.out.upd hm3 (b.get y)
                clear hm
                go_wp2_with fail
                go_roundw
                case rel => exact ⟨y + 1, by go_num, by omega, HN⟩
                case measure => simp [intOf]; omega
            · rw [ht] at ct
              have HN : Hid (RBoAt w (wr.setCell ⟨w.heap.size + 1 + 1 + 1, x, none⟩ (.bool (true))) a b (accT true a b (x * 3 + (y + 1)))) := by
                show RBoAt _ _ _ _ _
                rw [← accT_upd hx3 hy3 hm (u := true) (by simp [ht])]
                exact HB.out.upd hm3 (true)
              clear hm
              go_wp2_with fail
              go_roundw
              case rel => exact ⟨y + 1, by go_num, by omega, HN⟩
              case measure => simp [intOf]; omega
          · have hxyI : (x : Int) < (y : Int) := by omega
            have hxyI2 : ¬ (y : Int) < (x : Int) := by omega
            have hm : (if true = true then max x y else min x y) = y := by simp; omega
            have hm3 : y < 3 := by omega
            have ca := HB.out.a.cell hx3
            have cb := HB.out.b.cell hy3
            have ct := HB.out.t.cell hm3
            have cf := HB.out.t.frozen y
            cases ht : (accT true a b (x * 3 + y)).get y
            · rw [ht] at ct
              cases ha : a.get x
              · rw [ha] at ca
                have HN : Hid (RBoAt w (wr.setCell ⟨w.heap.size + 1 + 1 + 1, y, none⟩ (.bool (false))) a b (accT true a b (x * 3 + (y + 1)))) := by
                  show RBoAt _ _ _ _ _
                  rw [← accT_upd hx3 hy3 hm (u := false) (by simp [ht, ha])]
                  exact HB.out.upd hm3 (false)
                clear hm
                go_wp2_with fail
                go_roundw
                case rel => exact ⟨y + 1, by go_num, by omega, HN⟩
                case measure => simp [intOf]; omega
              · rw [ha] at ca
                have HN : Hid (RBoAt w (wr.setCell ⟨w.heap.size + 1 + 1 + 1, y, none⟩ (.bool (b.get y))) a b (accT true a b (x * 3 + (y + 1)))) := by
                  show RBoAt _ _ _ _ _
                  rw [← accT_upd hx3 hy3 hm (u := b.get y) (by simp [ht, ha])]
                  exact HB.out.upd hm3 (b.get y)
                clear hm
                go_wp2_with fail
                go_roundw
                case rel => exact ⟨y + 1, by go_num, by omega, HN⟩
                case measure => simp [intOf]; omega
            · rw [ht] at ct
              have HN : Hid (RBoAt w (wr.setCell ⟨w.heap.size + 1 + 1 + 1, y, none⟩ (.bool (true))) a b (accT true a b (x * 3 + (y + 1)))) := by
                show RBoAt _ _ _ _ _
                rw [← accT_upd hx3 hy3 hm (u := true) (by simp [ht])]
                exact HB.out.upd hm3 (true)
              clear hm
              go_wp2_with fail
              go_roundw
              case rel => exact ⟨y + 1, by go_num, by omega, HN⟩
              case measure => simp [intOf]; omega
          · have hm : (if true = true then max x x else min x x) = x := by simp
            have hm3 : x < 3 := by omega
            have ca := HB.out.a.cell hx3
            have cb := HB.out.b.cell hy3
            have ct := HB.out.t.cell hm3
            have cf := HB.out.t.frozen x
            cases ht : (accT true a b (x * 3 + x)).get x
            · rw [ht] at ct
              cases ha : a.get x
              · rw [ha] at ca
                have HN : Hid (RBoAt w (wr.setCell ⟨w.heap.size + 1 + 1 + 1, x, none⟩ (.bool (false))) a b (accT true a b (x * 3 + (x + 1)))) := by
                  show RBoAt _ _ _ _ _
                  rw [← accT_upd hx3 hy3 hm (u := false) (by simp [ht, ha])]
                  exact HB.out.upd hm3 (false)
                clear hm
                go_wp2_with fail
                go_roundw
                case rel => exact ⟨x + 1, by go_num, by omega, HN⟩
                case measure => simp [intOf]; omega
              · rw [ha] at ca
                have HN : Hid (RBoAt w (wr.setCell ⟨w.heap.size + 1 + 1 + 1, x, none⟩ (.bool (b.get x))) a b (accT true a b (x * 3 + (x + 1)))) := by
                  show RBoAt _ _ _ _ _
                  rw [← accT_upd hx3 hy3 hm (u := b.get x) (by simp [ht, ha])]
                  exact HB.out.upd hm3 (b.get x)
                clear hm
                go_wp2_with fail
                go_roundw
                case rel => exact ⟨x + 1, by go_num, by omega, HN⟩
                case measure => simp [intOf]; omega
            · rw [ht] at ct
              have HN : Hid (RBoAt w (wr.setCell ⟨w.heap.size + 1 + 1 + 1, x, none⟩ (.bool (true))) a b (accT true a b (x * 3 + (x + 1)))) := by
                show RBoAt _ _ _ _ _
                rw [← accT_upd hx3 hy3 hm (u := true) (by simp [ht])]
                exact HB.out.upd hm3 (true)
              clear hm
              go_wp2_with fail
              go_roundw
              case rel => exact ⟨x + 1, by go_num, by omega, HN⟩
              case measure => simp [intOf]; omega
        · obtain rfl : y = 3 := by omega
          have HN : Hid (RBoAt w wr a b (accT true a b ((x + 1) * 3))) := by
            show RBoAt _ _ _ _ _
            rw [show (x + 1) * 3 = x * 3 + 3 by omega]
            exact HB.out
          go_wp2_with fail
          go_roundw
          case rel => exact ⟨x + 1, by go_num, by omega, HN⟩
          case measure => simp [intOf]; omega
    · obtain rfl : x = 3 := by omega
      have hR : Hid (accT true a b (3 * 3) = bothZ true a b) := rfl
      obtain ⟨t0, t1, t2⟩ := HB.out.t.cells
      obtain ⟨r0, r1, r2⟩ := HB.out.r.cells
      have tf := fun i => HB.out.r.frozen i
      have HS := HB.out.r.three (accT true a b (3 * 3))
      have HE := below_three HB.out.below (show w.heap.size ≤ w.heap.size + 1 + 1 by omega) (.bool (accT true a b (3 * 3)).no) (.bool (accT true a b (3 * 3)).un) (.bool (accT true a b (3 * 3)).ye)
      have HS := Lib.hid HS
      have HE := Lib.hid HE
      rw [hR.out] at t0 t1 t2 HS HE
      go_wp2_with fail
      (try simp only [Exit.inBlock, Exit.then])
      refine bodyPost_ret (results_cell_row rfl _ _ (w.heap.size + 1 + 1) 37 #[.bool (bothZ true a b).no, .bool (bothZ true a b).un, .bool (bothZ true a b).ye] (0, 0) _ rfl HS.out Tryd.underlying37 rfl (by kernel_rfl)) rfl ?_
      exact ⟨rfl, HE.out⟩
end Go.Proofs.YtipnglidepfkbaaDoor
