/- Walks: what is known of values (zone.Of). (Printed by gen_myv.py.) -/
import Derived.Test.YtipnglidepfkbaaDoorMGrQ
import Derived.Test.YtipnglidepfkbaaDoorMGrR
import Derived.Test.YtipnglidepfkbaaDoorMGrB
import Derived.Test.YtipnglidepfkbaaDoorMMyR
import Derived.Deep.RegionHeld3
namespace Go.Proofs.YtipnglidepfkbaaDoor
set_option linter.unusedVariables false
set_option linter.unusedSimpArgs false
open Go.RowKit

attribute [local go_sem ↓] Go.wp_at_zero Go.wp_at_succ

/-- A block that holds what is known of values. -/
def ZB (w : World) (g : Nat) (z : Zo) : Prop := Blk w g 62 z.cells
def zset (w : World) (g : Nat) (z : Zo) : World := ((((((((w.setCell ⟨g, 0, none⟩ (.int .u8 z.least.k)).setCell ⟨g, 1, none⟩ (.int .i64 z.least.n)).setCell ⟨g, 2, none⟩ (.string (St8 z.least.s))).setCell ⟨g, 3, none⟩ (.int .u8 z.most.k)).setCell ⟨g, 4, none⟩ (.int .i64 z.most.n)).setCell ⟨g, 5, none⟩ (.string (St8 z.most.s))).setCell ⟨g, 6, none⟩ (.int .i64 z.nulls)).setCell ⟨g, 7, none⟩ (.int .i64 z.many))
namespace ZB
variable {w w' : World} {g : Nat} {z y : Zo}
theorem below (h : ZB w g z) (hb : Below w.heap.size w w') : ZB w' g z := Blk.below h hb
theorem alloc (h : ZB w g z) (o : Obj) : ZB (w.alloc o) g z := Blk.alloc h o
theorem lt (h : ZB w g z) : g < w.heap.size := Blk.lt h
theorem new (w : World) (z : Zo) : ZB (w.alloc (.cells #[.int .u8 z.least.k, .int .i64 z.least.n, .string (St8 z.least.s), .int .u8 z.most.k, .int .i64 z.most.n, .string (St8 z.most.s), .int .i64 z.nulls, .int .i64 z.many] 62)) w.heap.size z := Blk.new w 62 _
theorem cells (h : ZB w g z) : w.cell? ⟨g, 0, none⟩ = some (.int .u8 z.least.k) ∧ w.cell? ⟨g, 1, none⟩ = some (.int .i64 z.least.n) ∧ w.cell? ⟨g, 2, none⟩ = some (.string (St8 z.least.s)) ∧ w.cell? ⟨g, 3, none⟩ = some (.int .u8 z.most.k) ∧ w.cell? ⟨g, 4, none⟩ = some (.int .i64 z.most.n) ∧ w.cell? ⟨g, 5, none⟩ = some (.string (St8 z.most.s)) ∧ w.cell? ⟨g, 6, none⟩ = some (.int .i64 z.nulls) ∧ w.cell? ⟨g, 7, none⟩ = some (.int .i64 z.many) :=
  ⟨Blk.cell h 0, Blk.cell h 1, Blk.cell h 2, Blk.cell h 3, Blk.cell h 4, Blk.cell h 5, Blk.cell h 6, Blk.cell h 7⟩
theorem frozen (h : ZB w g z) (i : Nat) : w.frozen? ⟨g, i, none⟩ = false := Blk.frozen h i
theorem set_ (h : ZB w g z) (y : Zo) : ZB (zset w g y) g y :=
  (((((((Blk.set_ h 0 _).set_ 1 _).set_ 2 _).set_ 3 _).set_ 4 _).set_ 5 _).set_ 6 _).set_ 7 _
end ZB
theorem zset_cell {w : World} {p : Addr} {v : Value} {g : Nat} (h : w.cell? p = some v) (hne : p.block ≠ g) (y : Zo) : (zset w g y).cell? p = some v :=
  cell_far (cell_far (cell_far (cell_far (cell_far (cell_far (cell_far (cell_far h hne 0 _) hne 1 _) hne 2 _) hne 3 _) hne 4 _) hne 5 _) hne 6 _) hne 7 _
theorem zset_blk {w : World} {k g : Nat} {t : TypeId} {xs : List Value} (h : Blk w k t xs) (hne : k ≠ g) (y : Zo) : Blk (zset w g y) k t xs :=
  (((((((h.far (p := ⟨g, 0, none⟩) hne _).far (p := ⟨g, 1, none⟩) hne _).far (p := ⟨g, 2, none⟩) hne _).far (p := ⟨g, 3, none⟩) hne _).far (p := ⟨g, 4, none⟩) hne _).far (p := ⟨g, 5, none⟩) hne _).far (p := ⟨g, 6, none⟩) hne _).far (p := ⟨g, 7, none⟩) hne _
theorem zset_below {B : Nat} {w0 w : World} (h : Below B w0 w) {g : Nat} (hg : B ≤ g) (y : Zo) : Below B w0 (zset w g y) :=
  below_set (below_set (below_set (below_set (below_set (below_set (below_set (below_set h hg 0 _) hg 1 _) hg 2 _) hg 3 _) hg 4 _) hg 5 _) hg 6 _) hg 7 _
theorem zset_size (w : World) (g : Nat) (y : Zo) : (zset w g y).heap.size = w.heap.size := by simp [zset, World.setCell]
theorem Zo.agg_eq (z : Zo) : z.agg = .agg #[.int .u8 z.least.k, .int .i64 z.least.n, .string (St8 z.least.s), .int .u8 z.most.k, .int .i64 z.most.n, .string (St8 z.most.s), .int .i64 z.nulls, .int .i64 z.many] := rfl
theorem Va.agg_eq (v : Va) : v.agg = .agg #[.int .u8 v.k, .int .i64 v.n, .string (St8 v.s)] := rfl

set_option maxRecDepth 100000 in
theorem zone_one (v : Va) (w : World) : Calls Tryd.prog 66 #[v.agg] w fun e w' => e = .returned (oneZ v).agg ∧ Below w.heap.size w w' := by
  rw [Va.agg_eq]
  by_cases hk : v.k = 0
  · have hR : oneZ v = ⟨Va.nil, Va.nil, 1, 1⟩ := by unfold oneZ; rw [if_pos hk]
    rw [hR]
    obtain ⟨k, n, s⟩ := v
    dsimp only at hk ⊢
    subst hk
    have hb : Blk ((w.alloc (.cells #[.int .u8 0, .int .i64 n, .string (St8 s)] 44)).alloc (.cells #[.int .u8 0, .int .i64 0, .string ⟨#[]⟩, .int .u8 0, .int .i64 0, .string ⟨#[]⟩, .int .i64 1, .int .i64 1] 62)) (w.heap.size + 1) 62 [.int .u8 0, .int .i64 0, .string ⟨#[]⟩, .int .u8 0, .int .i64 0, .string ⟨#[]⟩, .int .i64 1, .int .i64 1] := by
      have h := Blk.new (w.alloc (.cells #[.int .u8 0, .int .i64 n, .string (St8 s)] 44)) 62 #[.int .u8 0, .int .i64 0, .string ⟨#[]⟩, .int .u8 0, .int .i64 0, .string ⟨#[]⟩, .int .i64 1, .int .i64 1]
      rw [World.size_alloc] at h
      exact h
    have HB := Lib.hid hb
    have Hbe : Hid (Below w.heap.size w ((w.alloc (.cells #[.int .u8 0, .int .i64 n, .string (St8 s)] 44)).alloc (.cells #[.int .u8 0, .int .i64 0, .string ⟨#[]⟩, .int .u8 0, .int .i64 0, .string ⟨#[]⟩, .int .i64 1, .int .i64 1] 62))) := (((Below.refl _ _).alloc (Nat.le_refl _) _).alloc (by rw [World.size_alloc]; omega) _)
    clear hb hR
    go_enter Tryd.func66, Tryd.ntmps66
    go_wp2_with fail
    (try simp only [Exit.inBlock, Exit.then])
    refine bodyPost_ret (results_cell_row rfl _ _ (w.heap.size + 1) 62 #[.int .u8 0, .int .i64 0, .string ⟨#[]⟩, .int .u8 0, .int .i64 0, .string ⟨#[]⟩, .int .i64 1, .int .i64 1] (0, 0) _ rfl HB.out Tryd.underlying62 rfl (by kernel_rfl)) rfl ?_
    exact ⟨rfl, Hbe.out⟩
  · have hR : oneZ v = ⟨v, v, 0, 1⟩ := by unfold oneZ; rw [if_neg hk]
    rw [hR]
    have hkb : (v.k == 0) = false := by rw [beq_eq_false_iff_ne]; exact hk
    have hb : Blk ((w.alloc (.cells #[.int .u8 v.k, .int .i64 v.n, .string (St8 v.s)] 44)).alloc (.cells #[.int .u8 v.k, .int .i64 v.n, .string (St8 v.s), .int .u8 v.k, .int .i64 v.n, .string (St8 v.s), .int .i64 0, .int .i64 1] 62)) (w.heap.size + 1) 62 [.int .u8 v.k, .int .i64 v.n, .string (St8 v.s), .int .u8 v.k, .int .i64 v.n, .string (St8 v.s), .int .i64 0, .int .i64 1] := by
      have h := Blk.new (w.alloc (.cells #[.int .u8 v.k, .int .i64 v.n, .string (St8 v.s)] 44)) 62 #[.int .u8 v.k, .int .i64 v.n, .string (St8 v.s), .int .u8 v.k, .int .i64 v.n, .string (St8 v.s), .int .i64 0, .int .i64 1]
      rw [World.size_alloc] at h
      exact h
    have HB := Lib.hid hb
    have Hbe : Hid (Below w.heap.size w ((w.alloc (.cells #[.int .u8 v.k, .int .i64 v.n, .string (St8 v.s)] 44)).alloc (.cells #[.int .u8 v.k, .int .i64 v.n, .string (St8 v.s), .int .u8 v.k, .int .i64 v.n, .string (St8 v.s), .int .i64 0, .int .i64 1] 62))) := (((Below.refl _ _).alloc (Nat.le_refl _) _).alloc (by rw [World.size_alloc]; omega) _)
    clear hb hR
    go_enter Tryd.func66, Tryd.ntmps66
    go_wp2_with fail
    (try simp only [Exit.inBlock, Exit.then])
    refine bodyPost_ret (results_cell_row rfl _ _ (w.heap.size + 1) 62 #[.int .u8 v.k, .int .i64 v.n, .string (St8 v.s), .int .u8 v.k, .int .i64 v.n, .string (St8 v.s), .int .i64 0, .int .i64 1] (0, 0) _ rfl HB.out Tryd.underlying62 rfl (by kernel_rfl)) rfl ?_
    exact ⟨rfl, Hbe.out⟩
set_option maxHeartbeats 4000000 in
set_option maxRecDepth 100000 in
theorem zchoose_any (a b : Va) (way : Int) (w : World) : Calls Tryd.prog 85 #[a.agg, b.agg, .int .i64 way] w fun e w' => e = .returned (chooseV a b way).agg ∧ Below w.heap.size w w' := by
  have hcm := Lib.hid (fun w' => compare_any a b w')
  simp only [Va.agg_eq] at hcm ⊢
  by_cases ha : a.k = 0
  · by_cases hb0 : b.k = 0
    · have ka : (a.k == 0) = true := by rw [beq_iff_eq]; exact ha
      have kb : (b.k == 0) = true := by rw [beq_iff_eq]; exact hb0
      have hR : chooseV a b way = Va.nil := by unfold chooseV; rw [if_pos ⟨ha, hb0⟩]
      rw [hR]
      have hb : Blk (((w.alloc (.cells #[.int .u8 a.k, .int .i64 a.n, .string (St8 a.s)] 44)).alloc (.cells #[.int .u8 b.k, .int .i64 b.n, .string (St8 b.s)] 44)).alloc (.cells #[.int .u8 0, .int .i64 0, .string ⟨#[]⟩] 44)) (w.heap.size + 1 + 1) 44 [.int .u8 0, .int .i64 0, .string ⟨#[]⟩] := by
        have h := Blk.new ((w.alloc (.cells #[.int .u8 a.k, .int .i64 a.n, .string (St8 a.s)] 44)).alloc (.cells #[.int .u8 b.k, .int .i64 b.n, .string (St8 b.s)] 44)) 44 #[.int .u8 0, .int .i64 0, .string ⟨#[]⟩]
        rw [World.size_alloc, World.size_alloc] at h
        exact h
      have HB := Lib.hid hb
      have Hbe : Hid (Below w.heap.size w (((w.alloc (.cells #[.int .u8 a.k, .int .i64 a.n, .string (St8 a.s)] 44)).alloc (.cells #[.int .u8 b.k, .int .i64 b.n, .string (St8 b.s)] 44)).alloc (.cells #[.int .u8 0, .int .i64 0, .string ⟨#[]⟩] 44))) := ((((Below.refl _ _).alloc (Nat.le_refl _) _).alloc (by rw [World.size_alloc]; omega) _).alloc (by rw [World.size_alloc, World.size_alloc]; omega) _)
      clear hb hR hcm ha hb0
      go_enter Tryd.func85, Tryd.ntmps85
      go_wp2_with fail
      (try simp only [Exit.inBlock, Exit.then])
      refine bodyPost_ret (results_cell_row rfl _ _ (w.heap.size + 1 + 1) 44 #[.int .u8 0, .int .i64 0, .string ⟨#[]⟩] (0, 0) _ rfl HB.out Tryd.underlying44 rfl (by kernel_rfl)) rfl ?_
      exact ⟨rfl, Hbe.out⟩
    · have ka : (a.k == 0) = true := by rw [beq_iff_eq]; exact ha
      have kb : (b.k == 0) = false := by rw [beq_eq_false_iff_ne]; exact hb0
      have hR : chooseV a b way = b := by unfold chooseV; rw [if_neg (fun h => hb0 h.2), if_pos ha]
      rw [hR]
      have hb : Blk (((w.alloc (.cells #[.int .u8 a.k, .int .i64 a.n, .string (St8 a.s)] 44)).alloc (.cells #[.int .u8 b.k, .int .i64 b.n, .string (St8 b.s)] 44)).alloc (.cells #[.int .u8 b.k, .int .i64 b.n, .string (St8 b.s)] 44)) (w.heap.size + 1 + 1) 44 [.int .u8 b.k, .int .i64 b.n, .string (St8 b.s)] := by
        have h := Blk.new ((w.alloc (.cells #[.int .u8 a.k, .int .i64 a.n, .string (St8 a.s)] 44)).alloc (.cells #[.int .u8 b.k, .int .i64 b.n, .string (St8 b.s)] 44)) 44 #[.int .u8 b.k, .int .i64 b.n, .string (St8 b.s)]
        rw [World.size_alloc, World.size_alloc] at h
        exact h
      have HB := Lib.hid hb
      have Hbe : Hid (Below w.heap.size w (((w.alloc (.cells #[.int .u8 a.k, .int .i64 a.n, .string (St8 a.s)] 44)).alloc (.cells #[.int .u8 b.k, .int .i64 b.n, .string (St8 b.s)] 44)).alloc (.cells #[.int .u8 b.k, .int .i64 b.n, .string (St8 b.s)] 44))) := ((((Below.refl _ _).alloc (Nat.le_refl _) _).alloc (by rw [World.size_alloc]; omega) _).alloc (by rw [World.size_alloc, World.size_alloc]; omega) _)
      clear hb hR hcm ha hb0
      go_enter Tryd.func85, Tryd.ntmps85
      go_wp2_with fail
      (try simp only [Exit.inBlock, Exit.then])
      refine bodyPost_ret (results_cell_row rfl _ _ (w.heap.size + 1 + 1) 44 #[.int .u8 b.k, .int .i64 b.n, .string (St8 b.s)] (0, 0) _ rfl HB.out Tryd.underlying44 rfl (by kernel_rfl)) rfl ?_
      exact ⟨rfl, Hbe.out⟩
  · by_cases hb0 : b.k = 0
    · have ka : (a.k == 0) = false := by rw [beq_eq_false_iff_ne]; exact ha
      have kb : (b.k == 0) = true := by rw [beq_iff_eq]; exact hb0
      have hR : chooseV a b way = a := by unfold chooseV; rw [if_neg (fun h => ha h.1), if_neg ha, if_pos (.inl hb0)]
      rw [hR]
      have hb : Blk (((w.alloc (.cells #[.int .u8 a.k, .int .i64 a.n, .string (St8 a.s)] 44)).alloc (.cells #[.int .u8 b.k, .int .i64 b.n, .string (St8 b.s)] 44)).alloc (.cells #[.int .u8 a.k, .int .i64 a.n, .string (St8 a.s)] 44)) (w.heap.size + 1 + 1) 44 [.int .u8 a.k, .int .i64 a.n, .string (St8 a.s)] := by
        have h := Blk.new ((w.alloc (.cells #[.int .u8 a.k, .int .i64 a.n, .string (St8 a.s)] 44)).alloc (.cells #[.int .u8 b.k, .int .i64 b.n, .string (St8 b.s)] 44)) 44 #[.int .u8 a.k, .int .i64 a.n, .string (St8 a.s)]
        rw [World.size_alloc, World.size_alloc] at h
        exact h
      have HB := Lib.hid hb
      have Hbe : Hid (Below w.heap.size w (((w.alloc (.cells #[.int .u8 a.k, .int .i64 a.n, .string (St8 a.s)] 44)).alloc (.cells #[.int .u8 b.k, .int .i64 b.n, .string (St8 b.s)] 44)).alloc (.cells #[.int .u8 a.k, .int .i64 a.n, .string (St8 a.s)] 44))) := ((((Below.refl _ _).alloc (Nat.le_refl _) _).alloc (by rw [World.size_alloc]; omega) _).alloc (by rw [World.size_alloc, World.size_alloc]; omega) _)
      clear hb hR hcm ha hb0
      go_enter Tryd.func85, Tryd.ntmps85
      go_wp2_with fail
      (try simp only [Exit.inBlock, Exit.then])
      refine bodyPost_ret (results_cell_row rfl _ _ (w.heap.size + 1 + 1) 44 #[.int .u8 a.k, .int .i64 a.n, .string (St8 a.s)] (0, 0) _ rfl HB.out Tryd.underlying44 rfl (by kernel_rfl)) rfl ?_
      exact ⟨rfl, Hbe.out⟩
    · by_cases hc : cmpVa a b = way
      · have ka : (a.k == 0) = false := by rw [beq_eq_false_iff_ne]; exact ha
        have kb : (b.k == 0) = false := by rw [beq_eq_false_iff_ne]; exact hb0
        have hR : chooseV a b way = a := by unfold chooseV; rw [if_neg (fun h => ha h.1), if_neg ha, if_pos (.inr hc)]
        rw [hR]
        have kc : (cmpVa a b == way) = true := by rw [beq_iff_eq]; exact hc
        have hb3 : Below w.heap.size w (((w.alloc (.cells #[.int .u8 a.k, .int .i64 a.n, .string (St8 a.s)] 44)).alloc (.cells #[.int .u8 b.k, .int .i64 b.n, .string (St8 b.s)] 44)).alloc (.cells #[.int .u8 0, .int .i64 0, .string ⟨#[]⟩] 44)) := ((((Below.refl _ _).alloc (Nat.le_refl _) _).alloc (by rw [World.size_alloc]; omega) _).alloc (by rw [World.size_alloc, World.size_alloc]; omega) _)
        have hx : Blk (((w.alloc (.cells #[.int .u8 a.k, .int .i64 a.n, .string (St8 a.s)] 44)).alloc (.cells #[.int .u8 b.k, .int .i64 b.n, .string (St8 b.s)] 44)).alloc (.cells #[.int .u8 0, .int .i64 0, .string ⟨#[]⟩] 44)) w.heap.size 44 [.int .u8 a.k, .int .i64 a.n, .string (St8 a.s)] := ((Blk.new w 44 #[.int .u8 a.k, .int .i64 a.n, .string (St8 a.s)]).alloc _).alloc _
        have hy : Blk (((w.alloc (.cells #[.int .u8 a.k, .int .i64 a.n, .string (St8 a.s)] 44)).alloc (.cells #[.int .u8 b.k, .int .i64 b.n, .string (St8 b.s)] 44)).alloc (.cells #[.int .u8 0, .int .i64 0, .string ⟨#[]⟩] 44)) (w.heap.size + 1) 44 [.int .u8 b.k, .int .i64 b.n, .string (St8 b.s)] := by
          have h := (Blk.new (w.alloc (.cells #[.int .u8 a.k, .int .i64 a.n, .string (St8 a.s)] 44)) 44 #[.int .u8 b.k, .int .i64 b.n, .string (St8 b.s)]).alloc (.cells #[.int .u8 0, .int .i64 0, .string ⟨#[]⟩] 44)
          rw [World.size_alloc] at h
          exact h
        have hz : Blk (((w.alloc (.cells #[.int .u8 a.k, .int .i64 a.n, .string (St8 a.s)] 44)).alloc (.cells #[.int .u8 b.k, .int .i64 b.n, .string (St8 b.s)] 44)).alloc (.cells #[.int .u8 0, .int .i64 0, .string ⟨#[]⟩] 44)) (w.heap.size + 1 + 1) 44 [.int .u8 0, .int .i64 0, .string ⟨#[]⟩] := by
          have h := Blk.new ((w.alloc (.cells #[.int .u8 a.k, .int .i64 a.n, .string (St8 a.s)] 44)).alloc (.cells #[.int .u8 b.k, .int .i64 b.n, .string (St8 b.s)] 44)) 44 #[.int .u8 0, .int .i64 0, .string ⟨#[]⟩]
          rw [World.size_alloc, World.size_alloc] at h
          exact h
        generalize hW : (((w.alloc (.cells #[.int .u8 a.k, .int .i64 a.n, .string (St8 a.s)] 44)).alloc (.cells #[.int .u8 b.k, .int .i64 b.n, .string (St8 b.s)] 44)).alloc (.cells #[.int .u8 0, .int .i64 0, .string ⟨#[]⟩] 44)) = W at *
        have HW := Lib.hid hW
        have Hb3 := Lib.hid hb3
        have Hx := Lib.hid hx
        have Hy := Lib.hid hy
        have Hz := Lib.hid hz
        clear hW hb3 hx hy hz hR ha hb0 hc
        generalize cmpVa a b = C at *
        go_enter Tryd.func85, Tryd.ntmps85
        go_wp2_with fail
        rw [HW.out]
        refine (hcm.out _).mono ?_
        rintro e w1 ⟨rfl, hb1⟩
        have Hb1 := Lib.hid (Hb3.out.trans (hb1.mono Hb3.out.size))
        have hx1 := Hx.out.below hb1
        have hy1 := Hy.out.below hb1
        have hz1 := Hz.out.below hb1
        have x0 := hx1.cell 0
        have x1 := hx1.cell 1
        have x2 := hx1.cell 2
        have y0 := hy1.cell 0
        have y1 := hy1.cell 1
        have y2 := hy1.cell 2
        have z0 := hz1.cell 0
        have z1 := hz1.cell 1
        have z2 := hz1.cell 2
        simp only [List.getElem?_cons_zero, List.getElem?_cons_succ] at x0 x1 x2 y0 y1 y2 z0 z1 z2
        have zf := fun i => hz1.frozen i
        have HS := Lib.hid (Blk.three hz1 (.int .u8 a.k) (.int .i64 a.n) (.string (St8 a.s)))
        have HE := Lib.hid (below_three Hb1.out (show w.heap.size ≤ w.heap.size + 1 + 1 by omega) (.int .u8 a.k) (.int .i64 a.n) (.string (St8 a.s)))
        clear hb1 hx1 hy1 hz1
        go_wp2_with fail
        (try simp only [Exit.inBlock, Exit.then])
        refine bodyPost_ret (results_cell_row rfl _ _ (w.heap.size + 1 + 1) 44 #[.int .u8 a.k, .int .i64 a.n, .string (St8 a.s)] (0, 0) _ rfl HS.out Tryd.underlying44 rfl (by kernel_rfl)) rfl ?_
        exact ⟨rfl, HE.out⟩
      · have ka : (a.k == 0) = false := by rw [beq_eq_false_iff_ne]; exact ha
        have kb : (b.k == 0) = false := by rw [beq_eq_false_iff_ne]; exact hb0
        have hR : chooseV a b way = b := by unfold chooseV; rw [if_neg (fun h => ha h.1), if_neg ha, if_neg (fun h => h.elim hb0 hc)]
        rw [hR]
        have kc : (cmpVa a b == way) = false := by rw [beq_eq_false_iff_ne]; exact hc
        have hb3 : Below w.heap.size w (((w.alloc (.cells #[.int .u8 a.k, .int .i64 a.n, .string (St8 a.s)] 44)).alloc (.cells #[.int .u8 b.k, .int .i64 b.n, .string (St8 b.s)] 44)).alloc (.cells #[.int .u8 0, .int .i64 0, .string ⟨#[]⟩] 44)) := ((((Below.refl _ _).alloc (Nat.le_refl _) _).alloc (by rw [World.size_alloc]; omega) _).alloc (by rw [World.size_alloc, World.size_alloc]; omega) _)
        have hx : Blk (((w.alloc (.cells #[.int .u8 a.k, .int .i64 a.n, .string (St8 a.s)] 44)).alloc (.cells #[.int .u8 b.k, .int .i64 b.n, .string (St8 b.s)] 44)).alloc (.cells #[.int .u8 0, .int .i64 0, .string ⟨#[]⟩] 44)) w.heap.size 44 [.int .u8 a.k, .int .i64 a.n, .string (St8 a.s)] := ((Blk.new w 44 #[.int .u8 a.k, .int .i64 a.n, .string (St8 a.s)]).alloc _).alloc _
        have hy : Blk (((w.alloc (.cells #[.int .u8 a.k, .int .i64 a.n, .string (St8 a.s)] 44)).alloc (.cells #[.int .u8 b.k, .int .i64 b.n, .string (St8 b.s)] 44)).alloc (.cells #[.int .u8 0, .int .i64 0, .string ⟨#[]⟩] 44)) (w.heap.size + 1) 44 [.int .u8 b.k, .int .i64 b.n, .string (St8 b.s)] := by
          have h := (Blk.new (w.alloc (.cells #[.int .u8 a.k, .int .i64 a.n, .string (St8 a.s)] 44)) 44 #[.int .u8 b.k, .int .i64 b.n, .string (St8 b.s)]).alloc (.cells #[.int .u8 0, .int .i64 0, .string ⟨#[]⟩] 44)
          rw [World.size_alloc] at h
          exact h
        have hz : Blk (((w.alloc (.cells #[.int .u8 a.k, .int .i64 a.n, .string (St8 a.s)] 44)).alloc (.cells #[.int .u8 b.k, .int .i64 b.n, .string (St8 b.s)] 44)).alloc (.cells #[.int .u8 0, .int .i64 0, .string ⟨#[]⟩] 44)) (w.heap.size + 1 + 1) 44 [.int .u8 0, .int .i64 0, .string ⟨#[]⟩] := by
          have h := Blk.new ((w.alloc (.cells #[.int .u8 a.k, .int .i64 a.n, .string (St8 a.s)] 44)).alloc (.cells #[.int .u8 b.k, .int .i64 b.n, .string (St8 b.s)] 44)) 44 #[.int .u8 0, .int .i64 0, .string ⟨#[]⟩]
          rw [World.size_alloc, World.size_alloc] at h
          exact h
        generalize hW : (((w.alloc (.cells #[.int .u8 a.k, .int .i64 a.n, .string (St8 a.s)] 44)).alloc (.cells #[.int .u8 b.k, .int .i64 b.n, .string (St8 b.s)] 44)).alloc (.cells #[.int .u8 0, .int .i64 0, .string ⟨#[]⟩] 44)) = W at *
        have HW := Lib.hid hW
        have Hb3 := Lib.hid hb3
        have Hx := Lib.hid hx
        have Hy := Lib.hid hy
        have Hz := Lib.hid hz
        clear hW hb3 hx hy hz hR ha hb0 hc
        generalize cmpVa a b = C at *
        go_enter Tryd.func85, Tryd.ntmps85
        go_wp2_with fail
        rw [HW.out]
        refine (hcm.out _).mono ?_
        rintro e w1 ⟨rfl, hb1⟩
        have Hb1 := Lib.hid (Hb3.out.trans (hb1.mono Hb3.out.size))
        have hx1 := Hx.out.below hb1
        have hy1 := Hy.out.below hb1
        have hz1 := Hz.out.below hb1
        have x0 := hx1.cell 0
        have x1 := hx1.cell 1
        have x2 := hx1.cell 2
        have y0 := hy1.cell 0
        have y1 := hy1.cell 1
        have y2 := hy1.cell 2
        have z0 := hz1.cell 0
        have z1 := hz1.cell 1
        have z2 := hz1.cell 2
        simp only [List.getElem?_cons_zero, List.getElem?_cons_succ] at x0 x1 x2 y0 y1 y2 z0 z1 z2
        have zf := fun i => hz1.frozen i
        have HS := Lib.hid (Blk.three hz1 (.int .u8 b.k) (.int .i64 b.n) (.string (St8 b.s)))
        have HE := Lib.hid (below_three Hb1.out (show w.heap.size ≤ w.heap.size + 1 + 1 by omega) (.int .u8 b.k) (.int .i64 b.n) (.string (St8 b.s)))
        clear hb1 hx1 hy1 hz1
        go_wp2_with fail
        (try simp only [Exit.inBlock, Exit.then])
        refine bodyPost_ret (results_cell_row rfl _ _ (w.heap.size + 1 + 1) 44 #[.int .u8 b.k, .int .i64 b.n, .string (St8 b.s)] (0, 0) _ rfl HS.out Tryd.underlying44 rfl (by kernel_rfl)) rfl ?_
        exact ⟨rfl, HE.out⟩
set_option maxHeartbeats 1500000 in
set_option maxRecDepth 100000 in
theorem zmerge_any (a b : Zo) (w : World) (h1 : IntKind.i64.wrap (a.nulls + b.nulls) = a.nulls + b.nulls) (h2 : IntKind.i64.wrap (a.many + b.many) = a.many + b.many) : Calls Tryd.prog 65 #[a.agg, b.agg] w fun e w' => e = .returned (mergeZ a b).agg ∧ Below w.heap.size w w' := by
  have hcA := Lib.hid (fun w' => zchoose_any a.least b.least (-1) w')
  have hcB := Lib.hid (fun w' => zchoose_any a.most b.most 1 w')
  have hR : Hid (mergeZ a b = ⟨chooseV a.least b.least (-1), chooseV a.most b.most 1, a.nulls + b.nulls, a.many + b.many⟩) := rfl
  simp only [Zo.agg_eq a, Zo.agg_eq b]
  simp only [Va.agg_eq] at hcA hcB
  have hb3 : Below w.heap.size w (((w.alloc (.cells #[.int .u8 a.least.k, .int .i64 a.least.n, .string (St8 a.least.s), .int .u8 a.most.k, .int .i64 a.most.n, .string (St8 a.most.s), .int .i64 a.nulls, .int .i64 a.many] 62)).alloc (.cells #[.int .u8 b.least.k, .int .i64 b.least.n, .string (St8 b.least.s), .int .u8 b.most.k, .int .i64 b.most.n, .string (St8 b.most.s), .int .i64 b.nulls, .int .i64 b.many] 62)).alloc (.cells #[.int .u8 0, .int .i64 0, .string ⟨#[]⟩, .int .u8 0, .int .i64 0, .string ⟨#[]⟩, .int .i64 0, .int .i64 0] 62)) := ((((Below.refl _ _).alloc (Nat.le_refl _) _).alloc (by rw [World.size_alloc]; omega) _).alloc (by rw [World.size_alloc, World.size_alloc]; omega) _)
  have hx : ZB (((w.alloc (.cells #[.int .u8 a.least.k, .int .i64 a.least.n, .string (St8 a.least.s), .int .u8 a.most.k, .int .i64 a.most.n, .string (St8 a.most.s), .int .i64 a.nulls, .int .i64 a.many] 62)).alloc (.cells #[.int .u8 b.least.k, .int .i64 b.least.n, .string (St8 b.least.s), .int .u8 b.most.k, .int .i64 b.most.n, .string (St8 b.most.s), .int .i64 b.nulls, .int .i64 b.many] 62)).alloc (.cells #[.int .u8 0, .int .i64 0, .string ⟨#[]⟩, .int .u8 0, .int .i64 0, .string ⟨#[]⟩, .int .i64 0, .int .i64 0] 62)) w.heap.size a := ((ZB.new w a).alloc _).alloc _
  have hy : ZB (((w.alloc (.cells #[.int .u8 a.least.k, .int .i64 a.least.n, .string (St8 a.least.s), .int .u8 a.most.k, .int .i64 a.most.n, .string (St8 a.most.s), .int .i64 a.nulls, .int .i64 a.many] 62)).alloc (.cells #[.int .u8 b.least.k, .int .i64 b.least.n, .string (St8 b.least.s), .int .u8 b.most.k, .int .i64 b.most.n, .string (St8 b.most.s), .int .i64 b.nulls, .int .i64 b.many] 62)).alloc (.cells #[.int .u8 0, .int .i64 0, .string ⟨#[]⟩, .int .u8 0, .int .i64 0, .string ⟨#[]⟩, .int .i64 0, .int .i64 0] 62)) (w.heap.size + 1) b := by
    have h := (ZB.new (w.alloc (.cells #[.int .u8 a.least.k, .int .i64 a.least.n, .string (St8 a.least.s), .int .u8 a.most.k, .int .i64 a.most.n, .string (St8 a.most.s), .int .i64 a.nulls, .int .i64 a.many] 62)) b).alloc (.cells #[.int .u8 0, .int .i64 0, .string ⟨#[]⟩, .int .u8 0, .int .i64 0, .string ⟨#[]⟩, .int .i64 0, .int .i64 0] 62)
    rw [World.size_alloc] at h
    exact h
  have hz : ZB (((w.alloc (.cells #[.int .u8 a.least.k, .int .i64 a.least.n, .string (St8 a.least.s), .int .u8 a.most.k, .int .i64 a.most.n, .string (St8 a.most.s), .int .i64 a.nulls, .int .i64 a.many] 62)).alloc (.cells #[.int .u8 b.least.k, .int .i64 b.least.n, .string (St8 b.least.s), .int .u8 b.most.k, .int .i64 b.most.n, .string (St8 b.most.s), .int .i64 b.nulls, .int .i64 b.many] 62)).alloc (.cells #[.int .u8 0, .int .i64 0, .string ⟨#[]⟩, .int .u8 0, .int .i64 0, .string ⟨#[]⟩, .int .i64 0, .int .i64 0] 62)) (w.heap.size + 1 + 1) Zo.nil := by
    have h := ZB.new ((w.alloc (.cells #[.int .u8 a.least.k, .int .i64 a.least.n, .string (St8 a.least.s), .int .u8 a.most.k, .int .i64 a.most.n, .string (St8 a.most.s), .int .i64 a.nulls, .int .i64 a.many] 62)).alloc (.cells #[.int .u8 b.least.k, .int .i64 b.least.n, .string (St8 b.least.s), .int .u8 b.most.k, .int .i64 b.most.n, .string (St8 b.most.s), .int .i64 b.nulls, .int .i64 b.many] 62)) Zo.nil
    rw [World.size_alloc, World.size_alloc] at h
    exact h
  generalize hW : (((w.alloc (.cells #[.int .u8 a.least.k, .int .i64 a.least.n, .string (St8 a.least.s), .int .u8 a.most.k, .int .i64 a.most.n, .string (St8 a.most.s), .int .i64 a.nulls, .int .i64 a.many] 62)).alloc (.cells #[.int .u8 b.least.k, .int .i64 b.least.n, .string (St8 b.least.s), .int .u8 b.most.k, .int .i64 b.most.n, .string (St8 b.most.s), .int .i64 b.nulls, .int .i64 b.many] 62)).alloc (.cells #[.int .u8 0, .int .i64 0, .string ⟨#[]⟩, .int .u8 0, .int .i64 0, .string ⟨#[]⟩, .int .i64 0, .int .i64 0] 62)) = W at *
  have HW := Lib.hid hW
  have Hz := Lib.hid hz
  have Hcc : Hid (∀ w', Below W.heap.size W w' → (w'.cell? ⟨w.heap.size, 0, none⟩ = some (.int .u8 a.least.k) ∧ w'.cell? ⟨w.heap.size, 1, none⟩ = some (.int .i64 a.least.n) ∧ w'.cell? ⟨w.heap.size, 2, none⟩ = some (.string (St8 a.least.s)) ∧ w'.cell? ⟨w.heap.size, 3, none⟩ = some (.int .u8 a.most.k) ∧ w'.cell? ⟨w.heap.size, 4, none⟩ = some (.int .i64 a.most.n) ∧ w'.cell? ⟨w.heap.size, 5, none⟩ = some (.string (St8 a.most.s)) ∧ w'.cell? ⟨w.heap.size, 6, none⟩ = some (.int .i64 a.nulls) ∧ w'.cell? ⟨w.heap.size, 7, none⟩ = some (.int .i64 a.many) ∧ w'.cell? ⟨w.heap.size + 1, 0, none⟩ = some (.int .u8 b.least.k) ∧ w'.cell? ⟨w.heap.size + 1, 1, none⟩ = some (.int .i64 b.least.n) ∧ w'.cell? ⟨w.heap.size + 1, 2, none⟩ = some (.string (St8 b.least.s)) ∧ w'.cell? ⟨w.heap.size + 1, 3, none⟩ = some (.int .u8 b.most.k) ∧ w'.cell? ⟨w.heap.size + 1, 4, none⟩ = some (.int .i64 b.most.n) ∧ w'.cell? ⟨w.heap.size + 1, 5, none⟩ = some (.string (St8 b.most.s)) ∧ w'.cell? ⟨w.heap.size + 1, 6, none⟩ = some (.int .i64 b.nulls) ∧ w'.cell? ⟨w.heap.size + 1, 7, none⟩ = some (.int .i64 b.many)) ∧ Below w.heap.size w w') := fun w' hb => ⟨by
    obtain ⟨a0, a1, a2, a3, a4, a5, a6, a7⟩ := (hx.below hb).cells
    exact ⟨a0, a1, a2, a3, a4, a5, a6, a7, (hy.below hb).cells⟩, hb3.trans (hb.mono hb3.size)⟩
  generalize mergeZ a b = R at *
  generalize chooseV a.least b.least (-1) = P at *
  generalize chooseV a.most b.most 1 = Q at *
  have HB := Lib.hid (show Below W.heap.size W W.drew from (Below.refl _ _).drew)
  have hcc := (Hcc.out W.drew HB.out).1
  clear hW hx hy hz hb3
  go_enter Tryd.func65, Tryd.ntmps65
  go_wp2_with fail
  rw [HW.out]
  refine wp_region_held_drew (S := fun w' => w'.cell? ⟨w.heap.size, 0, none⟩ = some (.int .u8 a.least.k) ∧ w'.cell? ⟨w.heap.size, 1, none⟩ = some (.int .i64 a.least.n) ∧ w'.cell? ⟨w.heap.size, 2, none⟩ = some (.string (St8 a.least.s)) ∧ w'.cell? ⟨w.heap.size, 3, none⟩ = some (.int .u8 a.most.k) ∧ w'.cell? ⟨w.heap.size, 4, none⟩ = some (.int .i64 a.most.n) ∧ w'.cell? ⟨w.heap.size, 5, none⟩ = some (.string (St8 a.most.s)) ∧ w'.cell? ⟨w.heap.size, 6, none⟩ = some (.int .i64 a.nulls) ∧ w'.cell? ⟨w.heap.size, 7, none⟩ = some (.int .i64 a.many) ∧ w'.cell? ⟨w.heap.size + 1, 0, none⟩ = some (.int .u8 b.least.k) ∧ w'.cell? ⟨w.heap.size + 1, 1, none⟩ = some (.int .i64 b.least.n) ∧ w'.cell? ⟨w.heap.size + 1, 2, none⟩ = some (.string (St8 b.least.s)) ∧ w'.cell? ⟨w.heap.size + 1, 3, none⟩ = some (.int .u8 b.most.k) ∧ w'.cell? ⟨w.heap.size + 1, 4, none⟩ = some (.int .i64 b.most.n) ∧ w'.cell? ⟨w.heap.size + 1, 5, none⟩ = some (.string (St8 b.most.s)) ∧ w'.cell? ⟨w.heap.size + 1, 6, none⟩ = some (.int .i64 b.nulls) ∧ w'.cell? ⟨w.heap.size + 1, 7, none⟩ = some (.int .i64 b.many)) (by kernel_rfl) hcc (fun hHeld => ?_)
  (refine wpAnyH_take (i := 0) (oi := ?oi0_1) (v := ?vv0_1) ?hi0_1 (by kernel_rfl) (by kernel_rfl) (by kernel_rfl) ?hQ0_1 ?hy0_1 (by assumption) ?rest0_1; (case hi0_1 => ((simp only [List.getElem?_toArray, List.getElem?_cons_zero]); rfl)); (case hQ0_1 => exact (fun _ _ _ h => h)); (case hy0_1 => (refine Or.inl ⟨by rfl, ?_⟩; intro w hSw; (try dsimp only at hSw); go_simp; try (with_reducible rfl))); (try simp only [Act.put, List.setIfInBounds_toArray, List.set_cons_zero, List.set_cons_succ]))
  (refine wpAnyH_take (i := 1) (oi := ?oi1_2) (v := ?vv1_2) ?hi1_2 (by kernel_rfl) (by kernel_rfl) (by kernel_rfl) ?hQ1_2 ?hy1_2 (by assumption) ?rest1_2; (case hi1_2 => ((simp only [List.getElem?_toArray, List.getElem?_cons_succ, List.getElem?_cons_zero]); rfl)); (case hQ1_2 => exact (fun _ _ _ h => h)); (case hy1_2 => (refine Or.inl ⟨by rfl, ?_⟩; intro w hSw; (try dsimp only at hSw); go_simp; try (with_reducible rfl))); (try simp only [Act.put, List.setIfInBounds_toArray, List.set_cons_zero, List.set_cons_succ]))
  (refine wpAnyH_take (i := 2) (oi := ?oi2_3) (v := ?vv2_3) ?hi2_3 (by kernel_rfl) (by kernel_rfl) (by kernel_rfl) ?hQ2_3 ?hy2_3 (by assumption) ?rest2_3; (case hi2_3 => ((simp only [List.getElem?_toArray, List.getElem?_cons_succ, List.getElem?_cons_zero]); rfl)); (case hQ2_3 => exact (fun _ _ _ h => h)); (case hy2_3 => (refine Or.inl ⟨by rfl, ?_⟩; intro w hSw; (try dsimp only at hSw); go_simp; try (with_reducible rfl))); (try simp only [Act.put, List.setIfInBounds_toArray, List.set_cons_zero, List.set_cons_succ]))
  (refine wpAnyH_take (i := 3) (oi := ?oi3_4) (v := ?vv3_4) ?hi3_4 (by kernel_rfl) (by kernel_rfl) (by kernel_rfl) ?hQ3_4 ?hy3_4 (by assumption) ?rest3_4; (case hi3_4 => ((simp only [List.getElem?_toArray, List.getElem?_cons_succ, List.getElem?_cons_zero]); rfl)); (case hQ3_4 => exact (fun _ _ _ h => h)); (case hy3_4 => (refine Or.inl ⟨by rfl, ?_⟩; intro w hSw; (try dsimp only at hSw); go_simp; try (with_reducible rfl))); (try simp only [Act.put, List.setIfInBounds_toArray, List.set_cons_zero, List.set_cons_succ]))
  (refine wpAnyH_take (i := 5) (oi := ?oi5_5) (v := ?vv5_5) ?hi5_5 (by kernel_rfl) (by kernel_rfl) (by kernel_rfl) ?hQ5_5 ?hy5_5 (by assumption) ?rest5_5; (case hi5_5 => ((simp only [List.getElem?_toArray, List.getElem?_cons_succ, List.getElem?_cons_zero]); rfl)); (case hQ5_5 => exact (fun _ _ _ h => h)); (case hy5_5 => (refine Or.inl ⟨by rfl, ?_⟩; intro w hSw; (try dsimp only at hSw); go_simp; try (with_reducible rfl))); (try simp only [Act.put, List.setIfInBounds_toArray, List.set_cons_zero, List.set_cons_succ]))
  (refine wpAnyH_take (i := 6) (oi := ?oi6_6) (v := ?vv6_6) ?hi6_6 (by kernel_rfl) (by kernel_rfl) (by kernel_rfl) ?hQ6_6 ?hy6_6 (by assumption) ?rest6_6; (case hi6_6 => ((simp only [List.getElem?_toArray, List.getElem?_cons_succ, List.getElem?_cons_zero]); rfl)); (case hQ6_6 => exact (fun _ _ _ h => h)); (case hy6_6 => (refine Or.inl ⟨by rfl, ?_⟩; intro w hSw; (try dsimp only at hSw); go_simp; try (with_reducible rfl))); (try simp only [Act.put, List.setIfInBounds_toArray, List.set_cons_zero, List.set_cons_succ]))
  (refine wpAnyH_take (i := 7) (oi := ?oi7_7) (v := ?vv7_7) ?hi7_7 (by kernel_rfl) (by kernel_rfl) (by kernel_rfl) ?hQ7_7 ?hy7_7 (by assumption) ?rest7_7; (case hi7_7 => ((simp only [List.getElem?_toArray, List.getElem?_cons_succ, List.getElem?_cons_zero]); rfl)); (case hQ7_7 => exact (fun _ _ _ h => h)); (case hy7_7 => (refine Or.inl ⟨by rfl, ?_⟩; intro w hSw; (try dsimp only at hSw); go_simp; try (with_reducible rfl))); (try simp only [Act.put, List.setIfInBounds_toArray, List.set_cons_zero, List.set_cons_succ]))
  (refine wpAnyH_take (i := 8) (oi := ?oi8_8) (v := ?vv8_8) ?hi8_8 (by kernel_rfl) (by kernel_rfl) (by kernel_rfl) ?hQ8_8 ?hy8_8 (by assumption) ?rest8_8; (case hi8_8 => ((simp only [List.getElem?_toArray, List.getElem?_cons_succ, List.getElem?_cons_zero]); rfl)); (case hQ8_8 => exact (fun _ _ _ h => h)); (case hy8_8 => (refine Or.inl ⟨by rfl, ?_⟩; intro w hSw; (try dsimp only at hSw); go_simp; try (with_reducible rfl))); (try simp only [Act.put, List.setIfInBounds_toArray, List.set_cons_zero, List.set_cons_succ]))
  (refine wpAnyH_take (i := 10) (oi := ?oi10_9) (v := ?vv10_9) ?hi10_9 (by kernel_rfl) (by kernel_rfl) (by kernel_rfl) ?hQ10_9 ?hy10_9 (by assumption) ?rest10_9; (case hi10_9 => ((simp only [List.getElem?_toArray, List.getElem?_cons_succ, List.getElem?_cons_zero]); rfl)); (case hQ10_9 => exact (fun _ _ _ h => h)); (case hy10_9 => (refine Or.inl ⟨by rfl, ?_⟩; intro w hSw; (try dsimp only at hSw); go_simp; try (with_reducible rfl))); (try simp only [Act.put, List.setIfInBounds_toArray, List.set_cons_zero, List.set_cons_succ]))
  (refine wpAnyH_take (i := 11) (oi := ?oi11_10) (v := ?vv11_10) ?hi11_10 (by kernel_rfl) (by kernel_rfl) (by kernel_rfl) ?hQ11_10 ?hy11_10 (by assumption) ?rest11_10; (case hi11_10 => ((simp only [List.getElem?_toArray, List.getElem?_cons_succ, List.getElem?_cons_zero]); rfl)); (case hQ11_10 => exact (fun _ _ _ h => h)); (case hy11_10 => (refine Or.inl ⟨by rfl, ?_⟩; intro w hSw; (try dsimp only at hSw); go_simp; try (with_reducible rfl))); (try simp only [Act.put, List.setIfInBounds_toArray, List.set_cons_zero, List.set_cons_succ]))
  (refine wpAnyH_take (i := 12) (oi := ?oi12_11) (v := ?vv12_11) ?hi12_11 (by kernel_rfl) (by kernel_rfl) (by kernel_rfl) ?hQ12_11 ?hy12_11 (by assumption) ?rest12_11; (case hi12_11 => ((simp only [List.getElem?_toArray, List.getElem?_cons_succ, List.getElem?_cons_zero]); rfl)); (case hQ12_11 => exact (fun _ _ _ h => h)); (case hy12_11 => (refine Or.inl ⟨by rfl, ?_⟩; intro w hSw; (try dsimp only at hSw); go_simp; try (with_reducible rfl))); (try simp only [Act.put, List.setIfInBounds_toArray, List.set_cons_zero, List.set_cons_succ]))
  (refine wpAnyH_take (i := 13) (oi := ?oi13_12) (v := ?vv13_12) ?hi13_12 (by kernel_rfl) (by kernel_rfl) (by kernel_rfl) ?hQ13_12 ?hy13_12 (by assumption) ?rest13_12; (case hi13_12 => ((simp only [List.getElem?_toArray, List.getElem?_cons_succ, List.getElem?_cons_zero]); rfl)); (case hQ13_12 => exact (fun _ _ _ h => h)); (case hy13_12 => (refine Or.inl ⟨by rfl, ?_⟩; intro w hSw; (try dsimp only at hSw); go_simp; try (with_reducible rfl))); (try simp only [Act.put, List.setIfInBounds_toArray, List.set_cons_zero, List.set_cons_succ]))
  (refine wpAnyH_take (i := 14) (oi := ?oi14_13) (v := ?vv14_13) ?hi14_13 (by kernel_rfl) (by kernel_rfl) (by kernel_rfl) ?hQ14_13 ?hy14_13 (by assumption) ?rest14_13; (case hi14_13 => ((simp only [List.getElem?_toArray, List.getElem?_cons_succ, List.getElem?_cons_zero]); rfl)); (case hQ14_13 => exact (fun _ _ _ h => h)); (case hy14_13 => (refine Or.inl ⟨by rfl, ?_⟩; intro w hSw; (try dsimp only at hSw); go_simp; try (with_reducible rfl))); (try simp only [Act.put, List.setIfInBounds_toArray, List.set_cons_zero, List.set_cons_succ]))
  (refine wpAnyH_take (i := 15) (oi := ?oi15_14) (v := ?vv15_14) ?hi15_14 (by kernel_rfl) (by kernel_rfl) (by kernel_rfl) ?hQ15_14 ?hy15_14 (by assumption) ?rest15_14; (case hi15_14 => ((simp only [List.getElem?_toArray, List.getElem?_cons_succ, List.getElem?_cons_zero]); rfl)); (case hQ15_14 => exact (fun _ _ _ h => h)); (case hy15_14 => (refine Or.inl ⟨by rfl, ?_⟩; intro w hSw; (try dsimp only at hSw); go_simp; try (with_reducible rfl))); (try simp only [Act.put, List.setIfInBounds_toArray, List.set_cons_zero, List.set_cons_succ]))
  (refine wpAnyH_take (i := 16) (oi := ?oi16_15) (v := ?vv16_15) ?hi16_15 (by kernel_rfl) (by kernel_rfl) (by kernel_rfl) ?hQ16_15 ?hy16_15 (by assumption) ?rest16_15; (case hi16_15 => ((simp only [List.getElem?_toArray, List.getElem?_cons_succ, List.getElem?_cons_zero]); rfl)); (case hQ16_15 => exact (fun _ _ _ h => h)); (case hy16_15 => (refine Or.inl ⟨by rfl, ?_⟩; intro w hSw; (try dsimp only at hSw); go_simp; try (with_reducible rfl))); (try simp only [Act.put, List.setIfInBounds_toArray, List.set_cons_zero, List.set_cons_succ]))
  (refine wpAnyH_take (i := 17) (oi := ?oi17_16) (v := ?vv17_16) ?hi17_16 (by kernel_rfl) (by kernel_rfl) (by kernel_rfl) ?hQ17_16 ?hy17_16 (by assumption) ?rest17_16; (case hi17_16 => ((simp only [List.getElem?_toArray, List.getElem?_cons_succ, List.getElem?_cons_zero]); rfl)); (case hQ17_16 => exact (fun _ _ _ h => h)); (case hy17_16 => (refine Or.inl ⟨by rfl, ?_⟩; intro w hSw; (try dsimp only at hSw); go_simp; try (with_reducible rfl))); (try simp only [Act.put, List.setIfInBounds_toArray, List.set_cons_zero, List.set_cons_succ]))
  (refine wpAnyH_take (i := 18) (oi := ?oi18_17) (v := ?vv18_17) ?hi18_17 (by kernel_rfl) (by kernel_rfl) (by kernel_rfl) ?hQ18_17 ?hy18_17 (by assumption) ?rest18_17; (case hi18_17 => ((simp only [List.getElem?_toArray, List.getElem?_cons_succ, List.getElem?_cons_zero]); rfl)); (case hQ18_17 => exact (fun _ _ _ h => h)); (case hy18_17 => (refine Or.inl ⟨by rfl, ?_⟩; intro w hSw; (try dsimp only at hSw); go_simp; try (with_reducible rfl))); (try simp only [Act.put, List.setIfInBounds_toArray, List.set_cons_zero, List.set_cons_succ]))
  (refine wpAnyH_take (i := 19) (oi := ?oi19_18) (v := ?vv19_18) ?hi19_18 (by kernel_rfl) (by kernel_rfl) (by kernel_rfl) ?hQ19_18 ?hy19_18 (by assumption) ?rest19_18; (case hi19_18 => ((simp only [List.getElem?_toArray, List.getElem?_cons_succ, List.getElem?_cons_zero]); rfl)); (case hQ19_18 => exact (fun _ _ _ h => h)); (case hy19_18 => (refine Or.inl ⟨by rfl, ?_⟩; intro w hSw; (try dsimp only at hSw); go_simp; try (with_reducible rfl))); (try simp only [Act.put, List.setIfInBounds_toArray, List.set_cons_zero, List.set_cons_succ]))
  (refine wpAnyH_ready (rs := [4]) (by kernel_rfl) (by simp) ?_; refine AllReadyH.cons (o := ?oc4_19) ?ho4_19 (fun K hK => ?_) AllReadyH.nil; (case ho4_19 => ((simp only [List.getElem?_toArray, List.getElem?_cons_succ, List.getElem?_cons_zero]); rfl)); go_simp)
  go_at_call 85
  with_reducible refine (hcA.out _).mono ?_
  rintro e w1 ⟨rfl, hb1⟩
  have Hb1 := Lib.hid (HB.out.trans (hb1.mono HB.out.size))
  have hcc1 := (Hcc.out w1 Hb1.out).1
  clear hHeld hb1 hcc
  go_wp2_with fail
  refine hK.out _ _ hcc1 (fun hHeld => ?_)
  clear hK K
  (try simp only [Act.put, List.setIfInBounds_toArray, List.set_cons_zero, List.set_cons_succ])
  (refine wpAnyH_ready (rs := [9]) (by kernel_rfl) (by simp) ?_; refine AllReadyH.cons (o := ?oc9_20) ?ho9_20 (fun K hK => ?_) AllReadyH.nil; (case ho9_20 => ((simp only [List.getElem?_toArray, List.getElem?_cons_succ, List.getElem?_cons_zero]); rfl)); go_simp)
  go_at_call 85
  with_reducible refine (hcB.out _).mono ?_
  rintro e w2 ⟨rfl, hb2⟩
  have Hb2 := Lib.hid (Hb1.out.trans (hb2.mono Hb1.out.size))
  have hcc2 := (Hcc.out w2 Hb2.out).1
  clear hHeld hb2 hcc1
  go_wp2_with fail
  refine hK.out _ _ hcc2 (fun hHeld => ?_)
  clear hK K
  (try simp only [Act.put, List.setIfInBounds_toArray, List.set_cons_zero, List.set_cons_succ])
  (refine wpAnyH_take (i := 20) (oi := ?oi20_21) (v := ?vv20_21) ?hi20_21 (by kernel_rfl) (by kernel_rfl) (by kernel_rfl) ?hQ20_21 ?hy20_21 (by assumption) ?rest20_21; (case hi20_21 => ((simp only [List.getElem?_toArray, List.getElem?_cons_succ, List.getElem?_cons_zero]); rfl)); (case hQ20_21 => exact (fun _ _ _ h => h)); (case hy20_21 => (refine Or.inl ⟨by rfl, ?_⟩; intro w hSw; (try dsimp only at hSw); go_simp; try (with_reducible rfl))); (try simp only [Act.put, List.setIfInBounds_toArray, List.set_cons_zero, List.set_cons_succ]))
  have hz2 := Hz.out.below Hb2.out
  have zf := fun i => hz2.frozen i
  obtain ⟨z0, z1, z2, z3, z4, z5, z6, z7⟩ := hz2.cells
  have HS := Lib.hid (hz2.set_ ⟨P, Q, a.nulls + b.nulls, a.many + b.many⟩)
  have HE := Lib.hid (zset_below (Hcc.out w2 Hb2.out).2 (show w.heap.size ≤ w.heap.size + 1 + 1 by omega) ⟨P, Q, a.nulls + b.nulls, a.many + b.many⟩)
  have hcc3 : (fun w' => w'.cell? ⟨w.heap.size, 0, none⟩ = some (.int .u8 a.least.k) ∧ w'.cell? ⟨w.heap.size, 1, none⟩ = some (.int .i64 a.least.n) ∧ w'.cell? ⟨w.heap.size, 2, none⟩ = some (.string (St8 a.least.s)) ∧ w'.cell? ⟨w.heap.size, 3, none⟩ = some (.int .u8 a.most.k) ∧ w'.cell? ⟨w.heap.size, 4, none⟩ = some (.int .i64 a.most.n) ∧ w'.cell? ⟨w.heap.size, 5, none⟩ = some (.string (St8 a.most.s)) ∧ w'.cell? ⟨w.heap.size, 6, none⟩ = some (.int .i64 a.nulls) ∧ w'.cell? ⟨w.heap.size, 7, none⟩ = some (.int .i64 a.many) ∧ w'.cell? ⟨w.heap.size + 1, 0, none⟩ = some (.int .u8 b.least.k) ∧ w'.cell? ⟨w.heap.size + 1, 1, none⟩ = some (.int .i64 b.least.n) ∧ w'.cell? ⟨w.heap.size + 1, 2, none⟩ = some (.string (St8 b.least.s)) ∧ w'.cell? ⟨w.heap.size + 1, 3, none⟩ = some (.int .u8 b.most.k) ∧ w'.cell? ⟨w.heap.size + 1, 4, none⟩ = some (.int .i64 b.most.n) ∧ w'.cell? ⟨w.heap.size + 1, 5, none⟩ = some (.string (St8 b.most.s)) ∧ w'.cell? ⟨w.heap.size + 1, 6, none⟩ = some (.int .i64 b.nulls) ∧ w'.cell? ⟨w.heap.size + 1, 7, none⟩ = some (.int .i64 b.many)) (zset w2 (w.heap.size + 1 + 1) ⟨P, Q, a.nulls + b.nulls, a.many + b.many⟩) := ⟨zset_cell hcc2.1 (by show w.heap.size ≠ w.heap.size + 1 + 1; omega) _, zset_cell hcc2.2.1 (by show w.heap.size ≠ w.heap.size + 1 + 1; omega) _, zset_cell hcc2.2.2.1 (by show w.heap.size ≠ w.heap.size + 1 + 1; omega) _, zset_cell hcc2.2.2.2.1 (by show w.heap.size ≠ w.heap.size + 1 + 1; omega) _, zset_cell hcc2.2.2.2.2.1 (by show w.heap.size ≠ w.heap.size + 1 + 1; omega) _, zset_cell hcc2.2.2.2.2.2.1 (by show w.heap.size ≠ w.heap.size + 1 + 1; omega) _, zset_cell hcc2.2.2.2.2.2.2.1 (by show w.heap.size ≠ w.heap.size + 1 + 1; omega) _, zset_cell hcc2.2.2.2.2.2.2.2.1 (by show w.heap.size ≠ w.heap.size + 1 + 1; omega) _, zset_cell hcc2.2.2.2.2.2.2.2.2.1 (by show w.heap.size + 1 ≠ w.heap.size + 1 + 1; omega) _, zset_cell hcc2.2.2.2.2.2.2.2.2.2.1 (by show w.heap.size + 1 ≠ w.heap.size + 1 + 1; omega) _, zset_cell hcc2.2.2.2.2.2.2.2.2.2.2.1 (by show w.heap.size + 1 ≠ w.heap.size + 1 + 1; omega) _, zset_cell hcc2.2.2.2.2.2.2.2.2.2.2.2.1 (by show w.heap.size + 1 ≠ w.heap.size + 1 + 1; omega) _, zset_cell hcc2.2.2.2.2.2.2.2.2.2.2.2.2.1 (by show w.heap.size + 1 ≠ w.heap.size + 1 + 1; omega) _, zset_cell hcc2.2.2.2.2.2.2.2.2.2.2.2.2.2.1 (by show w.heap.size + 1 ≠ w.heap.size + 1 + 1; omega) _, zset_cell hcc2.2.2.2.2.2.2.2.2.2.2.2.2.2.2.1 (by show w.heap.size + 1 ≠ w.heap.size + 1 + 1; omega) _, zset_cell hcc2.2.2.2.2.2.2.2.2.2.2.2.2.2.2.2 (by show w.heap.size + 1 ≠ w.heap.size + 1 + 1; omega) _⟩
  have Hcc3 := Lib.hid hcc3
  clear hz2 hHeld hcc2 hcc3
  (refine wpAnyH_ready (rs := [21]) (by kernel_rfl) (by simp) ?_; refine AllReadyH.cons (o := ?oc21_22) ?ho21_22 (fun K hK => ?_) AllReadyH.nil; (case ho21_22 => ((simp only [List.getElem?_toArray, List.getElem?_cons_succ, List.getElem?_cons_zero]); rfl)); go_simp)
  go_wp2_with fail
  refine hK.out _ _ Hcc3.out (fun hHeld => ?_)
  clear hK K
  (try simp only [Act.put, List.setIfInBounds_toArray, List.set_cons_zero, List.set_cons_succ])
  refine wpAnyH_done (by kernel_rfl) ?_ _
  clear hHeld
  go_wp2_with fail
  (try simp only [Exit.inBlock, Exit.then])
  refine bodyPost_ret (results_cell_row rfl _ _ (w.heap.size + 1 + 1) 62 #[.int .u8 P.k, .int .i64 P.n, .string (St8 P.s), .int .u8 Q.k, .int .i64 Q.n, .string (St8 Q.s), .int .i64 (a.nulls + b.nulls), .int .i64 (a.many + b.many)] (0, 0) _ rfl HS.out Tryd.underlying62 rfl (by kernel_rfl)) rfl ?_
  rw [hR.out]
  exact ⟨rfl, HE.out⟩
end Go.Proofs.YtipnglidepfkbaaDoor
