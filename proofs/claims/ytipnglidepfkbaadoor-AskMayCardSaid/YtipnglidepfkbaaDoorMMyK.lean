/- Walks: what may come of Like, and of a node that asks a column: the program's and the reference's. (Printed by gen_myk.py.) -/
import Derived.Test.YtipnglidepfkbaaDoorMGrV
import Derived.Test.YtipnglidepfkbaaDoorMGrS
import Derived.Test.YtipnglidepfkbaaDoorMGrN
namespace Go.Proofs.YtipnglidepfkbaaDoor
set_option linter.unusedVariables false
set_option linter.unusedSimpArgs false
open Go.RowKit

attribute [local go_sem ↓] Go.wp_at_zero Go.wp_at_succ

theorem hasPrefix_dec (s p : List UInt8) : Lib.hasPrefix s p = decide (p <+: s) := by
  unfold Lib.hasPrefix
  by_cases h : p <+: s
  · rw [decide_eq_true h, List.isPrefixOf_iff_prefix.2 h]
  · rw [decide_eq_false h, ← Bool.not_eq_true, List.isPrefixOf_iff_prefix]
    exact h

set_option maxRecDepth 100000 in
theorem rbegins_c (s t : List UInt8) (w : World) : Calls Tryd.prog 91 #[.string (St8 s), .string (St8 t)] w fun e w' => e = .returned (.bool (decide (t <+: s))) ∧ w = w' := by
  have hz1 := St8_size s
  have hz2 := St8_size t
  have hex := St8_take s t.length
  rw [← hasPrefix_dec, ← Lib.hasPrefix_of_take]
  by_cases hl : t.length ≤ s.length
  · have hlI : (t.length : Int) ≤ (s.length : Int) := by omega
    have htI0 : (0 : Int) ≤ (t.length : Int) := by omega
    have hq : ((St8 (s.take t.length)).toList == (St8 t).toList) = (s.take t.length == t) := by rw [St8_list, St8_list]
    rw [decide_eq_true hl, Bool.true_and]
    generalize (s.take t.length == t) = R at *
    generalize s.take t.length = u at *
    go_enter Tryd.func91, Tryd.ntmps91
    go_wp2_with fail
    go_ret
    exact ⟨rfl, rfl⟩
  · have hlI : ¬ (t.length : Int) ≤ (s.length : Int) := by omega
    have hd : decide ((t.length : Int) ≤ (s.length : Int)) = false := decide_eq_false hlI
    rw [decide_eq_false hl, Bool.false_and]
    go_enter Tryd.func91, Tryd.ntmps91
    go_wp2_with fail
    go_ret
    exact ⟨rfl, rfl⟩

theorem bless_St8 (a b : List UInt8) : Op.bytesLess (St8 a).toList (St8 b).toList = Op.bytesLess a b := less_str a b
theorem bless_le : ∀ a b : List UInt8, (Op.bytesLess a b || a == b) = !Op.bytesLess b a
  | [], [] => by simp [Op.bytesLess]
  | [], y :: b => by simp [Op.bytesLess]
  | x :: a, [] => by simp [Op.bytesLess]
  | x :: a, y :: b => by
    have h := bless_le a b
    unfold Op.bytesLess
    rcases Nat.lt_trichotomy x.toNat y.toNat with hx | hx | hx
    · have h1 : x < y := UInt8.lt_iff_toNat_lt.2 hx
      have h2 : ¬ y < x := fun e => by have := UInt8.lt_iff_toNat_lt.1 e; omega
      have h3 : x ≠ y := fun e => by rw [e] at hx; omega
      simp [h1, h2, h3, h3.symm]
    · have e := UInt8.toNat_inj.1 hx
      subst e
      have h2 : ¬ x < x := fun e => by have := UInt8.lt_iff_toNat_lt.1 e; omega
      simpa [h2] using h
    · have h1 : y < x := UInt8.lt_iff_toNat_lt.2 hx
      have h2 : ¬ x < y := fun e => by have := UInt8.lt_iff_toNat_lt.1 e; omega
      have h3 : x ≠ y := fun e => by rw [e] at hx; omega
      simp [h1, h2, h3, h3.symm]
theorem ble_St8 (a b : List UInt8) : (Op.bytesLess (St8 a).toList (St8 b).toList || (St8 a).toList == (St8 b).toList) = !Op.bytesLess b a := by
  rw [St8_list, St8_list]
  exact bless_le a b
theorem pct_St8 (p : List UInt8) : ((St8 p).toList == [37]) = decide (p = [37]) := cmp_lit p [37]

theorem T3At.set0 {w : World} {g : Nat} {t : TypeId} {x : T3} (h : T3At w g t x) (u : Bool) : T3At (w.setCell ⟨g, 0, none⟩ (.bool u)) g t ⟨u, x.un, x.ye⟩ := Blk.set_ h 0 (.bool u)
theorem T3At.set2 {w : World} {g : Nat} {t : TypeId} {x : T3} (h : T3At w g t x) (u : Bool) : T3At (w.setCell ⟨g, 2, none⟩ (.bool u)) g t ⟨x.no, x.un, u⟩ := Blk.set_ h 2 (.bool u)

set_option maxHeartbeats 2000000 in
set_option maxRecDepth 100000 in
theorem zalike_c (z : Zo) (p : List UInt8) (w : World) (hp : p.length ≤ 1000000) (hok : (partsM p).2 = true) : Calls Tryd.prog 70 #[z.agg, .string (St8 p)] w fun e w' => e = .returned (alikeZ z p).agg ∧ Below w.heap.size w w' := by
  have hfi := Lib.hid (fun w' (hb : Below w.heap.size w w') => lfixed_c p w' hp hok)
  have hbe := Lib.hid (fun s t w' => Tryd.strings_HasPrefix s t w')
  have hv : Hid (alikeZ z p = ⟨decide (z.nulls < z.many) && decide (p ≠ [37]), decide (0 < z.nulls), decide (z.nulls < z.many) && (!Op.bytesLess z.most.s (fixedM p) && (!Op.bytesLess (fixedM p) z.least.s || decide (fixedM p <+: z.least.s)))⟩) := rfl
  obtain ⟨⟨lk, ln, ls⟩, ⟨mk, mn, ms⟩, nu, ma⟩ := z
  have hl1 := bless_St8 ms (fixedM p)
  have hl2 := ble_St8 ls (fixedM p)
  have hpc := pct_St8 p
  generalize fixedM p = F at *
  generalize alikeZ _ p = R at *
  dsimp only at hv
  unfold Zo.agg
  dsimp only
  clear hp hok
  by_cases h3 : nu < ma
  · by_cases hpp : p = [37]
    · cases hy1 : Op.bytesLess ms F
      · cases hy2 : Op.bytesLess F ls
        · have hq1 : ((St8 p).toList == [37]) = true := by rw [hpc, decide_eq_true hpp]
          clear hpc
          rw [hy1] at hl1
          rw [hy2] at hl2
          obtain ⟨N, hN⟩ : ∃ N, decide (0 < nu) = N := ⟨_, rfl⟩
          have hR : Hid (R = ⟨false, N, true⟩) := by
            show _ = _
            rw [hv.out, decide_eq_true h3, ← hN]
            simp [hpp, hy1, hy2]
          clear hv
          have hW0 : ((w.alloc (.cells #[.int .u8 lk, .int .i64 ln, .string (St8 ls), .int .u8 mk, .int .i64 mn, .string (St8 ms), .int .i64 nu, .int .i64 ma] 62)).alloc (.cells #[.bool (false), .bool (decide (0 < nu)), .bool (false)] 37)).heap.size = w.heap.size + 2 := by rw [World.size_alloc, World.size_alloc]
          have hbW : Below w.heap.size w ((w.alloc (.cells #[.int .u8 lk, .int .i64 ln, .string (St8 ls), .int .u8 mk, .int .i64 mn, .string (St8 ms), .int .i64 nu, .int .i64 ma] 62)).alloc (.cells #[.bool (false), .bool (decide (0 < nu)), .bool (false)] 37)) := (((Below.refl _ _).alloc (Nat.le_refl _) _).alloc (by rw [World.size_alloc]; omega) _)
          have hzW := hbW.size
          have HZ : Hid (Blk ((w.alloc (.cells #[.int .u8 lk, .int .i64 ln, .string (St8 ls), .int .u8 mk, .int .i64 mn, .string (St8 ms), .int .i64 nu, .int .i64 ma] 62)).alloc (.cells #[.bool (false), .bool (decide (0 < nu)), .bool (false)] 37)) (w.heap.size) 62 [.int .u8 lk, .int .i64 ln, .string (St8 ls), .int .u8 mk, .int .i64 mn, .string (St8 ms), .int .i64 nu, .int .i64 ma]) := (Blk.new w 62 #[.int .u8 lk, .int .i64 ln, .string (St8 ls), .int .u8 mk, .int .i64 mn, .string (St8 ms), .int .i64 nu, .int .i64 ma]).alloc _
          have HO : Hid (T3At ((w.alloc (.cells #[.int .u8 lk, .int .i64 ln, .string (St8 ls), .int .u8 mk, .int .i64 mn, .string (St8 ms), .int .i64 nu, .int .i64 ma] 62)).alloc (.cells #[.bool (false), .bool (decide (0 < nu)), .bool (false)] 37)) (w.heap.size + 1) 37 ⟨false, decide (0 < nu), false⟩) := by
            have h := T3At.new (w.alloc (.cells #[.int .u8 lk, .int .i64 ln, .string (St8 ls), .int .u8 mk, .int .i64 mn, .string (St8 ms), .int .i64 nu, .int .i64 ma] 62)) 37 ⟨false, decide (0 < nu), false⟩
            rw [World.size_alloc] at h
            exact h
          have hfw := hfi.out _ hbW
          generalize hW : ((w.alloc (.cells #[.int .u8 lk, .int .i64 ln, .string (St8 ls), .int .u8 mk, .int .i64 mn, .string (St8 ms), .int .i64 nu, .int .i64 ma] 62)).alloc (.cells #[.bool (false), .bool (decide (0 < nu)), .bool (false)] 37)) = W at *
          have HW := Lib.hid hW
          have HO : Hid (T3At W (w.heap.size + 1) 37 ⟨false, N, false⟩) := by
            have h := HO.out
            rw [hN] at h
            exact h
          have Hfw := Lib.hid hfw
          have HbW := Lib.hid hbW
          clear hW hbW hfi hfw hN hpp
          go_enter Tryd.func70, Tryd.ntmps70
          go_wp2_with fail
          rw [HW.out]
          refine Hfw.out.mono ?_
          rintro e w1 ⟨⟨eb, rfl⟩, hb1⟩
          have Hb1 := Lib.hid (HbW.out.trans (hb1.mono HbW.out.size))
          have HO1 := Lib.hid (HO.out.below hb1)
          obtain ⟨o0, o1, o2⟩ := HO1.out.cells
          have oF := fun i => HO1.out.frozen i
          have hZ1 := HZ.out.below hb1
          have z2 := hZ1.cell 2
          have z5 := hZ1.cell 5
          simp only [List.getElem?_cons_zero, List.getElem?_cons_succ] at z2 z5
          have HS0 := Lib.hid (HO1.out.set0 (false))
          have HS1 : Hid (T3At ((w1.setCell ⟨w.heap.size + 1, 0, none⟩ (.bool (false))).setCell ⟨w.heap.size + 1, 2, none⟩ (.bool (true))) (w.heap.size + 1) 37 ⟨false, N, true⟩) := HS0.out.set2 (true)
          have HE1 := Lib.hid (below_set (below_set Hb1.out (show w.heap.size ≤ w.heap.size + 1 by omega) 0 (.bool (false))) (show w.heap.size ≤ w.heap.size + 1 by omega) 2 (.bool (true)))
          have HS := Lib.hid (HS1.out.three ⟨false, N, true⟩)
          have HE := Lib.hid (below_three HE1.out (show w.heap.size ≤ w.heap.size + 1 by omega) (.bool (false)) (.bool N) (.bool (true)))
          clear hb1 hZ1
          go_wp2_with fail
          (try simp only [Exit.inBlock, Exit.then])
          refine bodyPost_ret (results_cell_row rfl _ _ (w.heap.size + 1) 37 #[.bool (false), .bool N, .bool (true)] (0, 0) _ rfl HS.out Tryd.underlying37 rfl (by kernel_rfl)) rfl ?_
          rw [hR.out]
          exact ⟨rfl, HE.out⟩
        · have hq1 : ((St8 p).toList == [37]) = true := by rw [hpc, decide_eq_true hpp]
          clear hpc
          rw [hy1] at hl1
          rw [hy2] at hl2
          obtain ⟨N, hN⟩ : ∃ N, decide (0 < nu) = N := ⟨_, rfl⟩
          have hR : Hid (R = ⟨false, N, decide (F <+: ls)⟩) := by
            show _ = _
            rw [hv.out, decide_eq_true h3, ← hN]
            simp [hpp, hy1, hy2]
          clear hv
          have hW0 : ((w.alloc (.cells #[.int .u8 lk, .int .i64 ln, .string (St8 ls), .int .u8 mk, .int .i64 mn, .string (St8 ms), .int .i64 nu, .int .i64 ma] 62)).alloc (.cells #[.bool (false), .bool (decide (0 < nu)), .bool (false)] 37)).heap.size = w.heap.size + 2 := by rw [World.size_alloc, World.size_alloc]
          have hbW : Below w.heap.size w ((w.alloc (.cells #[.int .u8 lk, .int .i64 ln, .string (St8 ls), .int .u8 mk, .int .i64 mn, .string (St8 ms), .int .i64 nu, .int .i64 ma] 62)).alloc (.cells #[.bool (false), .bool (decide (0 < nu)), .bool (false)] 37)) := (((Below.refl _ _).alloc (Nat.le_refl _) _).alloc (by rw [World.size_alloc]; omega) _)
          have hzW := hbW.size
          have HZ : Hid (Blk ((w.alloc (.cells #[.int .u8 lk, .int .i64 ln, .string (St8 ls), .int .u8 mk, .int .i64 mn, .string (St8 ms), .int .i64 nu, .int .i64 ma] 62)).alloc (.cells #[.bool (false), .bool (decide (0 < nu)), .bool (false)] 37)) (w.heap.size) 62 [.int .u8 lk, .int .i64 ln, .string (St8 ls), .int .u8 mk, .int .i64 mn, .string (St8 ms), .int .i64 nu, .int .i64 ma]) := (Blk.new w 62 #[.int .u8 lk, .int .i64 ln, .string (St8 ls), .int .u8 mk, .int .i64 mn, .string (St8 ms), .int .i64 nu, .int .i64 ma]).alloc _
          have HO : Hid (T3At ((w.alloc (.cells #[.int .u8 lk, .int .i64 ln, .string (St8 ls), .int .u8 mk, .int .i64 mn, .string (St8 ms), .int .i64 nu, .int .i64 ma] 62)).alloc (.cells #[.bool (false), .bool (decide (0 < nu)), .bool (false)] 37)) (w.heap.size + 1) 37 ⟨false, decide (0 < nu), false⟩) := by
            have h := T3At.new (w.alloc (.cells #[.int .u8 lk, .int .i64 ln, .string (St8 ls), .int .u8 mk, .int .i64 mn, .string (St8 ms), .int .i64 nu, .int .i64 ma] 62)) 37 ⟨false, decide (0 < nu), false⟩
            rw [World.size_alloc] at h
            exact h
          have hpx : Lib.hasPrefix (St8 ls).data.toList (St8 F).data.toList = decide (F <+: ls) := hasPrefix_dec ls F
          have hfw := hfi.out _ hbW
          generalize hW : ((w.alloc (.cells #[.int .u8 lk, .int .i64 ln, .string (St8 ls), .int .u8 mk, .int .i64 mn, .string (St8 ms), .int .i64 nu, .int .i64 ma] 62)).alloc (.cells #[.bool (false), .bool (decide (0 < nu)), .bool (false)] 37)) = W at *
          have HW := Lib.hid hW
          have HO : Hid (T3At W (w.heap.size + 1) 37 ⟨false, N, false⟩) := by
            have h := HO.out
            rw [hN] at h
            exact h
          have Hfw := Lib.hid hfw
          have HbW := Lib.hid hbW
          clear hW hbW hfi hfw hN hpp
          go_enter Tryd.func70, Tryd.ntmps70
          go_wp2_with fail
          rw [HW.out]
          refine Hfw.out.mono ?_
          rintro e w1 ⟨⟨eb, rfl⟩, hb1⟩
          have Hb1 := Lib.hid (HbW.out.trans (hb1.mono HbW.out.size))
          have HO1 := Lib.hid (HO.out.below hb1)
          obtain ⟨o0, o1, o2⟩ := HO1.out.cells
          have oF := fun i => HO1.out.frozen i
          have hZ1 := HZ.out.below hb1
          have z2 := hZ1.cell 2
          have z5 := hZ1.cell 5
          simp only [List.getElem?_cons_zero, List.getElem?_cons_succ] at z2 z5
          have HS0 := Lib.hid (HO1.out.set0 (false))
          have HS1 : Hid (T3At ((w1.setCell ⟨w.heap.size + 1, 0, none⟩ (.bool (false))).setCell ⟨w.heap.size + 1, 2, none⟩ (.bool (decide (F <+: ls)))) (w.heap.size + 1) 37 ⟨false, N, decide (F <+: ls)⟩) := HS0.out.set2 (decide (F <+: ls))
          have HE1 := Lib.hid (below_set (below_set Hb1.out (show w.heap.size ≤ w.heap.size + 1 by omega) 0 (.bool (false))) (show w.heap.size ≤ w.heap.size + 1 by omega) 2 (.bool (decide (F <+: ls))))
          have HS := Lib.hid (HS1.out.three ⟨false, N, decide (F <+: ls)⟩)
          have HE := Lib.hid (below_three HE1.out (show w.heap.size ≤ w.heap.size + 1 by omega) (.bool (false)) (.bool N) (.bool (decide (F <+: ls))))
          clear hb1 hZ1
          go_wp2_with fail
          refine (hbe.out _ _ _).mono ?_
          rintro e w2 ⟨rfl, rfl⟩
          rw [hpx]
          go_wp2_with fail
          (try simp only [Exit.inBlock, Exit.then])
          refine bodyPost_ret (results_cell_row rfl _ _ (w.heap.size + 1) 37 #[.bool (false), .bool N, .bool (decide (F <+: ls))] (0, 0) _ rfl HS.out Tryd.underlying37 rfl (by kernel_rfl)) rfl ?_
          rw [hR.out]
          exact ⟨rfl, HE.out⟩
      · have hq1 : ((St8 p).toList == [37]) = true := by rw [hpc, decide_eq_true hpp]
        clear hpc
        rw [hy1] at hl1
        clear hl2
        obtain ⟨N, hN⟩ : ∃ N, decide (0 < nu) = N := ⟨_, rfl⟩
        have hR : Hid (R = ⟨false, N, false⟩) := by
          show _ = _
          rw [hv.out, decide_eq_true h3, ← hN]
          simp [hpp, hy1]
        clear hv
        have hW0 : ((w.alloc (.cells #[.int .u8 lk, .int .i64 ln, .string (St8 ls), .int .u8 mk, .int .i64 mn, .string (St8 ms), .int .i64 nu, .int .i64 ma] 62)).alloc (.cells #[.bool (false), .bool (decide (0 < nu)), .bool (false)] 37)).heap.size = w.heap.size + 2 := by rw [World.size_alloc, World.size_alloc]
        have hbW : Below w.heap.size w ((w.alloc (.cells #[.int .u8 lk, .int .i64 ln, .string (St8 ls), .int .u8 mk, .int .i64 mn, .string (St8 ms), .int .i64 nu, .int .i64 ma] 62)).alloc (.cells #[.bool (false), .bool (decide (0 < nu)), .bool (false)] 37)) := (((Below.refl _ _).alloc (Nat.le_refl _) _).alloc (by rw [World.size_alloc]; omega) _)
        have hzW := hbW.size
        have HZ : Hid (Blk ((w.alloc (.cells #[.int .u8 lk, .int .i64 ln, .string (St8 ls), .int .u8 mk, .int .i64 mn, .string (St8 ms), .int .i64 nu, .int .i64 ma] 62)).alloc (.cells #[.bool (false), .bool (decide (0 < nu)), .bool (false)] 37)) (w.heap.size) 62 [.int .u8 lk, .int .i64 ln, .string (St8 ls), .int .u8 mk, .int .i64 mn, .string (St8 ms), .int .i64 nu, .int .i64 ma]) := (Blk.new w 62 #[.int .u8 lk, .int .i64 ln, .string (St8 ls), .int .u8 mk, .int .i64 mn, .string (St8 ms), .int .i64 nu, .int .i64 ma]).alloc _
        have HO : Hid (T3At ((w.alloc (.cells #[.int .u8 lk, .int .i64 ln, .string (St8 ls), .int .u8 mk, .int .i64 mn, .string (St8 ms), .int .i64 nu, .int .i64 ma] 62)).alloc (.cells #[.bool (false), .bool (decide (0 < nu)), .bool (false)] 37)) (w.heap.size + 1) 37 ⟨false, decide (0 < nu), false⟩) := by
          have h := T3At.new (w.alloc (.cells #[.int .u8 lk, .int .i64 ln, .string (St8 ls), .int .u8 mk, .int .i64 mn, .string (St8 ms), .int .i64 nu, .int .i64 ma] 62)) 37 ⟨false, decide (0 < nu), false⟩
          rw [World.size_alloc] at h
          exact h
        have hfw := hfi.out _ hbW
        generalize hW : ((w.alloc (.cells #[.int .u8 lk, .int .i64 ln, .string (St8 ls), .int .u8 mk, .int .i64 mn, .string (St8 ms), .int .i64 nu, .int .i64 ma] 62)).alloc (.cells #[.bool (false), .bool (decide (0 < nu)), .bool (false)] 37)) = W at *
        have HW := Lib.hid hW
        have HO : Hid (T3At W (w.heap.size + 1) 37 ⟨false, N, false⟩) := by
          have h := HO.out
          rw [hN] at h
          exact h
        have Hfw := Lib.hid hfw
        have HbW := Lib.hid hbW
        clear hW hbW hfi hfw hN hpp
        go_enter Tryd.func70, Tryd.ntmps70
        go_wp2_with fail
        rw [HW.out]
        refine Hfw.out.mono ?_
        rintro e w1 ⟨⟨eb, rfl⟩, hb1⟩
        have Hb1 := Lib.hid (HbW.out.trans (hb1.mono HbW.out.size))
        have HO1 := Lib.hid (HO.out.below hb1)
        obtain ⟨o0, o1, o2⟩ := HO1.out.cells
        have oF := fun i => HO1.out.frozen i
        have hZ1 := HZ.out.below hb1
        have z2 := hZ1.cell 2
        have z5 := hZ1.cell 5
        simp only [List.getElem?_cons_zero, List.getElem?_cons_succ] at z2 z5
        have HS0 := Lib.hid (HO1.out.set0 (false))
        have HS1 : Hid (T3At ((w1.setCell ⟨w.heap.size + 1, 0, none⟩ (.bool (false))).setCell ⟨w.heap.size + 1, 2, none⟩ (.bool (false))) (w.heap.size + 1) 37 ⟨false, N, false⟩) := HS0.out.set2 (false)
        have HE1 := Lib.hid (below_set (below_set Hb1.out (show w.heap.size ≤ w.heap.size + 1 by omega) 0 (.bool (false))) (show w.heap.size ≤ w.heap.size + 1 by omega) 2 (.bool (false)))
        have HS := Lib.hid (HS1.out.three ⟨false, N, false⟩)
        have HE := Lib.hid (below_three HE1.out (show w.heap.size ≤ w.heap.size + 1 by omega) (.bool (false)) (.bool N) (.bool (false)))
        clear hb1 hZ1
        go_wp2_with fail
        (try simp only [Exit.inBlock, Exit.then])
        refine bodyPost_ret (results_cell_row rfl _ _ (w.heap.size + 1) 37 #[.bool (false), .bool N, .bool (false)] (0, 0) _ rfl HS.out Tryd.underlying37 rfl (by kernel_rfl)) rfl ?_
        rw [hR.out]
        exact ⟨rfl, HE.out⟩
    · cases hy1 : Op.bytesLess ms F
      · cases hy2 : Op.bytesLess F ls
        · have hq1 : ((St8 p).toList == [37]) = false := by rw [hpc, decide_eq_false hpp]
          clear hpc
          rw [hy1] at hl1
          rw [hy2] at hl2
          obtain ⟨N, hN⟩ : ∃ N, decide (0 < nu) = N := ⟨_, rfl⟩
          have hR : Hid (R = ⟨true, N, true⟩) := by
            show _ = _
            rw [hv.out, decide_eq_true h3, ← hN]
            simp [hpp, hy1, hy2]
          clear hv
          have hW0 : ((w.alloc (.cells #[.int .u8 lk, .int .i64 ln, .string (St8 ls), .int .u8 mk, .int .i64 mn, .string (St8 ms), .int .i64 nu, .int .i64 ma] 62)).alloc (.cells #[.bool (false), .bool (decide (0 < nu)), .bool (false)] 37)).heap.size = w.heap.size + 2 := by rw [World.size_alloc, World.size_alloc]
          have hbW : Below w.heap.size w ((w.alloc (.cells #[.int .u8 lk, .int .i64 ln, .string (St8 ls), .int .u8 mk, .int .i64 mn, .string (St8 ms), .int .i64 nu, .int .i64 ma] 62)).alloc (.cells #[.bool (false), .bool (decide (0 < nu)), .bool (false)] 37)) := (((Below.refl _ _).alloc (Nat.le_refl _) _).alloc (by rw [World.size_alloc]; omega) _)
          have hzW := hbW.size
          have HZ : Hid (Blk ((w.alloc (.cells #[.int .u8 lk, .int .i64 ln, .string (St8 ls), .int .u8 mk, .int .i64 mn, .string (St8 ms), .int .i64 nu, .int .i64 ma] 62)).alloc (.cells #[.bool (false), .bool (decide (0 < nu)), .bool (false)] 37)) (w.heap.size) 62 [.int .u8 lk, .int .i64 ln, .string (St8 ls), .int .u8 mk, .int .i64 mn, .string (St8 ms), .int .i64 nu, .int .i64 ma]) := (Blk.new w 62 #[.int .u8 lk, .int .i64 ln, .string (St8 ls), .int .u8 mk, .int .i64 mn, .string (St8 ms), .int .i64 nu, .int .i64 ma]).alloc _
          have HO : Hid (T3At ((w.alloc (.cells #[.int .u8 lk, .int .i64 ln, .string (St8 ls), .int .u8 mk, .int .i64 mn, .string (St8 ms), .int .i64 nu, .int .i64 ma] 62)).alloc (.cells #[.bool (false), .bool (decide (0 < nu)), .bool (false)] 37)) (w.heap.size + 1) 37 ⟨false, decide (0 < nu), false⟩) := by
            have h := T3At.new (w.alloc (.cells #[.int .u8 lk, .int .i64 ln, .string (St8 ls), .int .u8 mk, .int .i64 mn, .string (St8 ms), .int .i64 nu, .int .i64 ma] 62)) 37 ⟨false, decide (0 < nu), false⟩
            rw [World.size_alloc] at h
            exact h
          have hfw := hfi.out _ hbW
          generalize hW : ((w.alloc (.cells #[.int .u8 lk, .int .i64 ln, .string (St8 ls), .int .u8 mk, .int .i64 mn, .string (St8 ms), .int .i64 nu, .int .i64 ma] 62)).alloc (.cells #[.bool (false), .bool (decide (0 < nu)), .bool (false)] 37)) = W at *
          have HW := Lib.hid hW
          have HO : Hid (T3At W (w.heap.size + 1) 37 ⟨false, N, false⟩) := by
            have h := HO.out
            rw [hN] at h
            exact h
          have Hfw := Lib.hid hfw
          have HbW := Lib.hid hbW
          clear hW hbW hfi hfw hN hpp
          go_enter Tryd.func70, Tryd.ntmps70
          go_wp2_with fail
          rw [HW.out]
          refine Hfw.out.mono ?_
          rintro e w1 ⟨⟨eb, rfl⟩, hb1⟩
          have Hb1 := Lib.hid (HbW.out.trans (hb1.mono HbW.out.size))
          have HO1 := Lib.hid (HO.out.below hb1)
          obtain ⟨o0, o1, o2⟩ := HO1.out.cells
          have oF := fun i => HO1.out.frozen i
          have hZ1 := HZ.out.below hb1
          have z2 := hZ1.cell 2
          have z5 := hZ1.cell 5
          simp only [List.getElem?_cons_zero, List.getElem?_cons_succ] at z2 z5
          have HS0 := Lib.hid (HO1.out.set0 (true))
          have HS1 : Hid (T3At ((w1.setCell ⟨w.heap.size + 1, 0, none⟩ (.bool (true))).setCell ⟨w.heap.size + 1, 2, none⟩ (.bool (true))) (w.heap.size + 1) 37 ⟨true, N, true⟩) := HS0.out.set2 (true)
          have HE1 := Lib.hid (below_set (below_set Hb1.out (show w.heap.size ≤ w.heap.size + 1 by omega) 0 (.bool (true))) (show w.heap.size ≤ w.heap.size + 1 by omega) 2 (.bool (true)))
          have HS := Lib.hid (HS1.out.three ⟨true, N, true⟩)
          have HE := Lib.hid (below_three HE1.out (show w.heap.size ≤ w.heap.size + 1 by omega) (.bool (true)) (.bool N) (.bool (true)))
          clear hb1 hZ1
          go_wp2_with fail
          (try simp only [Exit.inBlock, Exit.then])
          refine bodyPost_ret (results_cell_row rfl _ _ (w.heap.size + 1) 37 #[.bool (true), .bool N, .bool (true)] (0, 0) _ rfl HS.out Tryd.underlying37 rfl (by kernel_rfl)) rfl ?_
          rw [hR.out]
          exact ⟨rfl, HE.out⟩
        · have hq1 : ((St8 p).toList == [37]) = false := by rw [hpc, decide_eq_false hpp]
          clear hpc
          rw [hy1] at hl1
          rw [hy2] at hl2
          obtain ⟨N, hN⟩ : ∃ N, decide (0 < nu) = N := ⟨_, rfl⟩
          have hR : Hid (R = ⟨true, N, decide (F <+: ls)⟩) := by
            show _ = _
            rw [hv.out, decide_eq_true h3, ← hN]
            simp [hpp, hy1, hy2]
          clear hv
          have hW0 : ((w.alloc (.cells #[.int .u8 lk, .int .i64 ln, .string (St8 ls), .int .u8 mk, .int .i64 mn, .string (St8 ms), .int .i64 nu, .int .i64 ma] 62)).alloc (.cells #[.bool (false), .bool (decide (0 < nu)), .bool (false)] 37)).heap.size = w.heap.size + 2 := by rw [World.size_alloc, World.size_alloc]
          have hbW : Below w.heap.size w ((w.alloc (.cells #[.int .u8 lk, .int .i64 ln, .string (St8 ls), .int .u8 mk, .int .i64 mn, .string (St8 ms), .int .i64 nu, .int .i64 ma] 62)).alloc (.cells #[.bool (false), .bool (decide (0 < nu)), .bool (false)] 37)) := (((Below.refl _ _).alloc (Nat.le_refl _) _).alloc (by rw [World.size_alloc]; omega) _)
          have hzW := hbW.size
          have HZ : Hid (Blk ((w.alloc (.cells #[.int .u8 lk, .int .i64 ln, .string (St8 ls), .int .u8 mk, .int .i64 mn, .string (St8 ms), .int .i64 nu, .int .i64 ma] 62)).alloc (.cells #[.bool (false), .bool (decide (0 < nu)), .bool (false)] 37)) (w.heap.size) 62 [.int .u8 lk, .int .i64 ln, .string (St8 ls), .int .u8 mk, .int .i64 mn, .string (St8 ms), .int .i64 nu, .int .i64 ma]) := (Blk.new w 62 #[.int .u8 lk, .int .i64 ln, .string (St8 ls), .int .u8 mk, .int .i64 mn, .string (St8 ms), .int .i64 nu, .int .i64 ma]).alloc _
          have HO : Hid (T3At ((w.alloc (.cells #[.int .u8 lk, .int .i64 ln, .string (St8 ls), .int .u8 mk, .int .i64 mn, .string (St8 ms), .int .i64 nu, .int .i64 ma] 62)).alloc (.cells #[.bool (false), .bool (decide (0 < nu)), .bool (false)] 37)) (w.heap.size + 1) 37 ⟨false, decide (0 < nu), false⟩) := by
            have h := T3At.new (w.alloc (.cells #[.int .u8 lk, .int .i64 ln, .string (St8 ls), .int .u8 mk, .int .i64 mn, .string (St8 ms), .int .i64 nu, .int .i64 ma] 62)) 37 ⟨false, decide (0 < nu), false⟩
            rw [World.size_alloc] at h
            exact h
          have hpx : Lib.hasPrefix (St8 ls).data.toList (St8 F).data.toList = decide (F <+: ls) := hasPrefix_dec ls F
          have hfw := hfi.out _ hbW
          generalize hW : ((w.alloc (.cells #[.int .u8 lk, .int .i64 ln, .string (St8 ls), .int .u8 mk, .int .i64 mn, .string (St8 ms), .int .i64 nu, .int .i64 ma] 62)).alloc (.cells #[.bool (false), .bool (decide (0 < nu)), .bool (false)] 37)) = W at *
          have HW := Lib.hid hW
          have HO : Hid (T3At W (w.heap.size + 1) 37 ⟨false, N, false⟩) := by
            have h := HO.out
            rw [hN] at h
            exact h
          have Hfw := Lib.hid hfw
          have HbW := Lib.hid hbW
          clear hW hbW hfi hfw hN hpp
          go_enter Tryd.func70, Tryd.ntmps70
          go_wp2_with fail
          rw [HW.out]
          refine Hfw.out.mono ?_
          rintro e w1 ⟨⟨eb, rfl⟩, hb1⟩
          have Hb1 := Lib.hid (HbW.out.trans (hb1.mono HbW.out.size))
          have HO1 := Lib.hid (HO.out.below hb1)
          obtain ⟨o0, o1, o2⟩ := HO1.out.cells
          have oF := fun i => HO1.out.frozen i
          have hZ1 := HZ.out.below hb1
          have z2 := hZ1.cell 2
          have z5 := hZ1.cell 5
          simp only [List.getElem?_cons_zero, List.getElem?_cons_succ] at z2 z5
          have HS0 := Lib.hid (HO1.out.set0 (true))
          have HS1 : Hid (T3At ((w1.setCell ⟨w.heap.size + 1, 0, none⟩ (.bool (true))).setCell ⟨w.heap.size + 1, 2, none⟩ (.bool (decide (F <+: ls)))) (w.heap.size + 1) 37 ⟨true, N, decide (F <+: ls)⟩) := HS0.out.set2 (decide (F <+: ls))
          have HE1 := Lib.hid (below_set (below_set Hb1.out (show w.heap.size ≤ w.heap.size + 1 by omega) 0 (.bool (true))) (show w.heap.size ≤ w.heap.size + 1 by omega) 2 (.bool (decide (F <+: ls))))
          have HS := Lib.hid (HS1.out.three ⟨true, N, decide (F <+: ls)⟩)
          have HE := Lib.hid (below_three HE1.out (show w.heap.size ≤ w.heap.size + 1 by omega) (.bool (true)) (.bool N) (.bool (decide (F <+: ls))))
          clear hb1 hZ1
          go_wp2_with fail
          refine (hbe.out _ _ _).mono ?_
          rintro e w2 ⟨rfl, rfl⟩
          rw [hpx]
          go_wp2_with fail
          (try simp only [Exit.inBlock, Exit.then])
          refine bodyPost_ret (results_cell_row rfl _ _ (w.heap.size + 1) 37 #[.bool (true), .bool N, .bool (decide (F <+: ls))] (0, 0) _ rfl HS.out Tryd.underlying37 rfl (by kernel_rfl)) rfl ?_
          rw [hR.out]
          exact ⟨rfl, HE.out⟩
      · have hq1 : ((St8 p).toList == [37]) = false := by rw [hpc, decide_eq_false hpp]
        clear hpc
        rw [hy1] at hl1
        clear hl2
        obtain ⟨N, hN⟩ : ∃ N, decide (0 < nu) = N := ⟨_, rfl⟩
        have hR : Hid (R = ⟨true, N, false⟩) := by
          show _ = _
          rw [hv.out, decide_eq_true h3, ← hN]
          simp [hpp, hy1]
        clear hv
        have hW0 : ((w.alloc (.cells #[.int .u8 lk, .int .i64 ln, .string (St8 ls), .int .u8 mk, .int .i64 mn, .string (St8 ms), .int .i64 nu, .int .i64 ma] 62)).alloc (.cells #[.bool (false), .bool (decide (0 < nu)), .bool (false)] 37)).heap.size = w.heap.size + 2 := by rw [World.size_alloc, World.size_alloc]
        have hbW : Below w.heap.size w ((w.alloc (.cells #[.int .u8 lk, .int .i64 ln, .string (St8 ls), .int .u8 mk, .int .i64 mn, .string (St8 ms), .int .i64 nu, .int .i64 ma] 62)).alloc (.cells #[.bool (false), .bool (decide (0 < nu)), .bool (false)] 37)) := (((Below.refl _ _).alloc (Nat.le_refl _) _).alloc (by rw [World.size_alloc]; omega) _)
        have hzW := hbW.size
        have HZ : Hid (Blk ((w.alloc (.cells #[.int .u8 lk, .int .i64 ln, .string (St8 ls), .int .u8 mk, .int .i64 mn, .string (St8 ms), .int .i64 nu, .int .i64 ma] 62)).alloc (.cells #[.bool (false), .bool (decide (0 < nu)), .bool (false)] 37)) (w.heap.size) 62 [.int .u8 lk, .int .i64 ln, .string (St8 ls), .int .u8 mk, .int .i64 mn, .string (St8 ms), .int .i64 nu, .int .i64 ma]) := (Blk.new w 62 #[.int .u8 lk, .int .i64 ln, .string (St8 ls), .int .u8 mk, .int .i64 mn, .string (St8 ms), .int .i64 nu, .int .i64 ma]).alloc _
        have HO : Hid (T3At ((w.alloc (.cells #[.int .u8 lk, .int .i64 ln, .string (St8 ls), .int .u8 mk, .int .i64 mn, .string (St8 ms), .int .i64 nu, .int .i64 ma] 62)).alloc (.cells #[.bool (false), .bool (decide (0 < nu)), .bool (false)] 37)) (w.heap.size + 1) 37 ⟨false, decide (0 < nu), false⟩) := by
          have h := T3At.new (w.alloc (.cells #[.int .u8 lk, .int .i64 ln, .string (St8 ls), .int .u8 mk, .int .i64 mn, .string (St8 ms), .int .i64 nu, .int .i64 ma] 62)) 37 ⟨false, decide (0 < nu), false⟩
          rw [World.size_alloc] at h
          exact h
        have hfw := hfi.out _ hbW
        generalize hW : ((w.alloc (.cells #[.int .u8 lk, .int .i64 ln, .string (St8 ls), .int .u8 mk, .int .i64 mn, .string (St8 ms), .int .i64 nu, .int .i64 ma] 62)).alloc (.cells #[.bool (false), .bool (decide (0 < nu)), .bool (false)] 37)) = W at *
        have HW := Lib.hid hW
        have HO : Hid (T3At W (w.heap.size + 1) 37 ⟨false, N, false⟩) := by
          have h := HO.out
          rw [hN] at h
          exact h
        have Hfw := Lib.hid hfw
        have HbW := Lib.hid hbW
        clear hW hbW hfi hfw hN hpp
        go_enter Tryd.func70, Tryd.ntmps70
        go_wp2_with fail
        rw [HW.out]
        refine Hfw.out.mono ?_
        rintro e w1 ⟨⟨eb, rfl⟩, hb1⟩
        have Hb1 := Lib.hid (HbW.out.trans (hb1.mono HbW.out.size))
        have HO1 := Lib.hid (HO.out.below hb1)
        obtain ⟨o0, o1, o2⟩ := HO1.out.cells
        have oF := fun i => HO1.out.frozen i
        have hZ1 := HZ.out.below hb1
        have z2 := hZ1.cell 2
        have z5 := hZ1.cell 5
        simp only [List.getElem?_cons_zero, List.getElem?_cons_succ] at z2 z5
        have HS0 := Lib.hid (HO1.out.set0 (true))
        have HS1 : Hid (T3At ((w1.setCell ⟨w.heap.size + 1, 0, none⟩ (.bool (true))).setCell ⟨w.heap.size + 1, 2, none⟩ (.bool (false))) (w.heap.size + 1) 37 ⟨true, N, false⟩) := HS0.out.set2 (false)
        have HE1 := Lib.hid (below_set (below_set Hb1.out (show w.heap.size ≤ w.heap.size + 1 by omega) 0 (.bool (true))) (show w.heap.size ≤ w.heap.size + 1 by omega) 2 (.bool (false)))
        have HS := Lib.hid (HS1.out.three ⟨true, N, false⟩)
        have HE := Lib.hid (below_three HE1.out (show w.heap.size ≤ w.heap.size + 1 by omega) (.bool (true)) (.bool N) (.bool (false)))
        clear hb1 hZ1
        go_wp2_with fail
        (try simp only [Exit.inBlock, Exit.then])
        refine bodyPost_ret (results_cell_row rfl _ _ (w.heap.size + 1) 37 #[.bool (true), .bool N, .bool (false)] (0, 0) _ rfl HS.out Tryd.underlying37 rfl (by kernel_rfl)) rfl ?_
        rw [hR.out]
        exact ⟨rfl, HE.out⟩
  · have hR : Hid (R = ⟨false, decide (0 < nu), false⟩) := by
      show _ = _
      rw [hv.out, decide_eq_false h3]
      rfl
    clear hv hl1 hl2 hpc hfi hbe
    have hb : Blk ((w.alloc (.cells #[.int .u8 lk, .int .i64 ln, .string (St8 ls), .int .u8 mk, .int .i64 mn, .string (St8 ms), .int .i64 nu, .int .i64 ma] 62)).alloc (.cells #[.bool (false), .bool (decide (0 < nu)), .bool (false)] 37)) (w.heap.size + 1) 37 [.bool (false), .bool (decide (0 < nu)), .bool (false)] := by
      have h := Blk.new (w.alloc (.cells #[.int .u8 lk, .int .i64 ln, .string (St8 ls), .int .u8 mk, .int .i64 mn, .string (St8 ms), .int .i64 nu, .int .i64 ma] 62)) 37 #[.bool (false), .bool (decide (0 < nu)), .bool (false)]
      rw [World.size_alloc] at h
      exact h
    have HB := Lib.hid hb
    have Hbe : Hid (Below w.heap.size w ((w.alloc (.cells #[.int .u8 lk, .int .i64 ln, .string (St8 ls), .int .u8 mk, .int .i64 mn, .string (St8 ms), .int .i64 nu, .int .i64 ma] 62)).alloc (.cells #[.bool (false), .bool (decide (0 < nu)), .bool (false)] 37))) := (((Below.refl _ _).alloc (Nat.le_refl _) _).alloc (by rw [World.size_alloc]; omega) _)
    clear hb
    go_enter Tryd.func70, Tryd.ntmps70
    go_wp2_with fail
    (try simp only [Exit.inBlock, Exit.then])
    refine bodyPost_ret (results_cell_row rfl _ _ (w.heap.size + 1) 37 #[.bool (false), .bool (decide (0 < nu)), .bool (false)] (0, 0) _ rfl HB.out Tryd.underlying37 rfl (by kernel_rfl)) rfl ?_
    rw [hR.out]
    exact ⟨rfl, Hbe.out⟩
set_option maxHeartbeats 2000000 in
set_option maxRecDepth 100000 in
theorem ralike_c (z : Zo) (p : List UInt8) (w : World) (hp : p.length ≤ 1000000) (hok : (partsM p).2 = true) (hT : Lib.Utf8Tabs 0 1 w) : Calls Tryd.prog 74 #[z.agg, .string (St8 p)] w fun e w' => e = .returned (alikeZ z p).agg ∧ Below w.heap.size w w' := by
  have hfi := Lib.hid (fun w' (hb : Below w.heap.size w w') => rfixed_c p w' hp hok (Utf8Tabs_below hT hb))
  have hbe := Lib.hid (fun s t w' => rbegins_c s t w')
  have hv : Hid (alikeZ z p = ⟨decide (z.nulls < z.many) && decide (p ≠ [37]), decide (0 < z.nulls), decide (z.nulls < z.many) && (!Op.bytesLess z.most.s (fixedM p) && (!Op.bytesLess (fixedM p) z.least.s || decide (fixedM p <+: z.least.s)))⟩) := rfl
  obtain ⟨⟨lk, ln, ls⟩, ⟨mk, mn, ms⟩, nu, ma⟩ := z
  have hl1 := bless_St8 ms (fixedM p)
  have hl2 := ble_St8 ls (fixedM p)
  have hpc := pct_St8 p
  generalize fixedM p = F at *
  generalize alikeZ _ p = R at *
  dsimp only at hv
  unfold Zo.agg
  dsimp only
  clear hp hok hT
  by_cases h3 : nu < ma
  · by_cases hpp : p = [37]
    · cases hy1 : Op.bytesLess ms F
      · cases hy2 : Op.bytesLess F ls
        · have hq1 : ((St8 p).toList == [37]) = true := by rw [hpc, decide_eq_true hpp]
          clear hpc
          rw [hy1] at hl1
          rw [hy2] at hl2
          obtain ⟨N, hN⟩ : ∃ N, decide (0 < nu) = N := ⟨_, rfl⟩
          have hR : Hid (R = ⟨false, N, true⟩) := by
            show _ = _
            rw [hv.out, decide_eq_true h3, ← hN]
            simp [hpp, hy1, hy2]
          clear hv
          have hW0 : (((w.alloc (.cells #[.int .u8 lk, .int .i64 ln, .string (St8 ls), .int .u8 mk, .int .i64 mn, .string (St8 ms), .int .i64 nu, .int .i64 ma] 62)).alloc (.cells #[.bool (false), .bool (false), .bool (false)] 37)).alloc (.cells #[.bool (false), .bool (decide (0 < nu)), .bool (false)] 37)).heap.size = w.heap.size + 3 := by rw [World.size_alloc, World.size_alloc, World.size_alloc]
          have hbW : Below w.heap.size w (((w.alloc (.cells #[.int .u8 lk, .int .i64 ln, .string (St8 ls), .int .u8 mk, .int .i64 mn, .string (St8 ms), .int .i64 nu, .int .i64 ma] 62)).alloc (.cells #[.bool (false), .bool (false), .bool (false)] 37)).alloc (.cells #[.bool (false), .bool (decide (0 < nu)), .bool (false)] 37)) := ((((Below.refl _ _).alloc (Nat.le_refl _) _).alloc (by rw [World.size_alloc]; omega) _).alloc (by rw [World.size_alloc, World.size_alloc]; omega) _)
          have hzW := hbW.size
          have HZ : Hid (Blk (((w.alloc (.cells #[.int .u8 lk, .int .i64 ln, .string (St8 ls), .int .u8 mk, .int .i64 mn, .string (St8 ms), .int .i64 nu, .int .i64 ma] 62)).alloc (.cells #[.bool (false), .bool (false), .bool (false)] 37)).alloc (.cells #[.bool (false), .bool (decide (0 < nu)), .bool (false)] 37)) (w.heap.size) 62 [.int .u8 lk, .int .i64 ln, .string (St8 ls), .int .u8 mk, .int .i64 mn, .string (St8 ms), .int .i64 nu, .int .i64 ma]) := ((Blk.new w 62 #[.int .u8 lk, .int .i64 ln, .string (St8 ls), .int .u8 mk, .int .i64 mn, .string (St8 ms), .int .i64 nu, .int .i64 ma]).alloc _).alloc _
          have HO : Hid (T3At (((w.alloc (.cells #[.int .u8 lk, .int .i64 ln, .string (St8 ls), .int .u8 mk, .int .i64 mn, .string (St8 ms), .int .i64 nu, .int .i64 ma] 62)).alloc (.cells #[.bool (false), .bool (false), .bool (false)] 37)).alloc (.cells #[.bool (false), .bool (decide (0 < nu)), .bool (false)] 37)) (w.heap.size + 1 + 1) 37 ⟨false, decide (0 < nu), false⟩) := by
            have h := T3At.new ((w.alloc (.cells #[.int .u8 lk, .int .i64 ln, .string (St8 ls), .int .u8 mk, .int .i64 mn, .string (St8 ms), .int .i64 nu, .int .i64 ma] 62)).alloc (.cells #[.bool (false), .bool (false), .bool (false)] 37)) 37 ⟨false, decide (0 < nu), false⟩
            rw [World.size_alloc, World.size_alloc] at h
            exact h
          have HR : Hid (T3At (((w.alloc (.cells #[.int .u8 lk, .int .i64 ln, .string (St8 ls), .int .u8 mk, .int .i64 mn, .string (St8 ms), .int .i64 nu, .int .i64 ma] 62)).alloc (.cells #[.bool (false), .bool (false), .bool (false)] 37)).alloc (.cells #[.bool (false), .bool (decide (0 < nu)), .bool (false)] 37)) (w.heap.size + 1) 37 ⟨false, false, false⟩) := by
            have h := (T3At.new (w.alloc (.cells #[.int .u8 lk, .int .i64 ln, .string (St8 ls), .int .u8 mk, .int .i64 mn, .string (St8 ms), .int .i64 nu, .int .i64 ma] 62)) 37 ⟨false, false, false⟩).alloc (.cells #[.bool (false), .bool (decide (0 < nu)), .bool (false)] 37)
            rw [World.size_alloc] at h
            exact h
          have hfw := hfi.out _ hbW
          generalize hW : (((w.alloc (.cells #[.int .u8 lk, .int .i64 ln, .string (St8 ls), .int .u8 mk, .int .i64 mn, .string (St8 ms), .int .i64 nu, .int .i64 ma] 62)).alloc (.cells #[.bool (false), .bool (false), .bool (false)] 37)).alloc (.cells #[.bool (false), .bool (decide (0 < nu)), .bool (false)] 37)) = W at *
          have HW := Lib.hid hW
          have HO : Hid (T3At W (w.heap.size + 1 + 1) 37 ⟨false, N, false⟩) := by
            have h := HO.out
            rw [hN] at h
            exact h
          have Hfw := Lib.hid hfw
          have HbW := Lib.hid hbW
          clear hW hbW hfi hfw hN hpp
          go_enter Tryd.func74, Tryd.ntmps74
          go_wp2_with fail
          rw [HW.out]
          refine Hfw.out.mono ?_
          rintro e w1 ⟨⟨eb, rfl⟩, hb1⟩
          have Hb1 := Lib.hid (HbW.out.trans (hb1.mono HbW.out.size))
          have HQ := Lib.hid hb1
          have HO1 := Lib.hid (HO.out.below hb1)
          obtain ⟨o0, o1, o2⟩ := HO1.out.cells
          have oF := fun i => HO1.out.frozen i
          have hZ1 := HZ.out.below hb1
          have z2 := hZ1.cell 2
          have z5 := hZ1.cell 5
          simp only [List.getElem?_cons_zero, List.getElem?_cons_succ] at z2 z5
          have HR1 := Lib.hid (HR.out.below HQ.out)
          obtain ⟨r0, r1, r2⟩ := HR1.out.cells
          have rF := fun i => HR1.out.frozen i
          have HS0 := Lib.hid (HO1.out.set0 (false))
          have HS1 : Hid (T3At ((w1.setCell ⟨w.heap.size + 1 + 1, 0, none⟩ (.bool (false))).setCell ⟨w.heap.size + 1 + 1, 2, none⟩ (.bool (true))) (w.heap.size + 1 + 1) 37 ⟨false, N, true⟩) := HS0.out.set2 (true)
          have HE1 := Lib.hid (below_set (below_set Hb1.out (show w.heap.size ≤ w.heap.size + 1 + 1 by omega) 0 (.bool (false))) (show w.heap.size ≤ w.heap.size + 1 + 1 by omega) 2 (.bool (true)))
          have HS := Lib.hid ((HR1.out.far (show w.heap.size + 1 ≠ w.heap.size + 1 + 1 by omega) 0 (.bool (false))).far (show w.heap.size + 1 ≠ w.heap.size + 1 + 1 by omega) 2 (.bool (true)) |>.three ⟨false, N, true⟩)
          have HE := Lib.hid (below_three HE1.out (show w.heap.size ≤ w.heap.size + 1 by omega) (.bool (false)) (.bool N) (.bool (true)))
          clear hb1 hZ1
          go_wp2_with fail
          (try simp only [Exit.inBlock, Exit.then])
          refine bodyPost_ret (results_cell_row rfl _ _ (w.heap.size + 1) 37 #[.bool (false), .bool N, .bool (true)] (0, 0) _ rfl HS.out Tryd.underlying37 rfl (by kernel_rfl)) rfl ?_
          rw [hR.out]
          exact ⟨rfl, HE.out⟩
        · have hq1 : ((St8 p).toList == [37]) = true := by rw [hpc, decide_eq_true hpp]
          clear hpc
          rw [hy1] at hl1
          rw [hy2] at hl2
          obtain ⟨N, hN⟩ : ∃ N, decide (0 < nu) = N := ⟨_, rfl⟩
          have hR : Hid (R = ⟨false, N, decide (F <+: ls)⟩) := by
            show _ = _
            rw [hv.out, decide_eq_true h3, ← hN]
            simp [hpp, hy1, hy2]
          clear hv
          have hW0 : (((w.alloc (.cells #[.int .u8 lk, .int .i64 ln, .string (St8 ls), .int .u8 mk, .int .i64 mn, .string (St8 ms), .int .i64 nu, .int .i64 ma] 62)).alloc (.cells #[.bool (false), .bool (false), .bool (false)] 37)).alloc (.cells #[.bool (false), .bool (decide (0 < nu)), .bool (false)] 37)).heap.size = w.heap.size + 3 := by rw [World.size_alloc, World.size_alloc, World.size_alloc]
          have hbW : Below w.heap.size w (((w.alloc (.cells #[.int .u8 lk, .int .i64 ln, .string (St8 ls), .int .u8 mk, .int .i64 mn, .string (St8 ms), .int .i64 nu, .int .i64 ma] 62)).alloc (.cells #[.bool (false), .bool (false), .bool (false)] 37)).alloc (.cells #[.bool (false), .bool (decide (0 < nu)), .bool (false)] 37)) := ((((Below.refl _ _).alloc (Nat.le_refl _) _).alloc (by rw [World.size_alloc]; omega) _).alloc (by rw [World.size_alloc, World.size_alloc]; omega) _)
          have hzW := hbW.size
          have HZ : Hid (Blk (((w.alloc (.cells #[.int .u8 lk, .int .i64 ln, .string (St8 ls), .int .u8 mk, .int .i64 mn, .string (St8 ms), .int .i64 nu, .int .i64 ma] 62)).alloc (.cells #[.bool (false), .bool (false), .bool (false)] 37)).alloc (.cells #[.bool (false), .bool (decide (0 < nu)), .bool (false)] 37)) (w.heap.size) 62 [.int .u8 lk, .int .i64 ln, .string (St8 ls), .int .u8 mk, .int .i64 mn, .string (St8 ms), .int .i64 nu, .int .i64 ma]) := ((Blk.new w 62 #[.int .u8 lk, .int .i64 ln, .string (St8 ls), .int .u8 mk, .int .i64 mn, .string (St8 ms), .int .i64 nu, .int .i64 ma]).alloc _).alloc _
          have HO : Hid (T3At (((w.alloc (.cells #[.int .u8 lk, .int .i64 ln, .string (St8 ls), .int .u8 mk, .int .i64 mn, .string (St8 ms), .int .i64 nu, .int .i64 ma] 62)).alloc (.cells #[.bool (false), .bool (false), .bool (false)] 37)).alloc (.cells #[.bool (false), .bool (decide (0 < nu)), .bool (false)] 37)) (w.heap.size + 1 + 1) 37 ⟨false, decide (0 < nu), false⟩) := by
            have h := T3At.new ((w.alloc (.cells #[.int .u8 lk, .int .i64 ln, .string (St8 ls), .int .u8 mk, .int .i64 mn, .string (St8 ms), .int .i64 nu, .int .i64 ma] 62)).alloc (.cells #[.bool (false), .bool (false), .bool (false)] 37)) 37 ⟨false, decide (0 < nu), false⟩
            rw [World.size_alloc, World.size_alloc] at h
            exact h
          have HR : Hid (T3At (((w.alloc (.cells #[.int .u8 lk, .int .i64 ln, .string (St8 ls), .int .u8 mk, .int .i64 mn, .string (St8 ms), .int .i64 nu, .int .i64 ma] 62)).alloc (.cells #[.bool (false), .bool (false), .bool (false)] 37)).alloc (.cells #[.bool (false), .bool (decide (0 < nu)), .bool (false)] 37)) (w.heap.size + 1) 37 ⟨false, false, false⟩) := by
            have h := (T3At.new (w.alloc (.cells #[.int .u8 lk, .int .i64 ln, .string (St8 ls), .int .u8 mk, .int .i64 mn, .string (St8 ms), .int .i64 nu, .int .i64 ma] 62)) 37 ⟨false, false, false⟩).alloc (.cells #[.bool (false), .bool (decide (0 < nu)), .bool (false)] 37)
            rw [World.size_alloc] at h
            exact h
          have hfw := hfi.out _ hbW
          generalize hW : (((w.alloc (.cells #[.int .u8 lk, .int .i64 ln, .string (St8 ls), .int .u8 mk, .int .i64 mn, .string (St8 ms), .int .i64 nu, .int .i64 ma] 62)).alloc (.cells #[.bool (false), .bool (false), .bool (false)] 37)).alloc (.cells #[.bool (false), .bool (decide (0 < nu)), .bool (false)] 37)) = W at *
          have HW := Lib.hid hW
          have HO : Hid (T3At W (w.heap.size + 1 + 1) 37 ⟨false, N, false⟩) := by
            have h := HO.out
            rw [hN] at h
            exact h
          have Hfw := Lib.hid hfw
          have HbW := Lib.hid hbW
          clear hW hbW hfi hfw hN hpp
          go_enter Tryd.func74, Tryd.ntmps74
          go_wp2_with fail
          rw [HW.out]
          refine Hfw.out.mono ?_
          rintro e w1 ⟨⟨eb, rfl⟩, hb1⟩
          have Hb1 := Lib.hid (HbW.out.trans (hb1.mono HbW.out.size))
          have HQ := Lib.hid hb1
          have HO1 := Lib.hid (HO.out.below hb1)
          obtain ⟨o0, o1, o2⟩ := HO1.out.cells
          have oF := fun i => HO1.out.frozen i
          have hZ1 := HZ.out.below hb1
          have z2 := hZ1.cell 2
          have z5 := hZ1.cell 5
          simp only [List.getElem?_cons_zero, List.getElem?_cons_succ] at z2 z5
          have HR1 := Lib.hid (HR.out.below HQ.out)
          obtain ⟨r0, r1, r2⟩ := HR1.out.cells
          have rF := fun i => HR1.out.frozen i
          have HS0 := Lib.hid (HO1.out.set0 (false))
          have HS1 : Hid (T3At ((w1.setCell ⟨w.heap.size + 1 + 1, 0, none⟩ (.bool (false))).setCell ⟨w.heap.size + 1 + 1, 2, none⟩ (.bool (decide (F <+: ls)))) (w.heap.size + 1 + 1) 37 ⟨false, N, decide (F <+: ls)⟩) := HS0.out.set2 (decide (F <+: ls))
          have HE1 := Lib.hid (below_set (below_set Hb1.out (show w.heap.size ≤ w.heap.size + 1 + 1 by omega) 0 (.bool (false))) (show w.heap.size ≤ w.heap.size + 1 + 1 by omega) 2 (.bool (decide (F <+: ls))))
          have HS := Lib.hid ((HR1.out.far (show w.heap.size + 1 ≠ w.heap.size + 1 + 1 by omega) 0 (.bool (false))).far (show w.heap.size + 1 ≠ w.heap.size + 1 + 1 by omega) 2 (.bool (decide (F <+: ls))) |>.three ⟨false, N, decide (F <+: ls)⟩)
          have HE := Lib.hid (below_three HE1.out (show w.heap.size ≤ w.heap.size + 1 by omega) (.bool (false)) (.bool N) (.bool (decide (F <+: ls))))
          clear hb1 hZ1
          go_wp2_with fail
          refine (hbe.out _ _ _).mono ?_
          rintro e w2 ⟨rfl, rfl⟩
          go_wp2_with fail
          (try simp only [Exit.inBlock, Exit.then])
          refine bodyPost_ret (results_cell_row rfl _ _ (w.heap.size + 1) 37 #[.bool (false), .bool N, .bool (decide (F <+: ls))] (0, 0) _ rfl HS.out Tryd.underlying37 rfl (by kernel_rfl)) rfl ?_
          rw [hR.out]
          exact ⟨rfl, HE.out⟩
      · have hq1 : ((St8 p).toList == [37]) = true := by rw [hpc, decide_eq_true hpp]
        clear hpc
        rw [hy1] at hl1
        clear hl2
        obtain ⟨N, hN⟩ : ∃ N, decide (0 < nu) = N := ⟨_, rfl⟩
        have hR : Hid (R = ⟨false, N, false⟩) := by
          show _ = _
          rw [hv.out, decide_eq_true h3, ← hN]
          simp [hpp, hy1]
        clear hv
        have hW0 : (((w.alloc (.cells #[.int .u8 lk, .int .i64 ln, .string (St8 ls), .int .u8 mk, .int .i64 mn, .string (St8 ms), .int .i64 nu, .int .i64 ma] 62)).alloc (.cells #[.bool (false), .bool (false), .bool (false)] 37)).alloc (.cells #[.bool (false), .bool (decide (0 < nu)), .bool (false)] 37)).heap.size = w.heap.size + 3 := by rw [World.size_alloc, World.size_alloc, World.size_alloc]
        have hbW : Below w.heap.size w (((w.alloc (.cells #[.int .u8 lk, .int .i64 ln, .string (St8 ls), .int .u8 mk, .int .i64 mn, .string (St8 ms), .int .i64 nu, .int .i64 ma] 62)).alloc (.cells #[.bool (false), .bool (false), .bool (false)] 37)).alloc (.cells #[.bool (false), .bool (decide (0 < nu)), .bool (false)] 37)) := ((((Below.refl _ _).alloc (Nat.le_refl _) _).alloc (by rw [World.size_alloc]; omega) _).alloc (by rw [World.size_alloc, World.size_alloc]; omega) _)
        have hzW := hbW.size
        have HZ : Hid (Blk (((w.alloc (.cells #[.int .u8 lk, .int .i64 ln, .string (St8 ls), .int .u8 mk, .int .i64 mn, .string (St8 ms), .int .i64 nu, .int .i64 ma] 62)).alloc (.cells #[.bool (false), .bool (false), .bool (false)] 37)).alloc (.cells #[.bool (false), .bool (decide (0 < nu)), .bool (false)] 37)) (w.heap.size) 62 [.int .u8 lk, .int .i64 ln, .string (St8 ls), .int .u8 mk, .int .i64 mn, .string (St8 ms), .int .i64 nu, .int .i64 ma]) := ((Blk.new w 62 #[.int .u8 lk, .int .i64 ln, .string (St8 ls), .int .u8 mk, .int .i64 mn, .string (St8 ms), .int .i64 nu, .int .i64 ma]).alloc _).alloc _
        have HO : Hid (T3At (((w.alloc (.cells #[.int .u8 lk, .int .i64 ln, .string (St8 ls), .int .u8 mk, .int .i64 mn, .string (St8 ms), .int .i64 nu, .int .i64 ma] 62)).alloc (.cells #[.bool (false), .bool (false), .bool (false)] 37)).alloc (.cells #[.bool (false), .bool (decide (0 < nu)), .bool (false)] 37)) (w.heap.size + 1 + 1) 37 ⟨false, decide (0 < nu), false⟩) := by
          have h := T3At.new ((w.alloc (.cells #[.int .u8 lk, .int .i64 ln, .string (St8 ls), .int .u8 mk, .int .i64 mn, .string (St8 ms), .int .i64 nu, .int .i64 ma] 62)).alloc (.cells #[.bool (false), .bool (false), .bool (false)] 37)) 37 ⟨false, decide (0 < nu), false⟩
          rw [World.size_alloc, World.size_alloc] at h
          exact h
        have HR : Hid (T3At (((w.alloc (.cells #[.int .u8 lk, .int .i64 ln, .string (St8 ls), .int .u8 mk, .int .i64 mn, .string (St8 ms), .int .i64 nu, .int .i64 ma] 62)).alloc (.cells #[.bool (false), .bool (false), .bool (false)] 37)).alloc (.cells #[.bool (false), .bool (decide (0 < nu)), .bool (false)] 37)) (w.heap.size + 1) 37 ⟨false, false, false⟩) := by
          have h := (T3At.new (w.alloc (.cells #[.int .u8 lk, .int .i64 ln, .string (St8 ls), .int .u8 mk, .int .i64 mn, .string (St8 ms), .int .i64 nu, .int .i64 ma] 62)) 37 ⟨false, false, false⟩).alloc (.cells #[.bool (false), .bool (decide (0 < nu)), .bool (false)] 37)
          rw [World.size_alloc] at h
          exact h
        have hfw := hfi.out _ hbW
        generalize hW : (((w.alloc (.cells #[.int .u8 lk, .int .i64 ln, .string (St8 ls), .int .u8 mk, .int .i64 mn, .string (St8 ms), .int .i64 nu, .int .i64 ma] 62)).alloc (.cells #[.bool (false), .bool (false), .bool (false)] 37)).alloc (.cells #[.bool (false), .bool (decide (0 < nu)), .bool (false)] 37)) = W at *
        have HW := Lib.hid hW
        have HO : Hid (T3At W (w.heap.size + 1 + 1) 37 ⟨false, N, false⟩) := by
          have h := HO.out
          rw [hN] at h
          exact h
        have Hfw := Lib.hid hfw
        have HbW := Lib.hid hbW
        clear hW hbW hfi hfw hN hpp
        go_enter Tryd.func74, Tryd.ntmps74
        go_wp2_with fail
        rw [HW.out]
        refine Hfw.out.mono ?_
        rintro e w1 ⟨⟨eb, rfl⟩, hb1⟩
        have Hb1 := Lib.hid (HbW.out.trans (hb1.mono HbW.out.size))
        have HQ := Lib.hid hb1
        have HO1 := Lib.hid (HO.out.below hb1)
        obtain ⟨o0, o1, o2⟩ := HO1.out.cells
        have oF := fun i => HO1.out.frozen i
        have hZ1 := HZ.out.below hb1
        have z2 := hZ1.cell 2
        have z5 := hZ1.cell 5
        simp only [List.getElem?_cons_zero, List.getElem?_cons_succ] at z2 z5
        have HR1 := Lib.hid (HR.out.below HQ.out)
        obtain ⟨r0, r1, r2⟩ := HR1.out.cells
        have rF := fun i => HR1.out.frozen i
        have HS0 := Lib.hid (HO1.out.set0 (false))
        have HS1 : Hid (T3At ((w1.setCell ⟨w.heap.size + 1 + 1, 0, none⟩ (.bool (false))).setCell ⟨w.heap.size + 1 + 1, 2, none⟩ (.bool (false))) (w.heap.size + 1 + 1) 37 ⟨false, N, false⟩) := HS0.out.set2 (false)
        have HE1 := Lib.hid (below_set (below_set Hb1.out (show w.heap.size ≤ w.heap.size + 1 + 1 by omega) 0 (.bool (false))) (show w.heap.size ≤ w.heap.size + 1 + 1 by omega) 2 (.bool (false)))
        have HS := Lib.hid ((HR1.out.far (show w.heap.size + 1 ≠ w.heap.size + 1 + 1 by omega) 0 (.bool (false))).far (show w.heap.size + 1 ≠ w.heap.size + 1 + 1 by omega) 2 (.bool (false)) |>.three ⟨false, N, false⟩)
        have HE := Lib.hid (below_three HE1.out (show w.heap.size ≤ w.heap.size + 1 by omega) (.bool (false)) (.bool N) (.bool (false)))
        clear hb1 hZ1
        go_wp2_with fail
        (try simp only [Exit.inBlock, Exit.then])
        refine bodyPost_ret (results_cell_row rfl _ _ (w.heap.size + 1) 37 #[.bool (false), .bool N, .bool (false)] (0, 0) _ rfl HS.out Tryd.underlying37 rfl (by kernel_rfl)) rfl ?_
        rw [hR.out]
        exact ⟨rfl, HE.out⟩
    · cases hy1 : Op.bytesLess ms F
      · cases hy2 : Op.bytesLess F ls
        · have hq1 : ((St8 p).toList == [37]) = false := by rw [hpc, decide_eq_false hpp]
          clear hpc
          rw [hy1] at hl1
          rw [hy2] at hl2
          obtain ⟨N, hN⟩ : ∃ N, decide (0 < nu) = N := ⟨_, rfl⟩
          have hR : Hid (R = ⟨true, N, true⟩) := by
            show _ = _
            rw [hv.out, decide_eq_true h3, ← hN]
            simp [hpp, hy1, hy2]
          clear hv
          have hW0 : (((w.alloc (.cells #[.int .u8 lk, .int .i64 ln, .string (St8 ls), .int .u8 mk, .int .i64 mn, .string (St8 ms), .int .i64 nu, .int .i64 ma] 62)).alloc (.cells #[.bool (false), .bool (false), .bool (false)] 37)).alloc (.cells #[.bool (false), .bool (decide (0 < nu)), .bool (false)] 37)).heap.size = w.heap.size + 3 := by rw [World.size_alloc, World.size_alloc, World.size_alloc]
          have hbW : Below w.heap.size w (((w.alloc (.cells #[.int .u8 lk, .int .i64 ln, .string (St8 ls), .int .u8 mk, .int .i64 mn, .string (St8 ms), .int .i64 nu, .int .i64 ma] 62)).alloc (.cells #[.bool (false), .bool (false), .bool (false)] 37)).alloc (.cells #[.bool (false), .bool (decide (0 < nu)), .bool (false)] 37)) := ((((Below.refl _ _).alloc (Nat.le_refl _) _).alloc (by rw [World.size_alloc]; omega) _).alloc (by rw [World.size_alloc, World.size_alloc]; omega) _)
          have hzW := hbW.size
          have HZ : Hid (Blk (((w.alloc (.cells #[.int .u8 lk, .int .i64 ln, .string (St8 ls), .int .u8 mk, .int .i64 mn, .string (St8 ms), .int .i64 nu, .int .i64 ma] 62)).alloc (.cells #[.bool (false), .bool (false), .bool (false)] 37)).alloc (.cells #[.bool (false), .bool (decide (0 < nu)), .bool (false)] 37)) (w.heap.size) 62 [.int .u8 lk, .int .i64 ln, .string (St8 ls), .int .u8 mk, .int .i64 mn, .string (St8 ms), .int .i64 nu, .int .i64 ma]) := ((Blk.new w 62 #[.int .u8 lk, .int .i64 ln, .string (St8 ls), .int .u8 mk, .int .i64 mn, .string (St8 ms), .int .i64 nu, .int .i64 ma]).alloc _).alloc _
          have HO : Hid (T3At (((w.alloc (.cells #[.int .u8 lk, .int .i64 ln, .string (St8 ls), .int .u8 mk, .int .i64 mn, .string (St8 ms), .int .i64 nu, .int .i64 ma] 62)).alloc (.cells #[.bool (false), .bool (false), .bool (false)] 37)).alloc (.cells #[.bool (false), .bool (decide (0 < nu)), .bool (false)] 37)) (w.heap.size + 1 + 1) 37 ⟨false, decide (0 < nu), false⟩) := by
            have h := T3At.new ((w.alloc (.cells #[.int .u8 lk, .int .i64 ln, .string (St8 ls), .int .u8 mk, .int .i64 mn, .string (St8 ms), .int .i64 nu, .int .i64 ma] 62)).alloc (.cells #[.bool (false), .bool (false), .bool (false)] 37)) 37 ⟨false, decide (0 < nu), false⟩
            rw [World.size_alloc, World.size_alloc] at h
            exact h
          have HR : Hid (T3At (((w.alloc (.cells #[.int .u8 lk, .int .i64 ln, .string (St8 ls), .int .u8 mk, .int .i64 mn, .string (St8 ms), .int .i64 nu, .int .i64 ma] 62)).alloc (.cells #[.bool (false), .bool (false), .bool (false)] 37)).alloc (.cells #[.bool (false), .bool (decide (0 < nu)), .bool (false)] 37)) (w.heap.size + 1) 37 ⟨false, false, false⟩) := by
            have h := (T3At.new (w.alloc (.cells #[.int .u8 lk, .int .i64 ln, .string (St8 ls), .int .u8 mk, .int .i64 mn, .string (St8 ms), .int .i64 nu, .int .i64 ma] 62)) 37 ⟨false, false, false⟩).alloc (.cells #[.bool (false), .bool (decide (0 < nu)), .bool (false)] 37)
            rw [World.size_alloc] at h
            exact h
          have hfw := hfi.out _ hbW
          generalize hW : (((w.alloc (.cells #[.int .u8 lk, .int .i64 ln, .string (St8 ls), .int .u8 mk, .int .i64 mn, .string (St8 ms), .int .i64 nu, .int .i64 ma] 62)).alloc (.cells #[.bool (false), .bool (false), .bool (false)] 37)).alloc (.cells #[.bool (false), .bool (decide (0 < nu)), .bool (false)] 37)) = W at *
          have HW := Lib.hid hW
          have HO : Hid (T3At W (w.heap.size + 1 + 1) 37 ⟨false, N, false⟩) := by
            have h := HO.out
            rw [hN] at h
            exact h
          have Hfw := Lib.hid hfw
          have HbW := Lib.hid hbW
          clear hW hbW hfi hfw hN hpp
          go_enter Tryd.func74, Tryd.ntmps74
          go_wp2_with fail
          rw [HW.out]
          refine Hfw.out.mono ?_
          rintro e w1 ⟨⟨eb, rfl⟩, hb1⟩
          have Hb1 := Lib.hid (HbW.out.trans (hb1.mono HbW.out.size))
          have HQ := Lib.hid hb1
          have HO1 := Lib.hid (HO.out.below hb1)
          obtain ⟨o0, o1, o2⟩ := HO1.out.cells
          have oF := fun i => HO1.out.frozen i
          have hZ1 := HZ.out.below hb1
          have z2 := hZ1.cell 2
          have z5 := hZ1.cell 5
          simp only [List.getElem?_cons_zero, List.getElem?_cons_succ] at z2 z5
          have HR1 := Lib.hid (HR.out.below HQ.out)
          obtain ⟨r0, r1, r2⟩ := HR1.out.cells
          have rF := fun i => HR1.out.frozen i
          have HS0 := Lib.hid (HO1.out.set0 (true))
          have HS1 : Hid (T3At ((w1.setCell ⟨w.heap.size + 1 + 1, 0, none⟩ (.bool (true))).setCell ⟨w.heap.size + 1 + 1, 2, none⟩ (.bool (true))) (w.heap.size + 1 + 1) 37 ⟨true, N, true⟩) := HS0.out.set2 (true)
          have HE1 := Lib.hid (below_set (below_set Hb1.out (show w.heap.size ≤ w.heap.size + 1 + 1 by omega) 0 (.bool (true))) (show w.heap.size ≤ w.heap.size + 1 + 1 by omega) 2 (.bool (true)))
          have HS := Lib.hid ((HR1.out.far (show w.heap.size + 1 ≠ w.heap.size + 1 + 1 by omega) 0 (.bool (true))).far (show w.heap.size + 1 ≠ w.heap.size + 1 + 1 by omega) 2 (.bool (true)) |>.three ⟨true, N, true⟩)
          have HE := Lib.hid (below_three HE1.out (show w.heap.size ≤ w.heap.size + 1 by omega) (.bool (true)) (.bool N) (.bool (true)))
          clear hb1 hZ1
          go_wp2_with fail
          (try simp only [Exit.inBlock, Exit.then])
          refine bodyPost_ret (results_cell_row rfl _ _ (w.heap.size + 1) 37 #[.bool (true), .bool N, .bool (true)] (0, 0) _ rfl HS.out Tryd.underlying37 rfl (by kernel_rfl)) rfl ?_
          rw [hR.out]
          exact ⟨rfl, HE.out⟩
        · have hq1 : ((St8 p).toList == [37]) = false := by rw [hpc, decide_eq_false hpp]
          clear hpc
          rw [hy1] at hl1
          rw [hy2] at hl2
          obtain ⟨N, hN⟩ : ∃ N, decide (0 < nu) = N := ⟨_, rfl⟩
          have hR : Hid (R = ⟨true, N, decide (F <+: ls)⟩) := by
            show _ = _
            rw [hv.out, decide_eq_true h3, ← hN]
            simp [hpp, hy1, hy2]
          clear hv
          have hW0 : (((w.alloc (.cells #[.int .u8 lk, .int .i64 ln, .string (St8 ls), .int .u8 mk, .int .i64 mn, .string (St8 ms), .int .i64 nu, .int .i64 ma] 62)).alloc (.cells #[.bool (false), .bool (false), .bool (false)] 37)).alloc (.cells #[.bool (false), .bool (decide (0 < nu)), .bool (false)] 37)).heap.size = w.heap.size + 3 := by rw [World.size_alloc, World.size_alloc, World.size_alloc]
          have hbW : Below w.heap.size w (((w.alloc (.cells #[.int .u8 lk, .int .i64 ln, .string (St8 ls), .int .u8 mk, .int .i64 mn, .string (St8 ms), .int .i64 nu, .int .i64 ma] 62)).alloc (.cells #[.bool (false), .bool (false), .bool (false)] 37)).alloc (.cells #[.bool (false), .bool (decide (0 < nu)), .bool (false)] 37)) := ((((Below.refl _ _).alloc (Nat.le_refl _) _).alloc (by rw [World.size_alloc]; omega) _).alloc (by rw [World.size_alloc, World.size_alloc]; omega) _)
          have hzW := hbW.size
          have HZ : Hid (Blk (((w.alloc (.cells #[.int .u8 lk, .int .i64 ln, .string (St8 ls), .int .u8 mk, .int .i64 mn, .string (St8 ms), .int .i64 nu, .int .i64 ma] 62)).alloc (.cells #[.bool (false), .bool (false), .bool (false)] 37)).alloc (.cells #[.bool (false), .bool (decide (0 < nu)), .bool (false)] 37)) (w.heap.size) 62 [.int .u8 lk, .int .i64 ln, .string (St8 ls), .int .u8 mk, .int .i64 mn, .string (St8 ms), .int .i64 nu, .int .i64 ma]) := ((Blk.new w 62 #[.int .u8 lk, .int .i64 ln, .string (St8 ls), .int .u8 mk, .int .i64 mn, .string (St8 ms), .int .i64 nu, .int .i64 ma]).alloc _).alloc _
          have HO : Hid (T3At (((w.alloc (.cells #[.int .u8 lk, .int .i64 ln, .string (St8 ls), .int .u8 mk, .int .i64 mn, .string (St8 ms), .int .i64 nu, .int .i64 ma] 62)).alloc (.cells #[.bool (false), .bool (false), .bool (false)] 37)).alloc (.cells #[.bool (false), .bool (decide (0 < nu)), .bool (false)] 37)) (w.heap.size + 1 + 1) 37 ⟨false, decide (0 < nu), false⟩) := by
            have h := T3At.new ((w.alloc (.cells #[.int .u8 lk, .int .i64 ln, .string (St8 ls), .int .u8 mk, .int .i64 mn, .string (St8 ms), .int .i64 nu, .int .i64 ma] 62)).alloc (.cells #[.bool (false), .bool (false), .bool (false)] 37)) 37 ⟨false, decide (0 < nu), false⟩
            rw [World.size_alloc, World.size_alloc] at h
            exact h
          have HR : Hid (T3At (((w.alloc (.cells #[.int .u8 lk, .int .i64 ln, .string (St8 ls), .int .u8 mk, .int .i64 mn, .string (St8 ms), .int .i64 nu, .int .i64 ma] 62)).alloc (.cells #[.bool (false), .bool (false), .bool (false)] 37)).alloc (.cells #[.bool (false), .bool (decide (0 < nu)), .bool (false)] 37)) (w.heap.size + 1) 37 ⟨false, false, false⟩) := by
            have h := (T3At.new (w.alloc (.cells #[.int .u8 lk, .int .i64 ln, .string (St8 ls), .int .u8 mk, .int .i64 mn, .string (St8 ms), .int .i64 nu, .int .i64 ma] 62)) 37 ⟨false, false, false⟩).alloc (.cells #[.bool (false), .bool (decide (0 < nu)), .bool (false)] 37)
            rw [World.size_alloc] at h
            exact h
          have hfw := hfi.out _ hbW
          generalize hW : (((w.alloc (.cells #[.int .u8 lk, .int .i64 ln, .string (St8 ls), .int .u8 mk, .int .i64 mn, .string (St8 ms), .int .i64 nu, .int .i64 ma] 62)).alloc (.cells #[.bool (false), .bool (false), .bool (false)] 37)).alloc (.cells #[.bool (false), .bool (decide (0 < nu)), .bool (false)] 37)) = W at *
          have HW := Lib.hid hW
          have HO : Hid (T3At W (w.heap.size + 1 + 1) 37 ⟨false, N, false⟩) := by
            have h := HO.out
            rw [hN] at h
            exact h
          have Hfw := Lib.hid hfw
          have HbW := Lib.hid hbW
          clear hW hbW hfi hfw hN hpp
          go_enter Tryd.func74, Tryd.ntmps74
          go_wp2_with fail
          rw [HW.out]
          refine Hfw.out.mono ?_
          rintro e w1 ⟨⟨eb, rfl⟩, hb1⟩
          have Hb1 := Lib.hid (HbW.out.trans (hb1.mono HbW.out.size))
          have HQ := Lib.hid hb1
          have HO1 := Lib.hid (HO.out.below hb1)
          obtain ⟨o0, o1, o2⟩ := HO1.out.cells
          have oF := fun i => HO1.out.frozen i
          have hZ1 := HZ.out.below hb1
          have z2 := hZ1.cell 2
          have z5 := hZ1.cell 5
          simp only [List.getElem?_cons_zero, List.getElem?_cons_succ] at z2 z5
          have HR1 := Lib.hid (HR.out.below HQ.out)
          obtain ⟨r0, r1, r2⟩ := HR1.out.cells
          have rF := fun i => HR1.out.frozen i
          have HS0 := Lib.hid (HO1.out.set0 (true))
          have HS1 : Hid (T3At ((w1.setCell ⟨w.heap.size + 1 + 1, 0, none⟩ (.bool (true))).setCell ⟨w.heap.size + 1 + 1, 2, none⟩ (.bool (decide (F <+: ls)))) (w.heap.size + 1 + 1) 37 ⟨true, N, decide (F <+: ls)⟩) := HS0.out.set2 (decide (F <+: ls))
          have HE1 := Lib.hid (below_set (below_set Hb1.out (show w.heap.size ≤ w.heap.size + 1 + 1 by omega) 0 (.bool (true))) (show w.heap.size ≤ w.heap.size + 1 + 1 by omega) 2 (.bool (decide (F <+: ls))))
          have HS := Lib.hid ((HR1.out.far (show w.heap.size + 1 ≠ w.heap.size + 1 + 1 by omega) 0 (.bool (true))).far (show w.heap.size + 1 ≠ w.heap.size + 1 + 1 by omega) 2 (.bool (decide (F <+: ls))) |>.three ⟨true, N, decide (F <+: ls)⟩)
          have HE := Lib.hid (below_three HE1.out (show w.heap.size ≤ w.heap.size + 1 by omega) (.bool (true)) (.bool N) (.bool (decide (F <+: ls))))
          clear hb1 hZ1
          go_wp2_with fail
          refine (hbe.out _ _ _).mono ?_
          rintro e w2 ⟨rfl, rfl⟩
          go_wp2_with fail
          (try simp only [Exit.inBlock, Exit.then])
          refine bodyPost_ret (results_cell_row rfl _ _ (w.heap.size + 1) 37 #[.bool (true), .bool N, .bool (decide (F <+: ls))] (0, 0) _ rfl HS.out Tryd.underlying37 rfl (by kernel_rfl)) rfl ?_
          rw [hR.out]
          exact ⟨rfl, HE.out⟩
      · have hq1 : ((St8 p).toList == [37]) = false := by rw [hpc, decide_eq_false hpp]
        clear hpc
        rw [hy1] at hl1
        clear hl2
        obtain ⟨N, hN⟩ : ∃ N, decide (0 < nu) = N := ⟨_, rfl⟩
        have hR : Hid (R = ⟨true, N, false⟩) := by
          show _ = _
          rw [hv.out, decide_eq_true h3, ← hN]
          simp [hpp, hy1]
        clear hv
        have hW0 : (((w.alloc (.cells #[.int .u8 lk, .int .i64 ln, .string (St8 ls), .int .u8 mk, .int .i64 mn, .string (St8 ms), .int .i64 nu, .int .i64 ma] 62)).alloc (.cells #[.bool (false), .bool (false), .bool (false)] 37)).alloc (.cells #[.bool (false), .bool (decide (0 < nu)), .bool (false)] 37)).heap.size = w.heap.size + 3 := by rw [World.size_alloc, World.size_alloc, World.size_alloc]
        have hbW : Below w.heap.size w (((w.alloc (.cells #[.int .u8 lk, .int .i64 ln, .string (St8 ls), .int .u8 mk, .int .i64 mn, .string (St8 ms), .int .i64 nu, .int .i64 ma] 62)).alloc (.cells #[.bool (false), .bool (false), .bool (false)] 37)).alloc (.cells #[.bool (false), .bool (decide (0 < nu)), .bool (false)] 37)) := ((((Below.refl _ _).alloc (Nat.le_refl _) _).alloc (by rw [World.size_alloc]; omega) _).alloc (by rw [World.size_alloc, World.size_alloc]; omega) _)
        have hzW := hbW.size
        have HZ : Hid (Blk (((w.alloc (.cells #[.int .u8 lk, .int .i64 ln, .string (St8 ls), .int .u8 mk, .int .i64 mn, .string (St8 ms), .int .i64 nu, .int .i64 ma] 62)).alloc (.cells #[.bool (false), .bool (false), .bool (false)] 37)).alloc (.cells #[.bool (false), .bool (decide (0 < nu)), .bool (false)] 37)) (w.heap.size) 62 [.int .u8 lk, .int .i64 ln, .string (St8 ls), .int .u8 mk, .int .i64 mn, .string (St8 ms), .int .i64 nu, .int .i64 ma]) := ((Blk.new w 62 #[.int .u8 lk, .int .i64 ln, .string (St8 ls), .int .u8 mk, .int .i64 mn, .string (St8 ms), .int .i64 nu, .int .i64 ma]).alloc _).alloc _
        have HO : Hid (T3At (((w.alloc (.cells #[.int .u8 lk, .int .i64 ln, .string (St8 ls), .int .u8 mk, .int .i64 mn, .string (St8 ms), .int .i64 nu, .int .i64 ma] 62)).alloc (.cells #[.bool (false), .bool (false), .bool (false)] 37)).alloc (.cells #[.bool (false), .bool (decide (0 < nu)), .bool (false)] 37)) (w.heap.size + 1 + 1) 37 ⟨false, decide (0 < nu), false⟩) := by
          have h := T3At.new ((w.alloc (.cells #[.int .u8 lk, .int .i64 ln, .string (St8 ls), .int .u8 mk, .int .i64 mn, .string (St8 ms), .int .i64 nu, .int .i64 ma] 62)).alloc (.cells #[.bool (false), .bool (false), .bool (false)] 37)) 37 ⟨false, decide (0 < nu), false⟩
          rw [World.size_alloc, World.size_alloc] at h
          exact h
        have HR : Hid (T3At (((w.alloc (.cells #[.int .u8 lk, .int .i64 ln, .string (St8 ls), .int .u8 mk, .int .i64 mn, .string (St8 ms), .int .i64 nu, .int .i64 ma] 62)).alloc (.cells #[.bool (false), .bool (false), .bool (false)] 37)).alloc (.cells #[.bool (false), .bool (decide (0 < nu)), .bool (false)] 37)) (w.heap.size + 1) 37 ⟨false, false, false⟩) := by
          have h := (T3At.new (w.alloc (.cells #[.int .u8 lk, .int .i64 ln, .string (St8 ls), .int .u8 mk, .int .i64 mn, .string (St8 ms), .int .i64 nu, .int .i64 ma] 62)) 37 ⟨false, false, false⟩).alloc (.cells #[.bool (false), .bool (decide (0 < nu)), .bool (false)] 37)
          rw [World.size_alloc] at h
          exact h
        have hfw := hfi.out _ hbW
        generalize hW : (((w.alloc (.cells #[.int .u8 lk, .int .i64 ln, .string (St8 ls), .int .u8 mk, .int .i64 mn, .string (St8 ms), .int .i64 nu, .int .i64 ma] 62)).alloc (.cells #[.bool (false), .bool (false), .bool (false)] 37)).alloc (.cells #[.bool (false), .bool (decide (0 < nu)), .bool (false)] 37)) = W at *
        have HW := Lib.hid hW
        have HO : Hid (T3At W (w.heap.size + 1 + 1) 37 ⟨false, N, false⟩) := by
          have h := HO.out
          rw [hN] at h
          exact h
        have Hfw := Lib.hid hfw
        have HbW := Lib.hid hbW
        clear hW hbW hfi hfw hN hpp
        go_enter Tryd.func74, Tryd.ntmps74
        go_wp2_with fail
        rw [HW.out]
        refine Hfw.out.mono ?_
        rintro e w1 ⟨⟨eb, rfl⟩, hb1⟩
        have Hb1 := Lib.hid (HbW.out.trans (hb1.mono HbW.out.size))
        have HQ := Lib.hid hb1
        have HO1 := Lib.hid (HO.out.below hb1)
        obtain ⟨o0, o1, o2⟩ := HO1.out.cells
        have oF := fun i => HO1.out.frozen i
        have hZ1 := HZ.out.below hb1
        have z2 := hZ1.cell 2
        have z5 := hZ1.cell 5
        simp only [List.getElem?_cons_zero, List.getElem?_cons_succ] at z2 z5
        have HR1 := Lib.hid (HR.out.below HQ.out)
        obtain ⟨r0, r1, r2⟩ := HR1.out.cells
        have rF := fun i => HR1.out.frozen i
        have HS0 := Lib.hid (HO1.out.set0 (true))
        have HS1 : Hid (T3At ((w1.setCell ⟨w.heap.size + 1 + 1, 0, none⟩ (.bool (true))).setCell ⟨w.heap.size + 1 + 1, 2, none⟩ (.bool (false))) (w.heap.size + 1 + 1) 37 ⟨true, N, false⟩) := HS0.out.set2 (false)
        have HE1 := Lib.hid (below_set (below_set Hb1.out (show w.heap.size ≤ w.heap.size + 1 + 1 by omega) 0 (.bool (true))) (show w.heap.size ≤ w.heap.size + 1 + 1 by omega) 2 (.bool (false)))
        have HS := Lib.hid ((HR1.out.far (show w.heap.size + 1 ≠ w.heap.size + 1 + 1 by omega) 0 (.bool (true))).far (show w.heap.size + 1 ≠ w.heap.size + 1 + 1 by omega) 2 (.bool (false)) |>.three ⟨true, N, false⟩)
        have HE := Lib.hid (below_three HE1.out (show w.heap.size ≤ w.heap.size + 1 by omega) (.bool (true)) (.bool N) (.bool (false)))
        clear hb1 hZ1
        go_wp2_with fail
        (try simp only [Exit.inBlock, Exit.then])
        refine bodyPost_ret (results_cell_row rfl _ _ (w.heap.size + 1) 37 #[.bool (true), .bool N, .bool (false)] (0, 0) _ rfl HS.out Tryd.underlying37 rfl (by kernel_rfl)) rfl ?_
        rw [hR.out]
        exact ⟨rfl, HE.out⟩
  · have hR : Hid (R = ⟨false, decide (0 < nu), false⟩) := by
      show _ = _
      rw [hv.out, decide_eq_false h3]
      rfl
    clear hv hl1 hl2 hpc hfi hbe
    have hb : Blk (((w.alloc (.cells #[.int .u8 lk, .int .i64 ln, .string (St8 ls), .int .u8 mk, .int .i64 mn, .string (St8 ms), .int .i64 nu, .int .i64 ma] 62)).alloc (.cells #[.bool (false), .bool (decide (0 < nu)), .bool (false)] 37)).alloc (.cells #[.bool (false), .bool (decide (0 < nu)), .bool (false)] 37)) (w.heap.size + 1) 37 [.bool (false), .bool (decide (0 < nu)), .bool (false)] := by
      have h := (Blk.new (w.alloc (.cells #[.int .u8 lk, .int .i64 ln, .string (St8 ls), .int .u8 mk, .int .i64 mn, .string (St8 ms), .int .i64 nu, .int .i64 ma] 62)) 37 #[.bool (false), .bool (decide (0 < nu)), .bool (false)]).alloc (.cells #[.bool (false), .bool (decide (0 < nu)), .bool (false)] 37)
      rw [World.size_alloc] at h
      exact h
    have HB := Lib.hid hb
    have Hbe : Hid (Below w.heap.size w (((w.alloc (.cells #[.int .u8 lk, .int .i64 ln, .string (St8 ls), .int .u8 mk, .int .i64 mn, .string (St8 ms), .int .i64 nu, .int .i64 ma] 62)).alloc (.cells #[.bool (false), .bool (decide (0 < nu)), .bool (false)] 37)).alloc (.cells #[.bool (false), .bool (decide (0 < nu)), .bool (false)] 37))) := ((((Below.refl _ _).alloc (Nat.le_refl _) _).alloc (by rw [World.size_alloc]; omega) _).alloc (by rw [World.size_alloc, World.size_alloc]; omega) _)
    clear hb
    go_enter Tryd.func74, Tryd.ntmps74
    go_wp2_with fail
    (try simp only [Exit.inBlock, Exit.then])
    refine bodyPost_ret (results_cell_row rfl _ _ (w.heap.size + 1) 37 #[.bool (false), .bool (decide (0 < nu)), .bool (false)] (0, 0) _ rfl HB.out Tryd.underlying37 rfl (by kernel_rfl)) rfl ?_
    rw [hR.out]
    exact ⟨rfl, Hbe.out⟩
end Go.Proofs.YtipnglidepfkbaaDoor
