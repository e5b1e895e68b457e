/- Walks: what is known of values (zone.Of). (Printed by gen_myw.py.) -/
import Derived.Test.YtipnglidepfkbaaDoorMMyV
import Derived.Test.YtipnglidepfkbaaDoorMGrB
namespace Go.Proofs.YtipnglidepfkbaaDoor
set_option linter.unusedVariables false
set_option linter.unusedSimpArgs false
open Go.RowKit

attribute [local go_sem ↓] Go.wp_at_zero Go.wp_at_succ

structure OfAt (w wr : World) (z : Zo) : Prop where
  r : ZB wr w.heap.size Zo.nil
  o : ZB wr (w.heap.size + 1) z
  below : Below w.heap.size w wr
theorem OfAt.keep {w wr w' : World} {z : Zo} (h : OfAt w wr z) (hb : Below wr.heap.size wr w') : OfAt w w' z :=
  ⟨h.r.below hb, h.o.below hb, h.below.trans (hb.mono h.below.size)⟩
theorem OfAt.put {w wr : World} {z : Zo} (h : OfAt w wr z) (y : Zo) : OfAt w (zset wr (w.heap.size + 1) y) y :=
  ⟨zset_blk h.r (by omega) y, h.o.set_ y, zset_below h.below (by omega) y⟩

set_option maxHeartbeats 4000000 in
set_option maxRecDepth 100000 in
theorem zof_c (l : List Va) (A : Option Addr) (n c : Nat) (w : World) (hl : l.length = n) (hA : Rd w A (rcells l)) (hn : n ≤ 1000000000) :
    Calls Tryd.prog 41 #[.slice A n c] w fun e w' => e = .returned (ofZ l).agg ∧ Below w.heap.size w w' := by
  have HA := Lib.hid hA
  have Hl := Lib.hid hl
  have hb2 : Below w.heap.size w ((w.alloc (.cells #[.int .u8 0, .int .i64 0, .string ⟨#[]⟩, .int .u8 0, .int .i64 0, .string ⟨#[]⟩, .int .i64 0, .int .i64 0] 62)).alloc (.cells #[.int .u8 0, .int .i64 0, .string ⟨#[]⟩, .int .u8 0, .int .i64 0, .string ⟨#[]⟩, .int .i64 0, .int .i64 0] 62)) := (((Below.refl _ _).alloc (Nat.le_refl _) _).alloc (by rw [World.size_alloc]; omega) _)
  have hx : ZB ((w.alloc (.cells #[.int .u8 0, .int .i64 0, .string ⟨#[]⟩, .int .u8 0, .int .i64 0, .string ⟨#[]⟩, .int .i64 0, .int .i64 0] 62)).alloc (.cells #[.int .u8 0, .int .i64 0, .string ⟨#[]⟩, .int .u8 0, .int .i64 0, .string ⟨#[]⟩, .int .i64 0, .int .i64 0] 62)) w.heap.size Zo.nil := (ZB.new w Zo.nil).alloc _
  have hy : ZB ((w.alloc (.cells #[.int .u8 0, .int .i64 0, .string ⟨#[]⟩, .int .u8 0, .int .i64 0, .string ⟨#[]⟩, .int .i64 0, .int .i64 0] 62)).alloc (.cells #[.int .u8 0, .int .i64 0, .string ⟨#[]⟩, .int .u8 0, .int .i64 0, .string ⟨#[]⟩, .int .i64 0, .int .i64 0] 62)) (w.heap.size + 1) Zo.nil := by
    have h := ZB.new (w.alloc (.cells #[.int .u8 0, .int .i64 0, .string ⟨#[]⟩, .int .u8 0, .int .i64 0, .string ⟨#[]⟩, .int .i64 0, .int .i64 0] 62)) Zo.nil
    rw [World.size_alloc] at h
    exact h
  have HO0 : Hid (OfAt w ((w.alloc (.cells #[.int .u8 0, .int .i64 0, .string ⟨#[]⟩, .int .u8 0, .int .i64 0, .string ⟨#[]⟩, .int .i64 0, .int .i64 0] 62)).alloc (.cells #[.int .u8 0, .int .i64 0, .string ⟨#[]⟩, .int .u8 0, .int .i64 0, .string ⟨#[]⟩, .int .i64 0, .int .i64 0] 62)) (ofZ [])) := ⟨hx, hy, hb2⟩
  clear hl hA hb2 hx hy
  go_enter Tryd.func41, Tryd.ntmps41
  go_wp2_with fail
  go_loopw [8] (fun v8 wr => ∃ j : Nat, v8 = .int .i64 (j : Int) ∧ j ≤ n ∧ Hid (OfAt w wr (ofZ (l.take j)))) (fun v8 _ => n - (intOf v8).toNat)
  case atStart => exact ⟨0, rfl, by omega, HO0⟩
  case round =>
    clear HO0
    obtain ⟨j, rfl, hj, HO⟩ := hrel
    by_cases hjn : j < n
    · have hjl : j < l.length := by rw [Hl.out]; exact hjn
      have hjI : (j : Int) < (n : Int) := by omega
      have hjI0 : (0 : Int) ≤ (j : Int) := by omega
      obtain ⟨vb, vo, rfl, c0, c1, c2⟩ := row_cells (HA.out.below HO.out.below) hjl
      have hts : l.take (j + 1) = l.take j ++ [l[j]] := List.take_succ_eq_append_getElem hjl
      have hnx : Hid (ofZ (l.take (j + 1)) = mergeZ (ofZ (l.take j)) (oneZ l[j])) := by show _ = _; rw [hts, ofZ_snoc]
      have hm1 := ofZ_many (l.take j)
      have hm2 := ofZ_nulls (l.take j)
      have hm3 := oneZ_many l[j]
      have hm4 := oneZ_nulls l[j]
      have htl : (l.take j).length = j := by rw [List.length_take]; omega
      rw [htl] at hm1 hm2
      have w1' : IntKind.i64.wrap ((ofZ (l.take j)).nulls + (oneZ l[j]).nulls) = (ofZ (l.take j)).nulls + (oneZ l[j]).nulls := by rw [IntKind.wrap_i64]; omega
      have w2' : IntKind.i64.wrap ((ofZ (l.take j)).many + (oneZ l[j]).many) = (ofZ (l.take j)).many + (oneZ l[j]).many := by rw [IntKind.wrap_i64]; omega
      have hone := Lib.hid (fun w' => zone_one l[j] w')
      have hmer := Lib.hid (fun w' => zmerge_any (ofZ (l.take j)) (oneZ l[j]) w' w1' w2')
      generalize mergeZ (ofZ (l.take j)) (oneZ l[j]) = N at *
      generalize oneZ l[j] = E at *
      generalize ofZ (l.take j) = z at *
      generalize l[j] = v at *
      obtain ⟨k, nn, s⟩ := v
      dsimp only at c0 c1 c2
      simp only [Va.agg_eq] at hone
      rw [Zo.agg_eq z] at hmer
      clear hts hm1 hm2 hm3 hm4 htl w1' w2' hjl
      have hbA : Below wr.heap.size wr (wr.alloc (.cells #[.int .u8 k, .int .i64 nn, .string (St8 s)] 44)) := (Below.refl _ _).alloc (Nat.le_refl _) _
      have hv := Blk.new wr 44 #[.int .u8 k, .int .i64 nn, .string (St8 s)]
      generalize hW : wr.alloc (.cells #[.int .u8 k, .int .i64 nn, .string (St8 s)] 44) = W at *
      have HW := Lib.hid hW
      have HbA := Lib.hid hbA
      have Hcc : Hid (∀ w', Below W.heap.size W w' → (w'.cell? ⟨wr.heap.size, 0, none⟩ = some (.int .u8 k) ∧ w'.cell? ⟨wr.heap.size, 1, none⟩ = some (.int .i64 nn) ∧ w'.cell? ⟨wr.heap.size, 2, none⟩ = some (.string (St8 s)))) := fun w' hb => ⟨(hv.below hb).cell 0, (hv.below hb).cell 1, (hv.below hb).cell 2⟩
      have HB := Lib.hid (show Below W.heap.size W W.drew from (Below.refl _ _).drew)
      have hcc := Hcc.out W.drew HB.out
      have HOd := Lib.hid (HO.out.keep (hbA.trans (HB.out.mono hbA.size)))
      obtain ⟨z0, z1, z2, z3, z4, z5, z6, z7⟩ := HOd.out.o.cells
      clear hW hv hbA
      go_wp2_with fail
      rw [HW.out]
      refine wp_region_held_drew (S := fun w' => w'.cell? ⟨wr.heap.size, 0, none⟩ = some (.int .u8 k) ∧ w'.cell? ⟨wr.heap.size, 1, none⟩ = some (.int .i64 nn) ∧ w'.cell? ⟨wr.heap.size, 2, none⟩ = some (.string (St8 s))) (by kernel_rfl) hcc (fun hHeld => ?_)
      (refine wpAnyH_take (i := 1) (oi := ?oi1_1) (v := ?vv1_1) ?hi1_1 (by kernel_rfl) (by kernel_rfl) (by kernel_rfl) ?hQ1_1 ?hy1_1 (by assumption) ?rest1_1; (case hi1_1 => ((simp only [List.getElem?_toArray, List.getElem?_cons_succ, List.getElem?_cons_zero]); rfl)); (case hQ1_1 => exact (fun _ _ _ h => h)); (case hy1_1 => (refine Or.inl ⟨by rfl, ?_⟩; intro w hSw; (try dsimp only at hSw); go_simp; try (with_reducible rfl))); (try simp only [Act.put, List.setIfInBounds_toArray, List.set_cons_zero, List.set_cons_succ]))
      (refine wpAnyH_ready (rs := [0, 2]) (by kernel_rfl) (by simp) ?_; refine AllReadyH.cons (o := ?ocz0_2) ?hoz0_2 (fun K hK => ?_) (AllReadyH.cons (o := ?odz0_2) ?hpz0_2 (fun K hK => ?_) AllReadyH.nil); (case hoz0_2 => ((simp only [List.getElem?_toArray, List.getElem?_cons_succ, List.getElem?_cons_zero]); rfl)); (case hpz0_2 => ((simp only [List.getElem?_toArray, List.getElem?_cons_succ, List.getElem?_cons_zero]); rfl)))
      · go_simp
        go_wp2_with fail
        refine hK.out _ _ hcc (fun hHeld => ?_)
        clear hK K
        (try simp only [Act.put, List.setIfInBounds_toArray, List.set_cons_zero, List.set_cons_succ])
        (refine wpAnyH_ready (rs := [2]) (by kernel_rfl) (by simp) ?_; refine AllReadyH.cons (o := ?oc2_3) ?ho2_3 (fun K hK => ?_) AllReadyH.nil; (case ho2_3 => ((simp only [List.getElem?_toArray, List.getElem?_cons_succ, List.getElem?_cons_zero]); rfl)); go_simp)
        go_at_call 66
        refine (hone.out _).mono ?_
        rintro e w2 ⟨rfl, hb2⟩
        have Hb2 := Lib.hid (HB.out.trans (hb2.mono HB.out.size))
        have hcc2 := Hcc.out w2 Hb2.out
        have HO2 := Lib.hid (HOd.out.keep hb2)
        clear hHeld hb2
        go_wp2_with fail
        refine hK.out _ _ hcc2 (fun hHeld => ?_)
        clear hK K
        (try simp only [Act.put, List.setIfInBounds_toArray, List.set_cons_zero, List.set_cons_succ])
        (refine wpAnyH_ready (rs := [3]) (by kernel_rfl) (by simp) ?_; refine AllReadyH.cons (o := ?oc3_4) ?ho3_4 (fun K hK => ?_) AllReadyH.nil; (case ho3_4 => ((simp only [List.getElem?_toArray, List.getElem?_cons_succ, List.getElem?_cons_zero]); rfl)); go_simp)
        go_at_call 65
        refine (hmer.out _).mono ?_
        rintro e w3 ⟨rfl, hb3⟩
        have Hb3 := Lib.hid (Hb2.out.trans (hb3.mono Hb2.out.size))
        have hcc3 := Hcc.out w3 Hb3.out
        have HO3 := Lib.hid (HO2.out.keep hb3)
        clear hHeld hb3
        go_wp2_with fail
        refine hK.out _ _ hcc3 (fun hHeld => ?_)
        clear hK K
        (try simp only [Act.put, List.setIfInBounds_toArray, List.set_cons_zero, List.set_cons_succ])
        obtain ⟨q0, q1, q2, q3, q4, q5, q6, q7⟩ := HO3.out.o.cells
        have qf := fun i => HO3.out.o.frozen i
        have HP := Lib.hid (HO3.out.put N)
        have hne : wr.heap.size ≠ w.heap.size + 1 := by
          have h1 := HO.out.o.lt
          omega
        have hcc4 : (fun w' => w'.cell? ⟨wr.heap.size, 0, none⟩ = some (.int .u8 k) ∧ w'.cell? ⟨wr.heap.size, 1, none⟩ = some (.int .i64 nn) ∧ w'.cell? ⟨wr.heap.size, 2, none⟩ = some (.string (St8 s))) (zset w3 (w.heap.size + 1) N) := ⟨zset_cell hcc3.1 hne _, zset_cell hcc3.2.1 hne _, zset_cell hcc3.2.2 hne _⟩
        have Hcc4 := Lib.hid hcc4
        rw [Zo.agg_eq N]
        clear hHeld hcc4 hcc3
        (refine wpAnyH_ready (rs := [4]) (by kernel_rfl) (by simp) ?_; refine AllReadyH.cons (o := ?oc4_5) ?ho4_5 (fun K hK => ?_) AllReadyH.nil; (case ho4_5 => ((simp only [List.getElem?_toArray, List.getElem?_cons_succ, List.getElem?_cons_zero]); rfl)); go_simp)
        go_wp2_with fail
        refine hK.out _ _ Hcc4.out (fun hHeld => ?_)
        clear hK K
        (try simp only [Act.put, List.setIfInBounds_toArray, List.set_cons_zero, List.set_cons_succ])
        refine wpAnyH_done (by kernel_rfl) ?_ _
        clear hHeld
        go_wp2_with fail
        go_roundw
        case rel => exact ⟨j + 1, by go_num, by omega, (by show OfAt w _ (ofZ (l.take (j + 1))); rw [hnx.out]; exact HP.out)⟩
        case measure => simp [intOf]; omega
      · go_simp
        go_at_call 66
        refine (hone.out _).mono ?_
        rintro e w2 ⟨rfl, hb2⟩
        have Hb2 := Lib.hid (HB.out.trans (hb2.mono HB.out.size))
        have hcc2 := Hcc.out w2 Hb2.out
        have HO2 := Lib.hid (HOd.out.keep hb2)
        clear hHeld hb2
        go_wp2_with fail
        refine hK.out _ _ hcc2 (fun hHeld => ?_)
        clear hK K
        (try simp only [Act.put, List.setIfInBounds_toArray, List.set_cons_zero, List.set_cons_succ])
        obtain ⟨y0, y1, y2, y3, y4, y5, y6, y7⟩ := HO2.out.o.cells
        (refine wpAnyH_ready (rs := [0]) (by kernel_rfl) (by simp) ?_; refine AllReadyH.cons (o := ?oc0_6) ?ho0_6 (fun K hK => ?_) AllReadyH.nil; (case ho0_6 => ((simp only [List.getElem?_toArray, List.getElem?_cons_zero]); rfl)); go_simp)
        go_wp2_with fail
        refine hK.out _ _ hcc2 (fun hHeld => ?_)
        clear hK K
        (try simp only [Act.put, List.setIfInBounds_toArray, List.set_cons_zero, List.set_cons_succ])
        (refine wpAnyH_ready (rs := [3]) (by kernel_rfl) (by simp) ?_; refine AllReadyH.cons (o := ?oc3_7) ?ho3_7 (fun K hK => ?_) AllReadyH.nil; (case ho3_7 => ((simp only [List.getElem?_toArray, List.getElem?_cons_succ, List.getElem?_cons_zero]); rfl)); go_simp)
        go_at_call 65
        refine (hmer.out _).mono ?_
        rintro e w3 ⟨rfl, hb3⟩
        have Hb3 := Lib.hid (Hb2.out.trans (hb3.mono Hb2.out.size))
        have hcc3 := Hcc.out w3 Hb3.out
        have HO3 := Lib.hid (HO2.out.keep hb3)
        clear hHeld hb3
        go_wp2_with fail
        refine hK.out _ _ hcc3 (fun hHeld => ?_)
        clear hK K
        (try simp only [Act.put, List.setIfInBounds_toArray, List.set_cons_zero, List.set_cons_succ])
        obtain ⟨q0, q1, q2, q3, q4, q5, q6, q7⟩ := HO3.out.o.cells
        have qf := fun i => HO3.out.o.frozen i
        have HP := Lib.hid (HO3.out.put N)
        have hne : wr.heap.size ≠ w.heap.size + 1 := by
          have h1 := HO.out.o.lt
          omega
        have hcc4 : (fun w' => w'.cell? ⟨wr.heap.size, 0, none⟩ = some (.int .u8 k) ∧ w'.cell? ⟨wr.heap.size, 1, none⟩ = some (.int .i64 nn) ∧ w'.cell? ⟨wr.heap.size, 2, none⟩ = some (.string (St8 s))) (zset w3 (w.heap.size + 1) N) := ⟨zset_cell hcc3.1 hne _, zset_cell hcc3.2.1 hne _, zset_cell hcc3.2.2 hne _⟩
        have Hcc4 := Lib.hid hcc4
        rw [Zo.agg_eq N]
        clear hHeld hcc4 hcc3
        (refine wpAnyH_ready (rs := [4]) (by kernel_rfl) (by simp) ?_; refine AllReadyH.cons (o := ?oc4_8) ?ho4_8 (fun K hK => ?_) AllReadyH.nil; (case ho4_8 => ((simp only [List.getElem?_toArray, List.getElem?_cons_succ, List.getElem?_cons_zero]); rfl)); go_simp)
        go_wp2_with fail
        refine hK.out _ _ Hcc4.out (fun hHeld => ?_)
        clear hK K
        (try simp only [Act.put, List.setIfInBounds_toArray, List.set_cons_zero, List.set_cons_succ])
        refine wpAnyH_done (by kernel_rfl) ?_ _
        clear hHeld
        go_wp2_with fail
        go_roundw
        case rel => exact ⟨j + 1, by go_num, by omega, (by show OfAt w _ (ofZ (l.take (j + 1))); rw [hnx.out]; exact HP.out)⟩
        case measure => simp [intOf]; omega
    · obtain rfl : j = n := by omega
      have hfin : l.take j = l := List.take_of_length_le (by rw [Hl.out]; omega)
      rw [hfin] at HO
      obtain ⟨z0, z1, z2, z3, z4, z5, z6, z7⟩ := HO.out.o.cells
      obtain ⟨r0, r1, r2, r3, r4, r5, r6, r7⟩ := HO.out.r.cells
      have rF := fun i => HO.out.r.frozen i
      obtain ⟨z, hz⟩ : ∃ z, ofZ l = z := ⟨_, rfl⟩
      rw [hz] at HO z0 z1 z2 z3 z4 z5 z6 z7
      have Hz := Lib.hid hz
      clear hz
      have HS := Lib.hid (HO.out.r.set_ z)
      have HE := Lib.hid (zset_below HO.out.below (Nat.le_refl w.heap.size) z)
      clear hfin
      go_wp2_with fail
      (try simp only [Exit.inBlock, Exit.then])
      refine bodyPost_ret (results_cell_row rfl _ _ w.heap.size 62 #[.int .u8 z.least.k, .int .i64 z.least.n, .string (St8 z.least.s), .int .u8 z.most.k, .int .i64 z.most.n, .string (St8 z.most.s), .int .i64 z.nulls, .int .i64 z.many] (0, 0) _ rfl HS.out Tryd.underlying62 rfl (by kernel_rfl)) rfl ?_
      rw [Hz.out]
      exact ⟨rfl, HE.out⟩
end Go.Proofs.YtipnglidepfkbaaDoor
