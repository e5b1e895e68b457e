/- Walks: what comes of a row (ask.Eval), part by part. Walks: ask.Eval. -/
import Derived.Test.YtipnglidepfkbaaDoorMGrP
import Derived.Test.YtipnglidepfkbaaDoorMGrQ
import Derived.Deep.RegionHeld3
import Derived.Laws.EntriesVeiled
namespace Go.Proofs.YtipnglidepfkbaaDoor
set_option linter.unusedVariables false
set_option linter.unusedSimpArgs false
open Go.RowKit

attribute [local go_sem ↓] Go.wp_at_zero Go.wp_at_succ

/-- What the closure that goes from part to part holds. -/
structure EvAt (w : World) (lb rb pb : Nat) (L X : Option Addr) (n c rn rc : Nat) (l : List Nd) (r : RowM) : Prop where
  cl : w.cell? ⟨lb, 0, none⟩ = some (.slice L n c)
  cr : w.cell? ⟨rb, 0, none⟩ = some (.slice X rn rc)
  cp : w.cell? ⟨pb, 0, none⟩ = some (.func (Fn.func 28) #[] #[.pointer (some ⟨lb, 0, none⟩), .pointer (some ⟨rb, 0, none⟩), .pointer (some ⟨pb, 0, none⟩)])
  rl : Rd w L (ncells l)
  rr : Rd w X (rcells r)
theorem EvAt.below {w w' : World} {lb rb pb n c rn rc : Nat} {L X : Option Addr} {l : List Nd} {r : RowM} (h : EvAt w lb rb pb L X n c rn rc l r) (hb : Below w.heap.size w w') : EvAt w' lb rb pb L X n c rn rc l r :=
  ⟨cell_keep hb h.cl, cell_keep hb h.cr, cell_keep hb h.cp, h.rl.below hb, h.rr.below hb⟩

theorem drop_suffix {l p t : List Nd} {i n : Nat} (hl : l.length = n) (hi : i ≤ n) (h : l.drop i = p ++ t) : l.drop (n - t.length) = t ∧ n - t.length ≤ n ∧ t.length ≤ n := by
  have e : l = (l.take i ++ p) ++ t := by rw [List.append_assoc, ← h, List.take_append_drop]
  have hlen := congrArg List.length e
  rw [List.length_append, hl] at hlen
  refine ⟨?_, by omega, by omega⟩
  rw [e, List.drop_append_of_le_length (by omega), List.drop_eq_nil_of_le (by omega), List.nil_append]

theorem colAt_get {r : RowM} {cj : Nat} (h : cj < r.length) : colAt r (cj : Int) = r[cj] := by
  unfold colAt
  rw [if_neg (by omega), Int.toNat_natCast, List.getD, List.getElem?_eq_getElem h]
  rfl

theorem fine_op {cols : Nat} {x : Nd} (h : fineN cols x = true) : 1 ≤ x.op ∧ x.op ≤ 8 := by
  unfold fineN at h
  simp only [Bool.and_eq_true, decide_eq_true_eq] at h
  exact h.1.1
theorem fine_col {cols : Nat} {x : Nd} (h : fineN cols x = true) (ha : x.asks = true) : 0 ≤ x.col ∧ x.col < (cols : Int) := by
  unfold fineN at h
  rw [ha] at h
  simp only [Bool.true_and, Bool.and_eq_true, Bool.not_eq_true', decide_eq_false_iff_not] at h
  have := h.1.2
  omega
theorem ask_none {n : Nd} (h : n.asks = false) : ¬ (5 ≤ n.op ∧ n.op ≤ 8) := by
  unfold Nd.asks at h
  exact of_decide_eq_false h

set_option maxHeartbeats 16000000 in
set_option maxRecDepth 100000 in
theorem part_c (lb rb pb : Nat) (L X : Option Addr) (n c rn rc : Nat) (l : List Nd) (r : RowM) (hl : l.length = n) (hr : r.length = rn) (hn : n ≤ 1000) (hrn : rn ≤ 1000000) (hfine : ∀ x ∈ l, fineN rn x = true) (hs1 : ∀ x ∈ l, x.v.s.length ≤ 1000000) (hs2 : ∀ x ∈ r, x.s.length ≤ 1000000) :
    ∀ (f i : Nat) (x : Int) (t' : List Nd) (w : World), EvAt w lb rb pb L X n c rn rc l r → i ≤ n → ev r f (l.drop i) = some (x, t') →
      Calls Tryd.prog 28 #[.int .i64 (i : Int), .pointer (some ⟨lb, 0, none⟩), .pointer (some ⟨rb, 0, none⟩), .pointer (some ⟨pb, 0, none⟩)] w fun e w' => e = .returned (.tuple #[.int .u8 x, .int .i64 ((n - t'.length : Nat) : Int)]) ∧ Below w.heap.size w w' := by
  intro f
  induction f with
  | zero =>
    intro i x t' w hE hi h
    rw [ev] at h
    cases h
  | succ f ih =>
    intro i x t' w hE hi h
    by_cases hin : i < n
    · have hil : i < l.length := by rw [hl]; exact hin
      have hdr := List.drop_eq_getElem_cons hil
      rw [hdr, ev] at h
      have hg := List.getElem?_eq_getElem hil
      obtain ⟨b, o, hLe, c0, c1, c2, c3, c4, c5⟩ := node_cells hE.rl hg
      have hfi := hfine l[i] (List.getElem_mem hil)
      have hsx := hs1 l[i] (List.getElem_mem hil)
      have has := Lib.hid (fun w' => asks_any l[i] w')
      have hki := Lib.hid (fun w' => kids_any l[i] w')
      have hle := Lib.hid (fun v w' (hv : v.s.length ≤ 1000000) => leaf_c l[i] v w' hsx hv)
      have hcl := hE.cl
      have hcr := hE.cr
      have hdl : (l.drop (i + 1)).length = n - (i + 1) := by rw [List.length_drop, hl]
      generalize l[i] = nd at *
      subst hLe
      have Hih := Lib.hid ih
      have HE := Lib.hid hE
      have Hl := Lib.hid hl
      have hiI0 : (0 : Int) ≤ (i : Int) := by omega
      have hiI : (i : Int) < (n : Int) := by omega
      have hfop := fine_op hfi
      by_cases ha : nd.asks = true
      · rw [if_pos ha] at h
        cases h
        rw [ha] at has
        obtain ⟨hc0, hc1⟩ := fine_col hfi ha
        obtain ⟨cj, hcj⟩ := Int.eq_ofNat_of_zero_le hc0
        have hcr1 : cj < r.length := by rw [hr]; omega
        rw [hcj, colAt_get hcr1]
        obtain ⟨b2, o2, hXe, v0, v1, v2⟩ := row_cells hE.rr hcr1
        have hv2 := hs2 r[cj] (List.getElem_mem hcr1)
        have hlf := Lib.hid (fun w' => hle.out r[cj] w' hv2)
        have Hdl := Lib.hid hdl
        clear hle
        generalize leafM nd r[cj] = R at *
        generalize r[cj] = v at *
        subst hXe
        obtain ⟨op, col, kids, k, nn, s⟩ := nd
        obtain ⟨k', n', s'⟩ := v
        unfold Nd.agg at has hlf
        unfold Va.agg at hlf
        dsimp only at c0 c1 c2 c3 c4 c5 v0 v1 v2 has hlf hcj
        subst hcj
        have hcjI0 : (0 : Int) ≤ (cj : Int) := by omega
        have hcjI : (cj : Int) < (rn : Int) := by omega
        have hb0 : Below w.heap.size w (w.alloc (.cells #[.int .u8 op, .int .i64 (cj : Int), .int .i64 kids, .int .u8 k, .int .i64 nn, .string (St8 s)] 46)) := (Below.refl _ _).alloc (Nat.le_refl _) _
        have hbl := Blk.new w 46 #[.int .u8 op, .int .i64 (cj : Int), .int .i64 kids, .int .u8 k, .int .i64 nn, .string (St8 s)]
        have Hc : Hid (∀ w', Below (w.alloc (.cells #[.int .u8 op, .int .i64 (cj : Int), .int .i64 kids, .int .u8 k, .int .i64 nn, .string (St8 s)] 46)).heap.size (w.alloc (.cells #[.int .u8 op, .int .i64 (cj : Int), .int .i64 kids, .int .u8 k, .int .i64 nn, .string (St8 s)] 46)) w' → (w'.cell? ⟨rb, 0, none⟩ = some (.slice (some ⟨b2, o2, none⟩) rn rc) ∧ w'.cell? ⟨w.heap.size, 0, none⟩ = some (.int .u8 op) ∧ w'.cell? ⟨w.heap.size, 1, none⟩ = some (.int .i64 (cj : Int)) ∧ w'.cell? ⟨w.heap.size, 2, none⟩ = some (.int .i64 kids) ∧ w'.cell? ⟨w.heap.size, 3, none⟩ = some (.int .u8 k) ∧ w'.cell? ⟨w.heap.size, 4, none⟩ = some (.int .i64 nn) ∧ w'.cell? ⟨w.heap.size, 5, none⟩ = some (.string (St8 s)) ∧ w'.cell? ⟨b2, o2 + cj * 3, none⟩ = some (.int .u8 k') ∧ w'.cell? ⟨b2, o2 + cj * 3 + 1, none⟩ = some (.int .i64 n') ∧ w'.cell? ⟨b2, o2 + cj * 3 + 2, none⟩ = some (.string (St8 s'))) ∧ Hid (Below w.heap.size w w')) := fun w' hb => ⟨⟨cell_keep (hb0.trans (hb.mono hb0.size)) hcr, (hbl.below hb).cell 0, (hbl.below hb).cell 1, (hbl.below hb).cell 2, (hbl.below hb).cell 3, (hbl.below hb).cell 4, (hbl.below hb).cell 5, cell_keep (hb0.trans (hb.mono hb0.size)) v0, cell_keep (hb0.trans (hb.mono hb0.size)) v1, cell_keep (hb0.trans (hb.mono hb0.size)) v2⟩, hb0.trans (hb.mono hb0.size)⟩
        clear hbl hb0 v0 v1 v2 hcr HE hE hfi hfine hs1 hs2 hg hdr hil ih hsx hv2 hcr1 hc0 hc1 hki Hih hdl hfop
        go_enter Tryd.func28, Tryd.ntmps28
        go_wp2_with fail
        refine (has.out _).mono ?_
        rintro e w1 ⟨rfl, hb1⟩
        have hx1 := (Hc.out w1 hb1).1
        have hbd := hb1.trans (Below.mono (show Below w1.heap.size w1 w1.drew from (Below.refl _ _).drew) hb1.size)
        have hx2 := (Hc.out w1.drew hbd).1
        have Hb1 := Lib.hid hbd
        clear hb1 hbd c0 c1 c2 c3 c4 c5 hcl
        obtain ⟨g, d0, d1, d2, d3, d4, d5, u0, u1, u2⟩ := hx1
        go_wp2_with fail
        go_region_held3 (fun w' => w'.cell? ⟨rb, 0, none⟩ = some (.slice (some ⟨b2, o2, none⟩) rn rc) ∧ w'.cell? ⟨w.heap.size, 0, none⟩ = some (.int .u8 op) ∧ w'.cell? ⟨w.heap.size, 1, none⟩ = some (.int .i64 (cj : Int)) ∧ w'.cell? ⟨w.heap.size, 2, none⟩ = some (.int .i64 kids) ∧ w'.cell? ⟨w.heap.size, 3, none⟩ = some (.int .u8 k) ∧ w'.cell? ⟨w.heap.size, 4, none⟩ = some (.int .i64 nn) ∧ w'.cell? ⟨w.heap.size, 5, none⟩ = some (.string (St8 s)) ∧ w'.cell? ⟨b2, o2 + cj * 3, none⟩ = some (.int .u8 k') ∧ w'.cell? ⟨b2, o2 + cj * 3 + 1, none⟩ = some (.int .i64 n') ∧ w'.cell? ⟨b2, o2 + cj * 3 + 2, none⟩ = some (.string (St8 s')))
          (first | exact hx3 | exact hx2)
          (first | (go_at_call 30; refine (hlf.out _).mono ?_; rintro e w2 ⟨rfl, hb2⟩; have Hb2 := Lib.hid (Hb1.out.trans (hb2.mono Hb1.out.size)); have hx3 := (Hc.out w2 Hb2.out).1))
        go_wp2_with fail
        go_ret2
        rw [Hdl.out]
        exact ⟨congrArg (fun z => Ending.returned (Value.tuple #[.int .u8 R, .int .i64 z])) (by first | rfl | omega), (Hc.out w2 Hb2.out).2.out⟩
      · rw [if_neg ha] at h
        rw [Bool.not_eq_true] at ha
        rw [ha] at has
        have hpp := fine_parts hfi
        obtain ⟨K, hK⟩ := Int.eq_ofNat_of_zero_le hpp.1
        rw [hK] at hki hpp
        rw [hK, Int.toNat_natCast] at h
        have Hev := Lib.hid h
        obtain ⟨op, col, kids, k, nn, s⟩ := nd
        unfold Nd.agg at has hki
        dsimp only at c0 c1 c2 c3 c4 c5 has hki hfop
        have hb0 : Below w.heap.size w (w.alloc (.cells #[.int .u8 op, .int .i64 col, .int .i64 kids, .int .u8 k, .int .i64 nn, .string (St8 s)] 46)) := (Below.refl _ _).alloc (Nat.le_refl _) _
        have hbl := Blk.new w 46 #[.int .u8 op, .int .i64 col, .int .i64 kids, .int .u8 k, .int .i64 nn, .string (St8 s)]
        have Hc : Hid (∀ w', Below (w.alloc (.cells #[.int .u8 op, .int .i64 col, .int .i64 kids, .int .u8 k, .int .i64 nn, .string (St8 s)] 46)).heap.size (w.alloc (.cells #[.int .u8 op, .int .i64 col, .int .i64 kids, .int .u8 k, .int .i64 nn, .string (St8 s)] 46)) w' → (w'.cell? ⟨w.heap.size, 0, none⟩ = some (.int .u8 op) ∧ w'.cell? ⟨w.heap.size, 1, none⟩ = some (.int .i64 col) ∧ w'.cell? ⟨w.heap.size, 2, none⟩ = some (.int .i64 kids) ∧ w'.cell? ⟨w.heap.size, 3, none⟩ = some (.int .u8 k) ∧ w'.cell? ⟨w.heap.size, 4, none⟩ = some (.int .i64 nn) ∧ w'.cell? ⟨w.heap.size, 5, none⟩ = some (.string (St8 s))) ∧ Hid (EvAt w' lb rb pb (some ⟨b, o, none⟩) X n c rn rc l r) ∧ Hid (Below w.heap.size w w')) := fun w' hb => ⟨⟨(hbl.below hb).cell 0, (hbl.below hb).cell 1, (hbl.below hb).cell 2, (hbl.below hb).cell 3, (hbl.below hb).cell 4, (hbl.below hb).cell 5⟩, HE.out.below (hb0.trans (hb.mono hb0.size)), hb0.trans (hb.mono hb0.size)⟩
        have Hw0 := Lib.hid (Below.refl (w.alloc (.cells #[.int .u8 op, .int .i64 col, .int .i64 kids, .int .u8 k, .int .i64 nn, .string (St8 s)] 46)).heap.size (w.alloc (.cells #[.int .u8 op, .int .i64 col, .int .i64 kids, .int .u8 k, .int .i64 nn, .string (St8 s)] 46)))
        have hw0 : (w.alloc (.cells #[.int .u8 op, .int .i64 col, .int .i64 kids, .int .u8 k, .int .i64 nn, .string (St8 s)] 46)).heap.size = w.heap.size + 1 := World.size_alloc ..
        generalize hW : w.alloc (.cells #[.int .u8 op, .int .i64 col, .int .i64 kids, .int .u8 k, .int .i64 nn, .string (St8 s)] 46) = W at *
        have HW := Lib.hid hW
        have Hfb := Lib.hid (firstT_bounds op)
        clear hbl hb0 hcr HE hE hfi hfine hs1 hs2 hg hdr hil ih hsx hle hdl h hW
        rcases (show op = 1 ∨ op = 4 ∨ op = 2 ∨ op = 3 by have := ask_none ha; dsimp only at this; omega) with rfl | rfl | rfl | rfl
        · obtain rfl : K = 0 := by
            have : (Nd.mk 1 col kids ⟨k, nn, s⟩).parts = 0 := rfl
            omega
          have hev := Hev.out
          rw [evs] at hev
          injection hev with hev
          injection hev with e1 e2
          have Hlen : Hid (n - t'.length = i + 1) := by show _ = _; rw [← e2, List.length_drop, Hl.out]; omega
          have hx2 : x = 2 := by rw [← e1]; rfl
          subst hx2
          clear e1 e2 Hev
          go_enter Tryd.func28, Tryd.ntmps28
          go_wp2_with fail
          rw [HW.out]
          refine (has.out _).mono ?_
          rintro e w1 ⟨rfl, hb1⟩
          have Hb1 := Lib.hid hb1
          obtain ⟨d0, d1, d2, d3, d4, d5⟩ := (Hc.out w1 hb1).1
          clear hb1 c0 c1 c2 c3 c4 c5 hcl
          go_wp2_with fail
          refine (hki.out _).mono ?_
          rintro e w2 ⟨rfl, hb2⟩
          have Hb2 := Lib.hid (Hb1.out.trans (hb2.mono Hb1.out.size))
          clear hb2 d0 d1 d2 d3 d4 d5 Hb1
          go_wp2_with fail
          go_loopw [0, 8, 32] (fun v0 v8 v32 wr => v0 = .int .i64 ((i : Int) + 1) ∧ v8 = .int .u8 2 ∧ v32 = .int .i64 0 ∧ Hid (Below W.heap.size W wr)) (fun _ _ v32 _ => 0)
          case atStart => exact ⟨by go_num, rfl, rfl, Hb2⟩
          case round =>
            clear Hb2
            obtain ⟨rfl, rfl, rfl, Hb⟩ := hrel
            obtain ⟨⟨d0, d1, d2, d3, d4, d5⟩, HE, HB⟩ := Hc.out wr Hb.out
            go_wp2_with fail
            go_ret2
            rw [Hlen.out]
            exact ⟨congrArg (fun z => Ending.returned (Value.tuple #[.int .u8 2, .int .i64 z])) (by first | rfl | omega), HB.out⟩
        · go_enter Tryd.func28, Tryd.ntmps28
          go_wp2_with fail
          rw [HW.out]
          refine (has.out _).mono ?_
          rintro e w1 ⟨rfl, hb1⟩
          have Hb1 := Lib.hid hb1
          obtain ⟨d0, d1, d2, d3, d4, d5⟩ := (Hc.out w1 hb1).1
          clear hb1 c0 c1 c2 c3 c4 c5 hcl
          go_wp2_with fail
          refine (hki.out _).mono ?_
          rintro e w2 ⟨rfl, hb2⟩
          have Hb2 := Lib.hid (Hb1.out.trans (hb2.mono Hb1.out.size))
          clear hb2 d0 d1 d2 d3 d4 d5 Hb1
          go_wp2_with fail
          go_loopw [0, 8, 32] (fun v0 v8 v32 wr => ∃ (j p : Nat) (a : Int), v0 = .int .i64 (p : Int) ∧ v8 = .int .u8 a ∧ v32 = .int .i64 (j : Int) ∧ j ≤ K ∧ p ≤ n ∧ 0 ≤ a ∧ a ≤ 2 ∧ Hid (evs (ev r f) 4 (K - j) a (l.drop p) = some (x, t')) ∧ Hid (Below W.heap.size W wr)) (fun _ _ v32 _ => K - (intOf v32).toNat)
          case atStart => exact ⟨0, i + 1, 2, by go_num, rfl, rfl, by omega, by omega, by omega, by omega, by rw [Nat.sub_zero]; exact Hev.out, Hb2⟩
          case round =>
            clear Hev Hb2
            obtain ⟨j, p, a, rfl, rfl, rfl, hj, hp, ha0, ha2, Hev, Hb⟩ := hrel
            obtain ⟨⟨d0, d1, d2, d3, d4, d5⟩, HE, HB⟩ := Hc.out wr Hb.out
            by_cases hjk : j < K
            · have hev := Hev.out
              rw [show K - j = (K - (j + 1)) + 1 from by omega, evs] at hev
              cases hy : ev r f (l.drop p) with
              | none => rw [hy] at hev; cases hev
              | some q =>
                obtain ⟨y, t1⟩ := q
                rw [hy] at hev
                dsimp only at hev
                obtain ⟨pre, hpre⟩ := ev_suffix r f _ _ _ hy
                obtain ⟨hs1, hs2, hs3⟩ := drop_suffix Hl.out hp hpre
                have hyb := ev_bounds r f _ _ _ hy
                have hcall := Lib.hid (Hih.out p y t1 wr HE.out hp hy)
                rw [← hs1] at hev
                have Hev2 := Lib.hid hev
                have hcp := HE.out.cp
                obtain ⟨p1, hp1⟩ : ∃ z, z = n - t1.length := ⟨_, rfl⟩
                rw [← hp1] at hcall Hev2 hs2
                have hjI : (j : Int) < (K : Int) := by omega
                have hjb := joinT_bounds (op := 4) ⟨ha0, ha2⟩ hyb
                clear hev hy hpre Hev hs1 hp1
                have Hj : Hid (joinT 4 a y = notT y) := rfl
                generalize joinT 4 a y = z at *
                go_wp2_with fail
                refine hcall.out.mono ?_
                rintro e w3 ⟨rfl, hb3⟩
                have Hb3 := Lib.hid (Hb.out.trans (hb3.mono Hb.out.size))
                obtain ⟨⟨f0, f1, f2, f3, f4, f5⟩, _, _⟩ := Hc.out w3 Hb3.out
                clear hb3 d0 d1 d2 d3 d4 d5 hcp hcall
                go_wp2_with fail
                refine (notT_c y (by omega) _).mono ?_
                rintro e w4 ⟨rfl, rfl⟩
                rw [← Hj.out]
                go_wp2_with fail
                go_roundw
                case rel => exact ⟨j + 1, p1, z, rfl, rfl, by go_num, by omega, by omega, hjb.1, hjb.2, Hev2, Hb3⟩
                case measure => simp [intOf]; omega
            · obtain rfl : j = K := by omega
              have hev := Hev.out
              rw [Nat.sub_self, evs] at hev
              injection hev with hev
              injection hev with e1 e2
              have hlen : n - t'.length = p := by rw [← e2, List.length_drop, Hl.out]; omega
              have Hlen := Lib.hid hlen
              subst e1
              clear hlen Hev e2
              go_wp2_with fail
              go_ret2
              rw [Hlen.out]
              exact ⟨rfl, HB.out⟩
        · go_enter Tryd.func28, Tryd.ntmps28
          go_wp2_with fail
          rw [HW.out]
          refine (has.out _).mono ?_
          rintro e w1 ⟨rfl, hb1⟩
          have Hb1 := Lib.hid hb1
          obtain ⟨d0, d1, d2, d3, d4, d5⟩ := (Hc.out w1 hb1).1
          clear hb1 c0 c1 c2 c3 c4 c5 hcl
          go_wp2_with fail
          refine (hki.out _).mono ?_
          rintro e w2 ⟨rfl, hb2⟩
          have Hb2 := Lib.hid (Hb1.out.trans (hb2.mono Hb1.out.size))
          clear hb2 d0 d1 d2 d3 d4 d5 Hb1
          go_wp2_with fail
          go_loopw [0, 8, 32] (fun v0 v8 v32 wr => ∃ (j p : Nat) (a : Int), v0 = .int .i64 (p : Int) ∧ v8 = .int .u8 a ∧ v32 = .int .i64 (j : Int) ∧ j ≤ K ∧ p ≤ n ∧ 0 ≤ a ∧ a ≤ 2 ∧ Hid (evs (ev r f) 2 (K - j) a (l.drop p) = some (x, t')) ∧ Hid (Below W.heap.size W wr)) (fun _ _ v32 _ => K - (intOf v32).toNat)
          case atStart => exact ⟨0, i + 1, 2, by go_num, rfl, rfl, by omega, by omega, by omega, by omega, by rw [Nat.sub_zero]; exact Hev.out, Hb2⟩
          case round =>
            clear Hev Hb2
            obtain ⟨j, p, a, rfl, rfl, rfl, hj, hp, ha0, ha2, Hev, Hb⟩ := hrel
            obtain ⟨⟨d0, d1, d2, d3, d4, d5⟩, HE, HB⟩ := Hc.out wr Hb.out
            by_cases hjk : j < K
            · have hev := Hev.out
              rw [show K - j = (K - (j + 1)) + 1 from by omega, evs] at hev
              cases hy : ev r f (l.drop p) with
              | none => rw [hy] at hev; cases hev
              | some q =>
                obtain ⟨y, t1⟩ := q
                rw [hy] at hev
                dsimp only at hev
                obtain ⟨pre, hpre⟩ := ev_suffix r f _ _ _ hy
                obtain ⟨hs1, hs2, hs3⟩ := drop_suffix Hl.out hp hpre
                have hyb := ev_bounds r f _ _ _ hy
                have hcall := Lib.hid (Hih.out p y t1 wr HE.out hp hy)
                rw [← hs1] at hev
                have Hev2 := Lib.hid hev
                have hcp := HE.out.cp
                obtain ⟨p1, hp1⟩ : ∃ z, z = n - t1.length := ⟨_, rfl⟩
                rw [← hp1] at hcall Hev2 hs2
                have hjI : (j : Int) < (K : Int) := by omega
                have hjb := joinT_bounds (op := 2) ⟨ha0, ha2⟩ hyb
                clear hev hy hpre Hev hs1 hp1
                have Hj : Hid (joinT 2 a y = andT a y) := rfl
                generalize joinT 2 a y = z at *
                go_wp2_with fail
                refine hcall.out.mono ?_
                rintro e w3 ⟨rfl, hb3⟩
                have Hb3 := Lib.hid (Hb.out.trans (hb3.mono Hb.out.size))
                obtain ⟨⟨f0, f1, f2, f3, f4, f5⟩, _, _⟩ := Hc.out w3 Hb3.out
                clear hb3 d0 d1 d2 d3 d4 d5 hcp hcall
                go_wp2_with fail
                refine (andT_c a y _).mono ?_
                rintro e w4 ⟨rfl, rfl⟩
                rw [← Hj.out]
                go_wp2_with fail
                go_roundw
                case rel => exact ⟨j + 1, p1, z, rfl, rfl, by go_num, by omega, by omega, hjb.1, hjb.2, Hev2, Hb3⟩
                case measure => simp [intOf]; omega
            · obtain rfl : j = K := by omega
              have hev := Hev.out
              rw [Nat.sub_self, evs] at hev
              injection hev with hev
              injection hev with e1 e2
              have hlen : n - t'.length = p := by rw [← e2, List.length_drop, Hl.out]; omega
              have Hlen := Lib.hid hlen
              subst e1
              clear hlen Hev e2
              go_wp2_with fail
              go_ret2
              rw [Hlen.out]
              exact ⟨rfl, HB.out⟩
        · go_enter Tryd.func28, Tryd.ntmps28
          go_wp2_with fail
          rw [HW.out]
          refine (has.out _).mono ?_
          rintro e w1 ⟨rfl, hb1⟩
          have Hb1 := Lib.hid hb1
          obtain ⟨d0, d1, d2, d3, d4, d5⟩ := (Hc.out w1 hb1).1
          clear hb1 c0 c1 c2 c3 c4 c5 hcl
          go_wp2_with fail
          refine (hki.out _).mono ?_
          rintro e w2 ⟨rfl, hb2⟩
          have Hb2 := Lib.hid (Hb1.out.trans (hb2.mono Hb1.out.size))
          clear hb2 d0 d1 d2 d3 d4 d5 Hb1
          go_wp2_with fail
          go_loopw [0, 8, 32] (fun v0 v8 v32 wr => ∃ (j p : Nat) (a : Int), v0 = .int .i64 (p : Int) ∧ v8 = .int .u8 a ∧ v32 = .int .i64 (j : Int) ∧ j ≤ K ∧ p ≤ n ∧ 0 ≤ a ∧ a ≤ 2 ∧ Hid (evs (ev r f) 3 (K - j) a (l.drop p) = some (x, t')) ∧ Hid (Below W.heap.size W wr)) (fun _ _ v32 _ => K - (intOf v32).toNat)
          case atStart => exact ⟨0, i + 1, 0, by go_num, rfl, rfl, by omega, by omega, by omega, by omega, by rw [Nat.sub_zero]; exact Hev.out, Hb2⟩
          case round =>
            clear Hev Hb2
            obtain ⟨j, p, a, rfl, rfl, rfl, hj, hp, ha0, ha2, Hev, Hb⟩ := hrel
            obtain ⟨⟨d0, d1, d2, d3, d4, d5⟩, HE, HB⟩ := Hc.out wr Hb.out
            by_cases hjk : j < K
            · have hev := Hev.out
              rw [show K - j = (K - (j + 1)) + 1 from by omega, evs] at hev
              cases hy : ev r f (l.drop p) with
              | none => rw [hy] at hev; cases hev
              | some q =>
                obtain ⟨y, t1⟩ := q
                rw [hy] at hev
                dsimp only at hev
                obtain ⟨pre, hpre⟩ := ev_suffix r f _ _ _ hy
                obtain ⟨hs1, hs2, hs3⟩ := drop_suffix Hl.out hp hpre
                have hyb := ev_bounds r f _ _ _ hy
                have hcall := Lib.hid (Hih.out p y t1 wr HE.out hp hy)
                rw [← hs1] at hev
                have Hev2 := Lib.hid hev
                have hcp := HE.out.cp
                obtain ⟨p1, hp1⟩ : ∃ z, z = n - t1.length := ⟨_, rfl⟩
                rw [← hp1] at hcall Hev2 hs2
                have hjI : (j : Int) < (K : Int) := by omega
                have hjb := joinT_bounds (op := 3) ⟨ha0, ha2⟩ hyb
                clear hev hy hpre Hev hs1 hp1
                have Hj : Hid (joinT 3 a y = orT a y) := rfl
                generalize joinT 3 a y = z at *
                go_wp2_with fail
                refine hcall.out.mono ?_
                rintro e w3 ⟨rfl, hb3⟩
                have Hb3 := Lib.hid (Hb.out.trans (hb3.mono Hb.out.size))
                obtain ⟨⟨f0, f1, f2, f3, f4, f5⟩, _, _⟩ := Hc.out w3 Hb3.out
                clear hb3 d0 d1 d2 d3 d4 d5 hcp hcall
                go_wp2_with fail
                refine (orT_c a y _).mono ?_
                rintro e w4 ⟨rfl, rfl⟩
                rw [← Hj.out]
                go_wp2_with fail
                go_roundw
                case rel => exact ⟨j + 1, p1, z, rfl, rfl, by go_num, by omega, by omega, hjb.1, hjb.2, Hev2, Hb3⟩
                case measure => simp [intOf]; omega
            · obtain rfl : j = K := by omega
              have hev := Hev.out
              rw [Nat.sub_self, evs] at hev
              injection hev with hev
              injection hev with e1 e2
              have hlen : n - t'.length = p := by rw [← e2, List.length_drop, Hl.out]; omega
              have Hlen := Lib.hid hlen
              subst e1
              clear hlen Hev e2
              go_wp2_with fail
              go_ret2
              rw [Hlen.out]
              exact ⟨rfl, HB.out⟩
    · rw [List.drop_eq_nil_of_le (by rw [hl]; omega), ev] at h
      cases h
end Go.Proofs.YtipnglidepfkbaaDoor
namespace Go.Proofs.YtipnglidepfkbaaDoor
set_option linter.unusedVariables false
set_option linter.unusedSimpArgs false
open Go.RowKit

attribute [local go_sem ↓] Go.wp_at_zero Go.wp_at_succ

set_option maxHeartbeats 4000000 in
set_option maxRecDepth 100000 in
theorem aeval_c (l : List Nd) (r : RowM) (L X : Option Addr) (n c rn rc : Nat) (w : World) (hl : l.length = n) (hr : r.length = rn) (hL : Rd w L (ncells l)) (hX : Rd w X (rcells r)) (hn : n ≤ 1000) (hrn : rn ≤ 1000000) (hs1 : ∀ x ∈ l, x.v.s.length ≤ 1000000) (hs2 : ∀ x ∈ r, x.s.length ≤ 1000000) :
    Calls Tryd.prog 11 #[.slice L n c, .slice X rn rc] w fun e w' => e = .returned (.int .u8 (evalM l r)) ∧ Below w.heap.size w w' := by
  have hb0 : Below w.heap.size w (w.alloc (.cells #[.slice L n c] 23)) := (Below.refl _ _).alloc (Nat.le_refl _) _
  have hb1 : Below w.heap.size w ((w.alloc (.cells #[.slice L n c] 23)).alloc (.cells #[.slice X rn rc] 30)) := hb0.alloc (by rw [World.size_alloc]; omega) _
  have hx := (Blk.new w 23 #[.slice L n c]).below ((Below.refl _ _).alloc (Nat.le_refl _) (.cells #[.slice X rn rc] 30))
  have hy := Blk.new (w.alloc (.cells #[.slice L n c] 23)) 30 #[.slice X rn rc]
  rw [World.size_alloc] at hy
  have hw0 : ((w.alloc (.cells #[.slice L n c] 23)).alloc (.cells #[.slice X rn rc] 30)).heap.size = w.heap.size + 1 + 1 := by rw [World.size_alloc, World.size_alloc]
  generalize hW : ((w.alloc (.cells #[.slice L n c] 23)).alloc (.cells #[.slice X rn rc] 30)) = W at *
  have hwh := whole_c l L n c rn W hl (hL.below hb1) (by omega)
  have Hx := Lib.hid hx
  have Hy := Lib.hid hy
  have Hb1 := Lib.hid hb1
  have HW := Lib.hid hW
  have HL := Lib.hid hL
  have HX := Lib.hid hX
  have hc1 := hx.cell 0
  have hc2 := hy.cell 0
  simp only [List.getElem?_cons_zero] at hc1 hc2
  by_cases hwo : wholeN rn l = true
  · obtain ⟨x, hev⟩ := whole_ev r hwo
    rw [evalM_of (by rw [hr]; exact hwo) hev]
    rw [hwo] at hwh
    have hfine : ∀ z ∈ l, fineN rn z = true := by
      unfold wholeN at hwo
      exact List.all_eq_true.1 (Bool.and_eq_true_iff.1 (Bool.and_eq_true_iff.1 hwo).1).2
    have hpa := Lib.hid (fun pb w' (hE : EvAt w' w.heap.size (w.heap.size + 1) pb L X n c rn rc l r) => part_c w.heap.size (w.heap.size + 1) pb L X n c rn rc l r hl hr hn hrn hfine hs1 hs2 l.length 0 x [] w' hE (Nat.zero_le _) (by rw [List.drop_zero]; exact hev))
    have Hwh := Lib.hid hwh
    clear hfine hwo hev hwh hs1 hs2 hx hy hb1 hb0 hL hX hW hl hr
    go_enter Tryd.func11, Tryd.ntmps11
    go_wp2_with fail
    rw [HW.out]
    refine Hwh.out.mono ?_
    rintro e w1 ⟨rfl, hb1⟩
    have hc1 := (Hx.out.below hb1).cell 0
    have hc2 := (Hy.out.below hb1).cell 0
    simp only [List.getElem?_cons_zero] at hc1 hc2
    have Hb2 := Lib.hid (Hb1.out.trans (hb1.mono Hb1.out.size))
    have HL1 := Lib.hid (HL.out.below Hb2.out)
    have HX1 := Lib.hid (HX.out.below Hb2.out)
    clear hb1
    have hbF : Below w1.heap.size w1 (w1.alloc (.cells #[.func (Fn.func 28) #[] #[.pointer (some ⟨w.heap.size, 0, none⟩), .pointer (some ⟨w.heap.size + 1, 0, none⟩), .pointer (some ⟨w1.heap.size, 0, none⟩)]] 54)) := (Below.refl _ _).alloc (Nat.le_refl _) _
    have hE : EvAt (w1.alloc (.cells #[.func (Fn.func 28) #[] #[.pointer (some ⟨w.heap.size, 0, none⟩), .pointer (some ⟨w.heap.size + 1, 0, none⟩), .pointer (some ⟨w1.heap.size, 0, none⟩)]] 54)) w.heap.size (w.heap.size + 1) w1.heap.size L X n c rn rc l r :=
      ⟨cell_keep hbF hc1, cell_keep hbF hc2, (Blk.new w1 54 #[.func (Fn.func 28) #[] #[.pointer (some ⟨w.heap.size, 0, none⟩), .pointer (some ⟨w.heap.size + 1, 0, none⟩), .pointer (some ⟨w1.heap.size, 0, none⟩)]]).cell 0, HL1.out.below hbF, HX1.out.below hbF⟩
    have hcall := hpa.out _ _ hE
    rw [show ((0 : Nat) : Int) = 0 from rfl] at hcall
    have Hcall := Lib.hid hcall
    have HbF := Lib.hid hbF
    clear hcall hE hbF hpa
    go_wp2_with fail
    refine Hcall.out.mono ?_
    rintro e w3 ⟨rfl, hb3⟩
    have Hb3 := Lib.hid (Hb2.out.trans ((HbF.out.trans (hb3.mono HbF.out.size)).mono Hb2.out.size))
    go_wp2_with fail
    go_ret
    exact ⟨rfl, Hb3.out⟩
  · rw [Bool.not_eq_true] at hwo
    rw [hwo] at hwh
    have hev : evalM l r = 1 := by
      unfold evalM
      rw [if_neg (by rw [hr, hwo]; decide)]
    rw [hev]
    have Hwh := Lib.hid hwh
    clear hwo hev hwh hs1 hs2 hx hy hb1 hb0 hL hX hW hl hr
    go_enter Tryd.func11, Tryd.ntmps11
    go_wp2_with fail
    rw [HW.out]
    refine Hwh.out.mono ?_
    rintro e w1 ⟨rfl, hb1⟩
    have Hb2 := Lib.hid (Hb1.out.trans (hb1.mono Hb1.out.size))
    go_wp2_with fail
    go_ret
    exact ⟨rfl, Hb2.out⟩
end Go.Proofs.YtipnglidepfkbaaDoor
