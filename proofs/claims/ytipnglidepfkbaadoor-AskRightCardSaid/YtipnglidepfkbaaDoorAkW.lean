/- Walks: what comes of a node that asks a column; whether nodes are one with its parts. -/
import Derived.Test.YtipnglidepfkbaaDoorAkC
import Derived.Test.YtipnglidepfkbaaDoorAkR
namespace Go.Proofs.YtipnglidepfkbaaDoor
open Go.RowKit

attribute [local go_sem ↓] Go.wp_at_zero Go.wp_at_succ

set_option maxHeartbeats 4000000 in
set_option maxRecDepth 100000 in
theorem leaf_c (n : Nd) (v : Va) (w : World) (hs1 : n.v.s.length ≤ 1000000) (hs2 : v.s.length ≤ 1000000) : Calls Tryd.prog 30 #[n.agg, v.agg] w fun e w' => e = .returned (.int .u8 (leafM n v)) ∧ Below w.heap.size w w' := by
  have hv : Hid (leafM n v = if n.op = 5 then truthV v n.v (decide (cmpVa v n.v = 0)) else if n.op = 6 then truthV v n.v (decide (cmpVa v n.v < 0)) else if n.op = 8 then (if v.k = 0 then 2 else 0)
    else if v.k = 0 then 1 else if matchM n.v.s v.s then 2 else 0) := rfl
  have heq := Lib.hid (fun w' => equal_c v n.v w')
  have hle := Lib.hid (fun w' => less_c v n.v w')
  have hma := Lib.hid (fun w' => match_any n.v.s v.s w' hs1 hs2)
  have htr := Lib.hid (fun b w' => atruth_c b w')
  generalize leafM n v = R at *
  obtain ⟨op, col, kids, k, nn, s⟩ := n
  obtain ⟨k', n', s'⟩ := v
  dsimp only at hv heq hle hma
  generalize truthV ⟨k', n', s'⟩ ⟨k, nn, s⟩ (decide (cmpVa ⟨k', n', s'⟩ ⟨k, nn, s⟩ = 0)) = T1 at *
  generalize truthV ⟨k', n', s'⟩ ⟨k, nn, s⟩ (decide (cmpVa ⟨k', n', s'⟩ ⟨k, nn, s⟩ < 0)) = T2 at *
  generalize matchM s s' = M at *
  unfold Va.agg at heq hle
  unfold Nd.agg Va.agg
  dsimp only at heq hle ⊢
  have Hb1 : Hid (Below w.heap.size w ((w.alloc (.cells #[.int .u8 op, .int .i64 col, .int .i64 kids, .int .u8 k, .int .i64 nn, .string (St8 s)] 46)).alloc (.cells #[.int .u8 k', .int .i64 n', .string (St8 s')] 44))) := ((Below.refl _ _).alloc (Nat.le_refl _) _).alloc (by rw [World.size_alloc]; omega) _
  clear hs1 hs2
  by_cases h5 : op = 5
  · subst h5
    rw [if_pos rfl] at hv
    go_enter Tryd.func30, Tryd.ntmps30
    go_wp2_with fail
    refine (heq.out _).mono ?_
    rintro e w1 ⟨rfl, hb1⟩
    go_wp2_with fail
    go_ret
    rw [hv.out]
    exact ⟨rfl, Hb1.out.trans (hb1.mono Hb1.out.size)⟩
  · have e5 : (op == 5) = false := by rw [beq_eq_false_iff_ne]; exact h5
    rw [if_neg h5] at hv
    by_cases h6 : op = 6
    · subst h6
      rw [if_pos rfl] at hv
      go_enter Tryd.func30, Tryd.ntmps30
      go_wp2_with fail
      refine (hle.out _).mono ?_
      rintro e w1 ⟨rfl, hb1⟩
      go_wp2_with fail
      go_ret
      rw [hv.out]
      exact ⟨rfl, Hb1.out.trans (hb1.mono Hb1.out.size)⟩
    · have e6 : (op == 6) = false := by rw [beq_eq_false_iff_ne]; exact h6
      rw [if_neg h6] at hv
      by_cases h8 : op = 8
      · subst h8
        rw [if_pos rfl] at hv
        by_cases hk : k' = 0
        · subst hk
          rw [if_pos rfl] at hv
          go_enter Tryd.func30, Tryd.ntmps30
          go_wp2_with fail
          refine (htr.out true _).mono ?_
          rintro e w1 ⟨rfl, rfl⟩
          go_wp2_with fail
          go_ret
          rw [hv.out]
          exact ⟨rfl, Hb1.out⟩
        · rw [if_neg hk] at hv
          have ek : (k' == 0) = false := by rw [beq_eq_false_iff_ne]; exact hk
          go_enter Tryd.func30, Tryd.ntmps30
          go_wp2_with fail
          refine (htr.out false _).mono ?_
          rintro e w1 ⟨rfl, rfl⟩
          go_wp2_with fail
          go_ret
          rw [hv.out]
          exact ⟨rfl, Hb1.out⟩
      · have e8 : (op == 8) = false := by rw [beq_eq_false_iff_ne]; exact h8
        rw [if_neg h8] at hv
        by_cases hk : k' = 0
        · subst hk
          rw [if_pos rfl] at hv
          go_enter Tryd.func30, Tryd.ntmps30
          go_wp2_with fail
          go_ret
          rw [hv.out]
          exact ⟨rfl, Hb1.out⟩
        · rw [if_neg hk] at hv
          have ek : (k' == 0) = false := by rw [beq_eq_false_iff_ne]; exact hk
          obtain ⟨V, hV⟩ : ∃ V : Int, V = if M = true then 2 else 0 := ⟨_, rfl⟩
          rw [← hV] at hv
          have htm := htr.out M
          rw [← hV] at htm
          have Htm := Lib.hid htm
          clear htm hV htr
          go_enter Tryd.func30, Tryd.ntmps30
          go_wp2_with fail
          refine (hma.out _).mono ?_
          rintro e w1 ⟨⟨er, rfl⟩, hb1⟩
          go_wp2_with fail
          refine (Htm.out _).mono ?_
          rintro e w2 ⟨rfl, rfl⟩
          go_wp2_with fail
          go_ret
          rw [hv.out]
          exact ⟨rfl, Hb1.out.trans (hb1.mono Hb1.out.size)⟩

theorem fine_parts {cols : Nat} {x : Nd} (h : fineN cols x = true) : 0 ≤ x.parts ∧ x.parts ≤ 40 := by
  unfold fineN Nd.many at h
  unfold Nd.parts
  simp only [Bool.and_eq_true, Bool.not_eq_true', Bool.and_eq_false_iff, decide_eq_true_eq, decide_eq_false_iff_not] at h
  obtain ⟨⟨h1, h2⟩, h3⟩ := h
  split
  · rcases h3 with h3 | h3 <;> omega
  · split <;> omega

set_option maxHeartbeats 16000000 in
set_option maxRecDepth 100000 in
theorem whole_c (l : List Nd) (L : Option Addr) (n c cols : Nat) (w : World) (hl : l.length = n) (hL : Rd w L (ncells l)) (hn : n ≤ 1000000) :
    Calls Tryd.prog 27 #[.slice L n c, .int .i64 (cols : Int)] w fun e w' => e = .returned (.bool (wholeN cols l)) ∧ Below w.heap.size w w' := by
  have hR : Hid (wholeN cols l = (decide (1 ≤ l.length ∧ l.length ≤ 40) && l.all (fineN cols) && ends 1 l)) := rfl
  rw [hl] at hR
  generalize wholeN cols l = R at *
  by_cases h0 : n = 0
  · rw [decide_eq_false (by omega), Bool.false_and, Bool.false_and] at hR
    subst h0
    clear hL
    go_enter Tryd.func27, Tryd.ntmps27
    go_wp2_with fail
    go_ret
    rw [hR.out]
    exact ⟨rfl, Below.refl _ _⟩
  · have e0 : ((n : Int) == 0) = false := by rw [beq_eq_false_iff_ne]; omega
    by_cases h40 : 40 < n
    · rw [decide_eq_false (by omega), Bool.false_and, Bool.false_and] at hR
      have h40I : (40 : Int) < (n : Int) := by omega
      clear hL
      go_enter Tryd.func27, Tryd.ntmps27
      go_wp2_with fail
      go_ret
      rw [hR.out]
      exact ⟨rfl, Below.refl _ _⟩
    · rw [decide_eq_true (by omega), Bool.true_and] at hR
      have h40I : ¬ (40 : Int) < (n : Int) := by omega
      have Hl := Lib.hid hl
      have HL := Lib.hid hL
      have hend := Lib.hid (fun (hm : l.all (fineN cols) = true) w' (hb : Below w.heap.size w w') => end_any l L n c w' hl (hL.below hb) (by omega) (fun x hx => fine_parts (List.all_eq_true.1 hm x hx)))
      clear hl hL
      go_enter Tryd.func27, Tryd.ntmps27
      go_wp2_with fail
      go_loopw [17] (fun vi wr => ∃ j : Nat, vi = .int .i64 j ∧ j ≤ n ∧ Hid ((l.take j).all (fineN cols) = true) ∧ Hid (Below w.heap.size w wr)) (fun vi _ => n - (intOf vi).toNat)
      case atStart => exact ⟨0, rfl, by omega, rfl, Below.refl _ _⟩
      case round =>
        obtain ⟨j, rfl, hj, Hall, Hb⟩ := hrel
        by_cases hjn : j < n
        · have hjI : (j : Int) < (n : Int) := by omega
          have hjI0 : (0 : Int) ≤ (j : Int) := by omega
          have hjl : j < l.length := by rw [Hl.out]; exact hjn
          have hg := List.getElem?_eq_getElem hjl
          obtain ⟨b, o, rfl, c0, c1, c2, c3, c4, c5⟩ := node_cells (HL.out.below Hb.out) hg
          have Htk := Lib.hid (List.take_succ_eq_append_getElem hjl)
          have Hmm := Lib.hid (List.getElem_mem hjl)
          have has := fun w' => asks_any l[j] w'
          have hfi : Hid (fineN cols l[j] = (decide (1 ≤ l[j].op ∧ l[j].op ≤ 8) && !(l[j].asks && decide (l[j].col < 0 ∨ (cols : Int) ≤ l[j].col)) && !(decide (l[j].op = 2 ∨ l[j].op = 3) && decide (l[j].kids < 1 ∨ 40 < l[j].kids)))) := rfl
          have hbad : Hid (fineN cols l[j] = false → R = false) := fun h => by
            rw [hR.out, List.all_eq_false.2 ⟨_, Hmm.out, by rw [h]; simp⟩]
            rfl
          have hgood : Hid (fineN cols l[j] = true → (l.take (j + 1)).all (fineN cols) = true) := fun h => by
            rw [Htk.out, List.all_append, Hall.out]
            simp [h]
          have hask : Hid (l[j].asks = decide (5 ≤ l[j].op ∧ l[j].op ≤ 8)) := rfl
          clear Hmm Htk
          generalize l[j] = x at *
          obtain ⟨op, col, kids, k, nn, s⟩ := x
          unfold Nd.agg at has
          dsimp only at c0 c1 c2 c3 c4 c5 has hfi hask
          generalize (Nd.mk op col kids ⟨k, nn, s⟩).asks = ask at *
          generalize fineN cols ⟨op, col, kids, k, nn, s⟩ = F at *
          have hbl := Blk.new wr 46 #[.int .u8 op, .int .i64 col, .int .i64 kids, .int .u8 k, .int .i64 nn, .string (St8 s)]
          have hb0 : Below wr.heap.size wr (wr.alloc (.cells #[.int .u8 op, .int .i64 col, .int .i64 kids, .int .u8 k, .int .i64 nn, .string (St8 s)] 46)) := (Below.refl _ _).alloc (Nat.le_refl _) _
          have Hc : Hid (∀ w', Below (wr.alloc (.cells #[.int .u8 op, .int .i64 col, .int .i64 kids, .int .u8 k, .int .i64 nn, .string (St8 s)] 46)).heap.size (wr.alloc (.cells #[.int .u8 op, .int .i64 col, .int .i64 kids, .int .u8 k, .int .i64 nn, .string (St8 s)] 46)) w' → w'.cell? ⟨wr.heap.size, 0, none⟩ = some (.int .u8 op) ∧ w'.cell? ⟨wr.heap.size, 1, none⟩ = some (.int .i64 col) ∧ w'.cell? ⟨wr.heap.size, 2, none⟩ = some (.int .i64 kids) ∧ w'.cell? ⟨wr.heap.size, 3, none⟩ = some (.int .u8 k) ∧ w'.cell? ⟨wr.heap.size, 4, none⟩ = some (.int .i64 nn) ∧ w'.cell? ⟨wr.heap.size, 5, none⟩ = some (.string (St8 s)) ∧ Hid (Below w.heap.size w w')) := fun w' hb => ⟨(hbl.below hb).cell 0, (hbl.below hb).cell 1, (hbl.below hb).cell 2, (hbl.below hb).cell 3, (hbl.below hb).cell 4, (hbl.below hb).cell 5, Hb.out.trans ((hb0.trans (hb.mono hb0.size)).mono Hb.out.size)⟩
          have HB0 : Hid (Below w.heap.size w (wr.alloc (.cells #[.int .u8 op, .int .i64 col, .int .i64 kids, .int .u8 k, .int .i64 nn, .string (St8 s)] 46))) := Hb.out.trans (hb0.mono Hb.out.size)
          clear hbl hb0 hg hjl
          by_cases h1 : op < 1
          · rw [decide_eq_false (by omega), Bool.false_and, Bool.false_and] at hfi
            go_wp2_with fail
            go_ret
            rw [hbad.out hfi.out]
            exact ⟨rfl, HB0.out⟩
          · by_cases h8 : 8 < op
            · rw [decide_eq_false (by omega), Bool.false_and, Bool.false_and] at hfi
              go_wp2_with fail
              go_ret
              rw [hbad.out hfi.out]
              exact ⟨rfl, HB0.out⟩
            · rw [decide_eq_true (show 1 ≤ op ∧ op ≤ 8 by omega), Bool.true_and] at hfi
              by_cases h5 : 5 ≤ op
              · obtain rfl : ask = true := by rw [hask.out]; exact decide_eq_true (by omega)
                have Has := Lib.hid has
                have o2 : (op == 2) = false := by rw [beq_eq_false_iff_ne]; omega
                have o3 : (op == 3) = false := by rw [beq_eq_false_iff_ne]; omega
                rw [decide_eq_false (show ¬ (op = 2 ∨ op = 3) by omega), Bool.false_and, Bool.not_false, Bool.and_true, Bool.true_and] at hfi
                clear has hask
                by_cases hc0 : col < 0
                · rw [decide_eq_true (show col < 0 ∨ (cols : Int) ≤ col by omega)] at hfi
                  go_wp2_with fail
                  refine (Has.out _).mono ?_
                  rintro e w1 ⟨rfl, hb1⟩
                  obtain ⟨d0, d1, d2, d3, d4, d5, Hb1⟩ := Hc.out w1 hb1
                  clear hb1 c0 c1 c2 c3 c4 c5
                  go_wp2_with fail
                  go_ret
                  rw [hbad.out hfi.out]
                  exact ⟨rfl, Hb1.out⟩
                · by_cases hc1 : (cols : Int) ≤ col
                  · rw [decide_eq_true (show col < 0 ∨ (cols : Int) ≤ col by omega)] at hfi
                    go_wp2_with fail
                    refine (Has.out _).mono ?_
                    rintro e w1 ⟨rfl, hb1⟩
                    obtain ⟨d0, d1, d2, d3, d4, d5, Hb1⟩ := Hc.out w1 hb1
                    clear hb1 c0 c1 c2 c3 c4 c5
                    go_wp2_with fail
                    go_ret
                    rw [hbad.out hfi.out]
                    exact ⟨rfl, Hb1.out⟩
                  · rw [decide_eq_false (show ¬ (col < 0 ∨ (cols : Int) ≤ col) by omega)] at hfi
                    go_wp2_with fail
                    refine (Has.out _).mono ?_
                    rintro e w1 ⟨rfl, hb1⟩
                    obtain ⟨d0, d1, d2, d3, d4, d5, Hb1⟩ := Hc.out w1 hb1
                    clear hb1 c0 c1 c2 c3 c4 c5
                    go_wp2_with fail
                    go_roundw
                    case rel => exact ⟨j + 1, by go_num, by omega, hgood.out hfi.out, Hb1⟩
                    case measure => simp [intOf]; omega
              · obtain rfl : ask = false := by rw [hask.out]; exact decide_eq_false (by omega)
                have Has := Lib.hid has
                rw [Bool.false_and, Bool.not_false, Bool.true_and] at hfi
                clear has hask
                rcases (show op = 1 ∨ op = 2 ∨ op = 3 ∨ op = 4 by omega) with rfl | rfl | rfl | rfl
                · rw [decide_eq_false (by omega), Bool.false_and] at hfi
                  go_wp2_with fail
                  refine (Has.out _).mono ?_
                  rintro e w1 ⟨rfl, hb1⟩
                  obtain ⟨d0, d1, d2, d3, d4, d5, Hb1⟩ := Hc.out w1 hb1
                  clear hb1 c0 c1 c2 c3 c4 c5
                  go_wp2_with fail
                  go_roundw
                  case rel => exact ⟨j + 1, by go_num, by omega, hgood.out hfi.out, Hb1⟩
                  case measure => simp [intOf]; omega
                · rw [decide_eq_true (by omega), Bool.true_and] at hfi
                  by_cases hk1 : kids < 1
                  · rw [decide_eq_true (show kids < 1 ∨ 40 < kids by omega)] at hfi
                    go_wp2_with fail
                    refine (Has.out _).mono ?_
                    rintro e w1 ⟨rfl, hb1⟩
                    obtain ⟨d0, d1, d2, d3, d4, d5, Hb1⟩ := Hc.out w1 hb1
                    clear hb1 c0 c1 c2 c3 c4 c5
                    go_wp2_with fail
                    go_ret
                    rw [hbad.out hfi.out]
                    exact ⟨rfl, Hb1.out⟩
                  · by_cases hk40 : 40 < kids
                    · rw [decide_eq_true (show kids < 1 ∨ 40 < kids by omega)] at hfi
                      go_wp2_with fail
                      refine (Has.out _).mono ?_
                      rintro e w1 ⟨rfl, hb1⟩
                      obtain ⟨d0, d1, d2, d3, d4, d5, Hb1⟩ := Hc.out w1 hb1
                      clear hb1 c0 c1 c2 c3 c4 c5
                      go_wp2_with fail
                      go_ret
                      rw [hbad.out hfi.out]
                      exact ⟨rfl, Hb1.out⟩
                    · rw [decide_eq_false (show ¬ (kids < 1 ∨ 40 < kids) by omega)] at hfi
                      go_wp2_with fail
                      refine (Has.out _).mono ?_
                      rintro e w1 ⟨rfl, hb1⟩
                      obtain ⟨d0, d1, d2, d3, d4, d5, Hb1⟩ := Hc.out w1 hb1
                      clear hb1 c0 c1 c2 c3 c4 c5
                      go_wp2_with fail
                      go_roundw
                      case rel => exact ⟨j + 1, by go_num, by omega, hgood.out hfi.out, Hb1⟩
                      case measure => simp [intOf]; omega
                · rw [decide_eq_true (by omega), Bool.true_and] at hfi
                  by_cases hk1 : kids < 1
                  · rw [decide_eq_true (show kids < 1 ∨ 40 < kids by omega)] at hfi
                    go_wp2_with fail
                    refine (Has.out _).mono ?_
                    rintro e w1 ⟨rfl, hb1⟩
                    obtain ⟨d0, d1, d2, d3, d4, d5, Hb1⟩ := Hc.out w1 hb1
                    clear hb1 c0 c1 c2 c3 c4 c5
                    go_wp2_with fail
                    go_ret
                    rw [hbad.out hfi.out]
                    exact ⟨rfl, Hb1.out⟩
                  · by_cases hk40 : 40 < kids
                    · rw [decide_eq_true (show kids < 1 ∨ 40 < kids by omega)] at hfi
                      go_wp2_with fail
                      refine (Has.out _).mono ?_
                      rintro e w1 ⟨rfl, hb1⟩
                      obtain ⟨d0, d1, d2, d3, d4, d5, Hb1⟩ := Hc.out w1 hb1
                      clear hb1 c0 c1 c2 c3 c4 c5
                      go_wp2_with fail
                      go_ret
                      rw [hbad.out hfi.out]
                      exact ⟨rfl, Hb1.out⟩
                    · rw [decide_eq_false (show ¬ (kids < 1 ∨ 40 < kids) by omega)] at hfi
                      go_wp2_with fail
                      refine (Has.out _).mono ?_
                      rintro e w1 ⟨rfl, hb1⟩
                      obtain ⟨d0, d1, d2, d3, d4, d5, Hb1⟩ := Hc.out w1 hb1
                      clear hb1 c0 c1 c2 c3 c4 c5
                      go_wp2_with fail
                      go_roundw
                      case rel => exact ⟨j + 1, by go_num, by omega, hgood.out hfi.out, Hb1⟩
                      case measure => simp [intOf]; omega
                · rw [decide_eq_false (by omega), Bool.false_and] at hfi
                  go_wp2_with fail
                  refine (Has.out _).mono ?_
                  rintro e w1 ⟨rfl, hb1⟩
                  obtain ⟨d0, d1, d2, d3, d4, d5, Hb1⟩ := Hc.out w1 hb1
                  clear hb1 c0 c1 c2 c3 c4 c5
                  go_wp2_with fail
                  go_roundw
                  case rel => exact ⟨j + 1, by go_num, by omega, hgood.out hfi.out, Hb1⟩
                  case measure => simp [intOf]; omega
        · have hA : l.all (fineN cols) = true := by
            have := Hall.out
            rw [List.take_of_length_le (by rw [Hl.out]; omega)] at this
            exact this
          have He := Lib.hid (hend.out hA wr Hb.out)
          rw [hA, Bool.true_and] at hR
          clear hA hend Hall
          go_wp2_with fail
          refine He.out.mono ?_
          rintro e w2 ⟨⟨E, rfl, hE⟩, hb2⟩
          have Hb2 := Lib.hid (Hb.out.trans (hb2.mono Hb.out.size))
          rw [← hR.out] at hE
          clear hb2 He hR
          cases R
          · have hne : ((E : Int) == (n : Int)) = false := by
              have : ¬ E = n := fun h => by have := hE.1 h; cases this
              rw [beq_eq_false_iff_ne]
              omega
            clear hE
            go_wp2_with fail
            go_ret
            exact ⟨rfl, Hb2.out⟩
          · obtain rfl : E = n := hE.2 rfl
            clear hE
            go_wp2_with fail
            go_ret
            exact ⟨rfl, Hb2.out⟩
end Go.Proofs.YtipnglidepfkbaaDoor
