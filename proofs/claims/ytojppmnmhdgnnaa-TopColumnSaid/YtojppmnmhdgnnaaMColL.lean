/- Walks: the values of a column that are something, as bytes: the program's. -/
import Derived.Test.YtojppmnmhdgnnaaMCoJK
namespace Go.Proofs.Ytojppmnmhdgnnaa
set_option linter.unusedVariables false
set_option linter.unusedSimpArgs false
open Go.RowKit

attribute [local go_sem ↓] Go.wp_at_zero Go.wp_at_succ

/-- How lay ends. -/
def LayOK (x : List UInt8 × Int) (w : World) (e : Ending) (w' : World) : Prop :=
  (∃ A c, e = .returned (.tuple #[.slice A x.1.length c, .int .u8 x.2]) ∧ Own w' w.heap.size 5 1 A x.1.length c (Bs x.1)) ∧ Below w.heap.size w w'
theorem LayOK.of {b : List UInt8} {u : Int} {w w' : World} {A : Option Addr} {n c : Nat} (h : Own w' w.heap.size 5 1 A n c (Bs b)) (hn : b.length = n) (hb : Below w.heap.size w w') : LayOK (b, u) w (.returned (.tuple #[.slice A n c, .int .u8 u])) w' := by
  subst hn
  exact ⟨⟨A, c, rfl, h⟩, hb⟩

set_option maxHeartbeats 16000000 in
set_option maxRecDepth 100000 in
theorem lay_a1 (kind : Int) (h2 : kind ≠ 3) (N : List Int) (X : List (List UInt8)) (g tn tc nn nc xn xc : Nat) (TA NA XA : Option Addr) (w : World) (hg : Blk w g 64 [.int .u8 kind, .slice TA tn tc, .slice NA nn nc, .slice XA xn xc]) (hN : Rd w NA (icl N)) (hX : Rd w XA (wcl X)) (hnn : N.length = nn) (hxn : X.length = xn) (hn4 : nn ≤ 4096) (hx4 : xn ≤ 4096) (hNi : ∀ x ∈ N, -9223372036854775808 ≤ x ∧ x ≤ 9223372036854775807) (hXi : ∀ s ∈ X, s.length ≤ 1024) :
    Calls Try.prog 28 #[.pointer (some ⟨g, 0, none⟩), .int .u8 3] w fun e w' => LayOK (flatN N ++ flatX X, 1) w e w' := by
  have Hg := Lib.hid hg
  have HN := Lib.hid hN
  have HX := Lib.hid hX
  have Hnn := Lib.hid hnn
  have Hxn := Lib.hid hxn
  have HNi := Lib.hid hNi
  have HXi := Lib.hid hXi
  have hfn := Lib.hid (fun j => flatN_le hNi (by omega) j)
  have hfx := Lib.hid (fun j => flatX_le hXi (by omega) j)
  have y0 := hg.cell 0
  have y2 := hg.cell 2
  have y3 := hg.cell 3
  simp only [List.getElem?_cons_zero, List.getElem?_cons_succ] at y0 y2 y3
  have e2 : (kind == 3) = false := by rw [beq_eq_false_iff_ne]; exact h2
  clear h2
  clear hg hN hX hnn hxn hNi hXi
  go_enter Try.func28, Try.ntmps28
  have Hb : Hid (Below w.heap.size w w) := Below.refl _ _
  go_wp2_with fail
  go_loopw [14, 85] (fun vb vi wr => ∃ (j bl c' : Nat) (A' : Option Addr), vb = .slice A' bl c' ∧ vi = .int .i64 (j : Int) ∧ j ≤ nn ∧ Hid ((flatN (N.take j)).length = bl) ∧ Hid (Own wr w.heap.size 5 1 A' bl c' (Bs (flatN (N.take j)))) ∧ Hid (Below w.heap.size w wr)) (fun _ vi _ => nn - (intOf vi).toNat)
  case atStart => exact ⟨0, 0, 0, none, rfl, rfl, by omega, rfl, Own.nil _ _ _ _, Hb⟩
  case round =>
    obtain ⟨j, bl, c', A', rfl, rfl, hj, Hbl, Ho, Hbr⟩ := hrel
    by_cases hjn : j < nn
    · have hjl : j < N.length := by rw [Hnn.out]; exact hjn
      have hjI : (j : Int) < (nn : Int) := by omega
      have hj0 : (0 : Int) ≤ (j : Int) := by omega
      obtain ⟨b, o, rfl, c0⟩ := icl_get (HN.out.below Hbr.out) hjl
      have hx := HNi.out _ (List.getElem_mem hjl)
      have Hsn := Lib.hid (flatN_snoc hjl)
      have hbl := hfn.out j
      rw [Hbl.out] at hbl
      generalize N[j] = x at *
      have Hx := Lib.hid hx
      have hz9 := numB_le9 (zigN_lt hx)
      have Hrd := Lib.hid Ho.out.rd
      clear hjl hx Ho
      go_wp2_with fail
      refine (int_any (flatN (N.take j)) bl c' x A' wr Hbl.out Hrd.out (by omega) Hx.out).mono ?_
      rintro e w6 ⟨A6, c6, rfl, ho6, hb6⟩
      rw [← Hsn.out] at ho6
      have HO6 := Lib.hid (ho6.lower Hbr.out.size)
      have Hb6 := Lib.hid (Hbr.out.trans (hb6.mono Hbr.out.size))
      have Hl6 : Hid ((flatN (N.take (j + 1))).length = bl + (numB (zigN x)).length) := by show _ = _; rw [Hsn.out, List.length_append, Hbl.out]
      clear ho6 hb6 Hrd c0
      go_wp2_with fail
      go_roundw
      case rel => exact ⟨j + 1, _, c6, A6, rfl, by go_num, by omega, Hl6, HO6, Hb6⟩
      case measure => simp only [intOf, Int.toNat_natCast]; omega
    · obtain rfl : j = nn := by omega
      have hta : N.take j = N := List.take_of_length_le (by rw [Hnn.out]; exact Nat.le_refl _)
      have hbl := hfn.out j
      rw [Hbl.out] at hbl
      rw [hta] at Hbl Ho
      have hgr := Hg.out.below Hbr.out
      have y0 := hgr.cell 0
      have y2 := hgr.cell 2
      have y3 := hgr.cell 3
      simp only [List.getElem?_cons_zero, List.getElem?_cons_succ] at y0 y2 y3
      clear hta hgr
      generalize wr = wo at *
      go_wp2_with fail
      go_loopw [14, 98] (fun vb vi wi => ∃ (q bq cq : Nat) (Aq : Option Addr), vb = .slice Aq bq cq ∧ vi = .int .i64 (q : Int) ∧ q ≤ xn ∧ bq ≤ bl + 4231168 ∧ Hid ((flatN N ++ flatX (X.take q)).length = bq) ∧ Hid (Own wi w.heap.size 5 1 Aq bq cq (Bs (flatN N ++ flatX (X.take q)))) ∧ Hid (Below w.heap.size w wi)) (fun _ vi _ => xn - (intOf vi).toNat)
      case atStart => exact ⟨0, bl, c', A', rfl, rfl, by omega, by omega, by rw [List.take_zero, show flatX [] = [] from rfl, List.append_nil]; exact Hbl, by rw [List.take_zero, show flatX [] = [] from rfl, List.append_nil]; exact Ho, Hbr⟩
      case round =>
        obtain ⟨q, bq, cq, Aq, rfl, rfl, hq, hbq, Hbq, Hoq, Hbw⟩ := hrel
        by_cases hqn : q < xn
        · have hql : q < X.length := by rw [Hxn.out]; exact hqn
          have hqI : (q : Int) < (xn : Int) := by omega
          have hq0 : (0 : Int) ≤ (q : Int) := by omega
          obtain ⟨b, o, rfl, c0⟩ := (HX.out.below Hbw.out).word hql
          have hx := HXi.out _ (List.getElem_mem hql)
          have Hsn := Lib.hid (flatX_snoc hql (flatN N))
          have hfx2 := hfx.out (q + 1)
          generalize X[q] = s at *
          obtain ⟨S, hS⟩ : ∃ S, s.length = S := ⟨_, rfl⟩
          rw [hS] at hx Hsn
          have HS := Lib.hid hS
          have hs9 := numB_le9 (n := S) (by omega)
          have Hrd := Lib.hid Hoq.out.rd
          have Hl6 : Hid ((flatN N ++ flatX (X.take (q + 1))).length = bq + (numB S).length + S) := by show _ = _; rw [Hsn.out, List.length_append, Hbq.out, List.length_append, HS.out]; omega
          have hlen2 : bq + (numB S).length + S ≤ bl + 4231168 := by
            rw [← Hl6.out, List.length_append, Hbl.out]
            omega
          clear hql Hoq hS
          go_wp2_with fail
          refine (text_any (flatN N ++ flatX (X.take q)) s bq cq S Aq wr Hbq.out HS.out Hrd.out (by omega) (by omega)).mono ?_
          rintro e w6 ⟨A6, c6, rfl, ho6, hb6⟩
          rw [← Hsn.out] at ho6
          have HO6 := Lib.hid (ho6.lower Hbw.out.size)
          have Hb6 := Lib.hid (Hbw.out.trans (hb6.mono Hbw.out.size))
          clear ho6 hb6 Hrd c0
          go_wp2_with fail
          go_roundw
          case rel => exact ⟨q + 1, _, c6, A6, rfl, by go_num, by omega, hlen2, Hl6, HO6, Hb6⟩
          case measure => simp only [intOf, Int.toNat_natCast]; omega
        · obtain rfl : q = xn := by omega
          have htx : X.take q = X := List.take_of_length_le (by rw [Hxn.out]; exact Nat.le_refl _)
          rw [htx] at Hbq Hoq
          clear htx
          go_wp2_with fail
          go_ret2
          exact LayOK.of Hoq.out Hbq.out Hbw.out
set_option maxHeartbeats 16000000 in
set_option maxRecDepth 100000 in
theorem lay_a2 (how : Int) (h1 : how ≠ 3) (N : List Int) (X : List (List UInt8)) (g tn tc nn nc xn xc : Nat) (TA NA XA : Option Addr) (w : World) (hg : Blk w g 64 [.int .u8 3, .slice TA tn tc, .slice NA nn nc, .slice XA xn xc]) (hN : Rd w NA (icl N)) (hX : Rd w XA (wcl X)) (hnn : N.length = nn) (hxn : X.length = xn) (hn4 : nn ≤ 4096) (hx4 : xn ≤ 4096) (hNi : ∀ x ∈ N, -9223372036854775808 ≤ x ∧ x ≤ 9223372036854775807) (hXi : ∀ s ∈ X, s.length ≤ 1024) :
    Calls Try.prog 28 #[.pointer (some ⟨g, 0, none⟩), .int .u8 how] w fun e w' => LayOK (flatN N ++ flatX X, 1) w e w' := by
  have Hg := Lib.hid hg
  have HN := Lib.hid hN
  have HX := Lib.hid hX
  have Hnn := Lib.hid hnn
  have Hxn := Lib.hid hxn
  have HNi := Lib.hid hNi
  have HXi := Lib.hid hXi
  have hfn := Lib.hid (fun j => flatN_le hNi (by omega) j)
  have hfx := Lib.hid (fun j => flatX_le hXi (by omega) j)
  have y0 := hg.cell 0
  have y2 := hg.cell 2
  have y3 := hg.cell 3
  simp only [List.getElem?_cons_zero, List.getElem?_cons_succ] at y0 y2 y3
  have e1 : (how == 3) = false := by rw [beq_eq_false_iff_ne]; exact h1
  clear h1
  clear hg hN hX hnn hxn hNi hXi
  go_enter Try.func28, Try.ntmps28
  have Hb : Hid (Below w.heap.size w w) := Below.refl _ _
  go_wp2_with fail
  go_loopw [14, 85] (fun vb vi wr => ∃ (j bl c' : Nat) (A' : Option Addr), vb = .slice A' bl c' ∧ vi = .int .i64 (j : Int) ∧ j ≤ nn ∧ Hid ((flatN (N.take j)).length = bl) ∧ Hid (Own wr w.heap.size 5 1 A' bl c' (Bs (flatN (N.take j)))) ∧ Hid (Below w.heap.size w wr)) (fun _ vi _ => nn - (intOf vi).toNat)
  case atStart => exact ⟨0, 0, 0, none, rfl, rfl, by omega, rfl, Own.nil _ _ _ _, Hb⟩
  case round =>
    obtain ⟨j, bl, c', A', rfl, rfl, hj, Hbl, Ho, Hbr⟩ := hrel
    by_cases hjn : j < nn
    · have hjl : j < N.length := by rw [Hnn.out]; exact hjn
      have hjI : (j : Int) < (nn : Int) := by omega
      have hj0 : (0 : Int) ≤ (j : Int) := by omega
      obtain ⟨b, o, rfl, c0⟩ := icl_get (HN.out.below Hbr.out) hjl
      have hx := HNi.out _ (List.getElem_mem hjl)
      have Hsn := Lib.hid (flatN_snoc hjl)
      have hbl := hfn.out j
      rw [Hbl.out] at hbl
      generalize N[j] = x at *
      have Hx := Lib.hid hx
      have hz9 := numB_le9 (zigN_lt hx)
      have Hrd := Lib.hid Ho.out.rd
      clear hjl hx Ho
      go_wp2_with fail
      refine (int_any (flatN (N.take j)) bl c' x A' wr Hbl.out Hrd.out (by omega) Hx.out).mono ?_
      rintro e w6 ⟨A6, c6, rfl, ho6, hb6⟩
      rw [← Hsn.out] at ho6
      have HO6 := Lib.hid (ho6.lower Hbr.out.size)
      have Hb6 := Lib.hid (Hbr.out.trans (hb6.mono Hbr.out.size))
      have Hl6 : Hid ((flatN (N.take (j + 1))).length = bl + (numB (zigN x)).length) := by show _ = _; rw [Hsn.out, List.length_append, Hbl.out]
      clear ho6 hb6 Hrd c0
      go_wp2_with fail
      go_roundw
      case rel => exact ⟨j + 1, _, c6, A6, rfl, by go_num, by omega, Hl6, HO6, Hb6⟩
      case measure => simp only [intOf, Int.toNat_natCast]; omega
    · obtain rfl : j = nn := by omega
      have hta : N.take j = N := List.take_of_length_le (by rw [Hnn.out]; exact Nat.le_refl _)
      have hbl := hfn.out j
      rw [Hbl.out] at hbl
      rw [hta] at Hbl Ho
      have hgr := Hg.out.below Hbr.out
      have y0 := hgr.cell 0
      have y2 := hgr.cell 2
      have y3 := hgr.cell 3
      simp only [List.getElem?_cons_zero, List.getElem?_cons_succ] at y0 y2 y3
      clear hta hgr
      generalize wr = wo at *
      go_wp2_with fail
      go_loopw [14, 98] (fun vb vi wi => ∃ (q bq cq : Nat) (Aq : Option Addr), vb = .slice Aq bq cq ∧ vi = .int .i64 (q : Int) ∧ q ≤ xn ∧ bq ≤ bl + 4231168 ∧ Hid ((flatN N ++ flatX (X.take q)).length = bq) ∧ Hid (Own wi w.heap.size 5 1 Aq bq cq (Bs (flatN N ++ flatX (X.take q)))) ∧ Hid (Below w.heap.size w wi)) (fun _ vi _ => xn - (intOf vi).toNat)
      case atStart => exact ⟨0, bl, c', A', rfl, rfl, by omega, by omega, by rw [List.take_zero, show flatX [] = [] from rfl, List.append_nil]; exact Hbl, by rw [List.take_zero, show flatX [] = [] from rfl, List.append_nil]; exact Ho, Hbr⟩
      case round =>
        obtain ⟨q, bq, cq, Aq, rfl, rfl, hq, hbq, Hbq, Hoq, Hbw⟩ := hrel
        by_cases hqn : q < xn
        · have hql : q < X.length := by rw [Hxn.out]; exact hqn
          have hqI : (q : Int) < (xn : Int) := by omega
          have hq0 : (0 : Int) ≤ (q : Int) := by omega
          obtain ⟨b, o, rfl, c0⟩ := (HX.out.below Hbw.out).word hql
          have hx := HXi.out _ (List.getElem_mem hql)
          have Hsn := Lib.hid (flatX_snoc hql (flatN N))
          have hfx2 := hfx.out (q + 1)
          generalize X[q] = s at *
          obtain ⟨S, hS⟩ : ∃ S, s.length = S := ⟨_, rfl⟩
          rw [hS] at hx Hsn
          have HS := Lib.hid hS
          have hs9 := numB_le9 (n := S) (by omega)
          have Hrd := Lib.hid Hoq.out.rd
          have Hl6 : Hid ((flatN N ++ flatX (X.take (q + 1))).length = bq + (numB S).length + S) := by show _ = _; rw [Hsn.out, List.length_append, Hbq.out, List.length_append, HS.out]; omega
          have hlen2 : bq + (numB S).length + S ≤ bl + 4231168 := by
            rw [← Hl6.out, List.length_append, Hbl.out]
            omega
          clear hql Hoq hS
          go_wp2_with fail
          refine (text_any (flatN N ++ flatX (X.take q)) s bq cq S Aq wr Hbq.out HS.out Hrd.out (by omega) (by omega)).mono ?_
          rintro e w6 ⟨A6, c6, rfl, ho6, hb6⟩
          rw [← Hsn.out] at ho6
          have HO6 := Lib.hid (ho6.lower Hbw.out.size)
          have Hb6 := Lib.hid (Hbw.out.trans (hb6.mono Hbw.out.size))
          clear ho6 hb6 Hrd c0
          go_wp2_with fail
          go_roundw
          case rel => exact ⟨q + 1, _, c6, A6, rfl, by go_num, by omega, hlen2, Hl6, HO6, Hb6⟩
          case measure => simp only [intOf, Int.toNat_natCast]; omega
        · obtain rfl : q = xn := by omega
          have htx : X.take q = X := List.take_of_length_le (by rw [Hxn.out]; exact Nat.le_refl _)
          rw [htx] at Hbq Hoq
          clear htx
          go_wp2_with fail
          go_ret2
          exact LayOK.of Hoq.out Hbq.out Hbw.out
set_option maxHeartbeats 16000000 in
set_option maxRecDepth 100000 in
theorem lay_b1 (kind : Int) (h2 : kind ≠ 3) (N : List Int) (X : List (List UInt8)) (g tn tc nn nc xn xc : Nat) (TA NA XA : Option Addr) (w : World) (hg : Blk w g 64 [.int .u8 kind, .slice TA tn tc, .slice NA nn nc, .slice XA xn xc]) (hN : Rd w NA (icl N)) (hX : Rd w XA (wcl X)) (hnn : N.length = nn) (hxn : X.length = xn) (hn4 : nn ≤ 4096) (hx4 : xn ≤ 4096) (hNi : ∀ x ∈ N, -9223372036854775808 ≤ x ∧ x ≤ 9223372036854775807) (hXi : ∀ s ∈ X, s.length ≤ 1024) :
    Calls Try.prog 28 #[.pointer (some ⟨g, 0, none⟩), .int .u8 1] w fun e w' => LayOK (flatN N ++ flatX X, 1) w e w' := by
  have Hg := Lib.hid hg
  have HN := Lib.hid hN
  have HX := Lib.hid hX
  have Hnn := Lib.hid hnn
  have Hxn := Lib.hid hxn
  have HNi := Lib.hid hNi
  have HXi := Lib.hid hXi
  have hfn := Lib.hid (fun j => flatN_le hNi (by omega) j)
  have hfx := Lib.hid (fun j => flatX_le hXi (by omega) j)
  have y0 := hg.cell 0
  have y2 := hg.cell 2
  have y3 := hg.cell 3
  simp only [List.getElem?_cons_zero, List.getElem?_cons_succ] at y0 y2 y3
  have e2 : (kind == 3) = false := by rw [beq_eq_false_iff_ne]; exact h2
  clear h2
  clear hg hN hX hnn hxn hNi hXi
  go_enter Try.func28, Try.ntmps28
  have Hb : Hid (Below w.heap.size w w) := Below.refl _ _
  go_wp2_with fail
  go_loopw [14, 85] (fun vb vi wr => ∃ (j bl c' : Nat) (A' : Option Addr), vb = .slice A' bl c' ∧ vi = .int .i64 (j : Int) ∧ j ≤ nn ∧ Hid ((flatN (N.take j)).length = bl) ∧ Hid (Own wr w.heap.size 5 1 A' bl c' (Bs (flatN (N.take j)))) ∧ Hid (Below w.heap.size w wr)) (fun _ vi _ => nn - (intOf vi).toNat)
  case atStart => exact ⟨0, 0, 0, none, rfl, rfl, by omega, rfl, Own.nil _ _ _ _, Hb⟩
  case round =>
    obtain ⟨j, bl, c', A', rfl, rfl, hj, Hbl, Ho, Hbr⟩ := hrel
    by_cases hjn : j < nn
    · have hjl : j < N.length := by rw [Hnn.out]; exact hjn
      have hjI : (j : Int) < (nn : Int) := by omega
      have hj0 : (0 : Int) ≤ (j : Int) := by omega
      obtain ⟨b, o, rfl, c0⟩ := icl_get (HN.out.below Hbr.out) hjl
      have hx := HNi.out _ (List.getElem_mem hjl)
      have Hsn := Lib.hid (flatN_snoc hjl)
      have hbl := hfn.out j
      rw [Hbl.out] at hbl
      generalize N[j] = x at *
      have Hx := Lib.hid hx
      have hz9 := numB_le9 (zigN_lt hx)
      have Hrd := Lib.hid Ho.out.rd
      clear hjl hx Ho
      go_wp2_with fail
      refine (int_any (flatN (N.take j)) bl c' x A' wr Hbl.out Hrd.out (by omega) Hx.out).mono ?_
      rintro e w6 ⟨A6, c6, rfl, ho6, hb6⟩
      rw [← Hsn.out] at ho6
      have HO6 := Lib.hid (ho6.lower Hbr.out.size)
      have Hb6 := Lib.hid (Hbr.out.trans (hb6.mono Hbr.out.size))
      have Hl6 : Hid ((flatN (N.take (j + 1))).length = bl + (numB (zigN x)).length) := by show _ = _; rw [Hsn.out, List.length_append, Hbl.out]
      clear ho6 hb6 Hrd c0
      go_wp2_with fail
      go_roundw
      case rel => exact ⟨j + 1, _, c6, A6, rfl, by go_num, by omega, Hl6, HO6, Hb6⟩
      case measure => simp only [intOf, Int.toNat_natCast]; omega
    · obtain rfl : j = nn := by omega
      have hta : N.take j = N := List.take_of_length_le (by rw [Hnn.out]; exact Nat.le_refl _)
      have hbl := hfn.out j
      rw [Hbl.out] at hbl
      rw [hta] at Hbl Ho
      have hgr := Hg.out.below Hbr.out
      have y0 := hgr.cell 0
      have y2 := hgr.cell 2
      have y3 := hgr.cell 3
      simp only [List.getElem?_cons_zero, List.getElem?_cons_succ] at y0 y2 y3
      clear hta hgr
      generalize wr = wo at *
      go_wp2_with fail
      go_loopw [14, 98] (fun vb vi wi => ∃ (q bq cq : Nat) (Aq : Option Addr), vb = .slice Aq bq cq ∧ vi = .int .i64 (q : Int) ∧ q ≤ xn ∧ bq ≤ bl + 4231168 ∧ Hid ((flatN N ++ flatX (X.take q)).length = bq) ∧ Hid (Own wi w.heap.size 5 1 Aq bq cq (Bs (flatN N ++ flatX (X.take q)))) ∧ Hid (Below w.heap.size w wi)) (fun _ vi _ => xn - (intOf vi).toNat)
      case atStart => exact ⟨0, bl, c', A', rfl, rfl, by omega, by omega, by rw [List.take_zero, show flatX [] = [] from rfl, List.append_nil]; exact Hbl, by rw [List.take_zero, show flatX [] = [] from rfl, List.append_nil]; exact Ho, Hbr⟩
      case round =>
        obtain ⟨q, bq, cq, Aq, rfl, rfl, hq, hbq, Hbq, Hoq, Hbw⟩ := hrel
        by_cases hqn : q < xn
        · have hql : q < X.length := by rw [Hxn.out]; exact hqn
          have hqI : (q : Int) < (xn : Int) := by omega
          have hq0 : (0 : Int) ≤ (q : Int) := by omega
          obtain ⟨b, o, rfl, c0⟩ := (HX.out.below Hbw.out).word hql
          have hx := HXi.out _ (List.getElem_mem hql)
          have Hsn := Lib.hid (flatX_snoc hql (flatN N))
          have hfx2 := hfx.out (q + 1)
          generalize X[q] = s at *
          obtain ⟨S, hS⟩ : ∃ S, s.length = S := ⟨_, rfl⟩
          rw [hS] at hx Hsn
          have HS := Lib.hid hS
          have hs9 := numB_le9 (n := S) (by omega)
          have Hrd := Lib.hid Hoq.out.rd
          have Hl6 : Hid ((flatN N ++ flatX (X.take (q + 1))).length = bq + (numB S).length + S) := by show _ = _; rw [Hsn.out, List.length_append, Hbq.out, List.length_append, HS.out]; omega
          have hlen2 : bq + (numB S).length + S ≤ bl + 4231168 := by
            rw [← Hl6.out, List.length_append, Hbl.out]
            omega
          clear hql Hoq hS
          go_wp2_with fail
          refine (text_any (flatN N ++ flatX (X.take q)) s bq cq S Aq wr Hbq.out HS.out Hrd.out (by omega) (by omega)).mono ?_
          rintro e w6 ⟨A6, c6, rfl, ho6, hb6⟩
          rw [← Hsn.out] at ho6
          have HO6 := Lib.hid (ho6.lower Hbw.out.size)
          have Hb6 := Lib.hid (Hbw.out.trans (hb6.mono Hbw.out.size))
          clear ho6 hb6 Hrd c0
          go_wp2_with fail
          go_roundw
          case rel => exact ⟨q + 1, _, c6, A6, rfl, by go_num, by omega, hlen2, Hl6, HO6, Hb6⟩
          case measure => simp only [intOf, Int.toNat_natCast]; omega
        · obtain rfl : q = xn := by omega
          have htx : X.take q = X := List.take_of_length_le (by rw [Hxn.out]; exact Nat.le_refl _)
          rw [htx] at Hbq Hoq
          clear htx
          go_wp2_with fail
          go_ret2
          exact LayOK.of Hoq.out Hbq.out Hbw.out
set_option maxHeartbeats 16000000 in
set_option maxRecDepth 100000 in
theorem lay_b2 (kind : Int) (h2 : kind ≠ 3) (N : List Int) (X : List (List UInt8)) (g tn tc nn nc xn xc : Nat) (TA NA XA : Option Addr) (w : World) (hg : Blk w g 64 [.int .u8 kind, .slice TA tn tc, .slice NA nn nc, .slice XA xn xc]) (hN : Rd w NA (icl N)) (hX : Rd w XA (wcl X)) (hnn : N.length = nn) (hxn : X.length = xn) (hn4 : nn ≤ 4096) (hx4 : xn ≤ 4096) (hNi : ∀ x ∈ N, -9223372036854775808 ≤ x ∧ x ≤ 9223372036854775807) (hXi : ∀ s ∈ X, s.length ≤ 1024) :
    Calls Try.prog 28 #[.pointer (some ⟨g, 0, none⟩), .int .u8 2] w fun e w' => LayOK (runsB N, 2) w e w' := by
  have Hg := Lib.hid hg
  have HN := Lib.hid hN
  have HX := Lib.hid hX
  have Hnn := Lib.hid hnn
  have Hxn := Lib.hid hxn
  have HNi := Lib.hid hNi
  have HXi := Lib.hid hXi
  have hfn := Lib.hid (fun j => flatN_le hNi (by omega) j)
  have hfx := Lib.hid (fun j => flatX_le hXi (by omega) j)
  have y0 := hg.cell 0
  have y2 := hg.cell 2
  have y3 := hg.cell 3
  simp only [List.getElem?_cons_zero, List.getElem?_cons_succ] at y0 y2 y3
  have e2 : (kind == 3) = false := by rw [beq_eq_false_iff_ne]; exact h2
  clear h2
  clear hg hN hX hnn hxn hNi hXi
  go_enter Try.func28, Try.ntmps28
  obtain ⟨Z, hZ⟩ : ∃ Z, runsB N = Z := ⟨_, rfl⟩
  obtain ⟨F, hF⟩ : ∃ F, Z.length = F := ⟨_, rfl⟩
  have HZ := Lib.hid hZ
  have HF := Lib.hid hF
  clear hZ hF
  go_wp2_with fail
  refine (runsput_any N nn nc NA w Hnn.out HN.out hn4 HNi.out).mono ?_
  rintro e w3 h3
  rw [HZ.out] at h3
  obtain ⟨⟨A3, c3, rfl, ho3⟩, hb3⟩ := h3.len HF.out
  have Ho3 := Lib.hid ho3
  have Hb3 := Lib.hid hb3
  clear h3 ho3 hb3
  go_wp2_with fail
  go_ret2
  rw [HZ.out]
  exact LayOK.of Ho3.out HF.out Hb3.out
set_option maxHeartbeats 16000000 in
set_option maxRecDepth 100000 in
theorem lay_b4 (kind : Int) (h2 : kind ≠ 3) (N : List Int) (X : List (List UInt8)) (g tn tc nn nc xn xc : Nat) (TA NA XA : Option Addr) (w : World) (hg : Blk w g 64 [.int .u8 kind, .slice TA tn tc, .slice NA nn nc, .slice XA xn xc]) (hN : Rd w NA (icl N)) (hX : Rd w XA (wcl X)) (hnn : N.length = nn) (hxn : X.length = xn) (hn4 : nn ≤ 4096) (hx4 : xn ≤ 4096) (hNi : ∀ x ∈ N, -9223372036854775808 ≤ x ∧ x ≤ 9223372036854775807) (hXi : ∀ s ∈ X, s.length ≤ 1024) :
    Calls Try.prog 28 #[.pointer (some ⟨g, 0, none⟩), .int .u8 4] w fun e w' => LayOK (frameB N, 4) w e w' := by
  have Hg := Lib.hid hg
  have HN := Lib.hid hN
  have HX := Lib.hid hX
  have Hnn := Lib.hid hnn
  have Hxn := Lib.hid hxn
  have HNi := Lib.hid hNi
  have HXi := Lib.hid hXi
  have hfn := Lib.hid (fun j => flatN_le hNi (by omega) j)
  have hfx := Lib.hid (fun j => flatX_le hXi (by omega) j)
  have y0 := hg.cell 0
  have y2 := hg.cell 2
  have y3 := hg.cell 3
  simp only [List.getElem?_cons_zero, List.getElem?_cons_succ] at y0 y2 y3
  have e2 : (kind == 3) = false := by rw [beq_eq_false_iff_ne]; exact h2
  clear h2
  clear hg hN hX hnn hxn hNi hXi
  go_enter Try.func28, Try.ntmps28
  obtain ⟨Z, hZ⟩ : ∃ Z, frameB N = Z := ⟨_, rfl⟩
  obtain ⟨F, hF⟩ : ∃ F, Z.length = F := ⟨_, rfl⟩
  have HZ := Lib.hid hZ
  have HF := Lib.hid hF
  clear hZ hF
  go_wp2_with fail
  refine (frame_any N nn nc NA w Hnn.out HN.out hn4 HNi.out).mono ?_
  rintro e w3 h3
  rw [HZ.out] at h3
  obtain ⟨⟨A3, c3, rfl, ho3⟩, hb3⟩ := h3.len HF.out
  have Ho3 := Lib.hid ho3
  have Hb3 := Lib.hid hb3
  clear h3 ho3 hb3
  go_wp2_with fail
  go_ret2
  rw [HZ.out]
  exact LayOK.of Ho3.out HF.out Hb3.out
set_option maxHeartbeats 16000000 in
set_option maxRecDepth 100000 in
theorem lay_b5 (kind : Int) (h2 : kind ≠ 3) (R : List UInt8 × Int) (N : List Int) (X : List (List UInt8)) (g tn tc nn nc xn xc : Nat) (TA NA XA : Option Addr) (w : World) (hg : Blk w g 64 [.int .u8 kind, .slice TA tn tc, .slice NA nn nc, .slice XA xn xc]) (hN : Rd w NA (icl N)) (hX : Rd w XA (wcl X)) (hnn : N.length = nn) (hxn : X.length = xn) (hn4 : nn ≤ 4096) (hx4 : xn ≤ 4096) (hNi : ∀ x ∈ N, -9223372036854775808 ≤ x ∧ x ≤ 9223372036854775807) (hXi : ∀ s ∈ X, s.length ≤ 1024) (hR : (match deltaB N with | some b => (b, 5) | none => (flatN N ++ flatX X, 1)) = R) :
    Calls Try.prog 28 #[.pointer (some ⟨g, 0, none⟩), .int .u8 5] w fun e w' => LayOK (R) w e w' := by
  have Hg := Lib.hid hg
  have HN := Lib.hid hN
  have HX := Lib.hid hX
  have Hnn := Lib.hid hnn
  have Hxn := Lib.hid hxn
  have HNi := Lib.hid hNi
  have HXi := Lib.hid hXi
  have hfn := Lib.hid (fun j => flatN_le hNi (by omega) j)
  have hfx := Lib.hid (fun j => flatX_le hXi (by omega) j)
  have y0 := hg.cell 0
  have y2 := hg.cell 2
  have y3 := hg.cell 3
  simp only [List.getElem?_cons_zero, List.getElem?_cons_succ] at y0 y2 y3
  have e2 : (kind == 3) = false := by rw [beq_eq_false_iff_ne]; exact h2
  have HR := Lib.hid hR
  clear h2 hR
  clear hg hN hX hnn hxn hNi hXi
  go_enter Try.func28, Try.ntmps28
  go_wp2_with fail
  refine (deltaput_any N nn nc NA w Hnn.out HN.out hn4 HNi.out).mono ?_
  rintro e w3 h3
  cases hd : deltaB N with
  | none =>
    rcases h3 with ⟨_, rfl, hb3⟩ | ⟨b, h4, _⟩
    · have Hb := Lib.hid hb3
      have Hd := Lib.hid hd
      have hg3 := Hg.out.below hb3
      have y0 := hg3.cell 0
      have y2 := hg3.cell 2
      have y3 := hg3.cell 3
      simp only [List.getElem?_cons_zero, List.getElem?_cons_succ] at y0 y2 y3
      clear hb3 hd hg3
      go_wp2_with fail
      go_loopw [14, 85] (fun vb vi wr => ∃ (j bl c' : Nat) (A' : Option Addr), vb = .slice A' bl c' ∧ vi = .int .i64 (j : Int) ∧ j ≤ nn ∧ Hid ((flatN (N.take j)).length = bl) ∧ Hid (Own wr w.heap.size 5 1 A' bl c' (Bs (flatN (N.take j)))) ∧ Hid (Below w.heap.size w wr)) (fun _ vi _ => nn - (intOf vi).toNat)
      case atStart => exact ⟨0, 0, 0, none, rfl, rfl, by omega, rfl, Own.nil _ _ _ _, Hb⟩
      case round =>
        obtain ⟨j, bl, c', A', rfl, rfl, hj, Hbl, Ho, Hbr⟩ := hrel
        by_cases hjn : j < nn
        · have hjl : j < N.length := by rw [Hnn.out]; exact hjn
          have hjI : (j : Int) < (nn : Int) := by omega
          have hj0 : (0 : Int) ≤ (j : Int) := by omega
          obtain ⟨b, o, rfl, c0⟩ := icl_get (HN.out.below Hbr.out) hjl
          have hx := HNi.out _ (List.getElem_mem hjl)
          have Hsn := Lib.hid (flatN_snoc hjl)
          have hbl := hfn.out j
          rw [Hbl.out] at hbl
          generalize N[j] = x at *
          have Hx := Lib.hid hx
          have hz9 := numB_le9 (zigN_lt hx)
          have Hrd := Lib.hid Ho.out.rd
          clear hjl hx Ho
          go_wp2_with fail
          refine (int_any (flatN (N.take j)) bl c' x A' wr Hbl.out Hrd.out (by omega) Hx.out).mono ?_
          rintro e w6 ⟨A6, c6, rfl, ho6, hb6⟩
          rw [← Hsn.out] at ho6
          have HO6 := Lib.hid (ho6.lower Hbr.out.size)
          have Hb6 := Lib.hid (Hbr.out.trans (hb6.mono Hbr.out.size))
          have Hl6 : Hid ((flatN (N.take (j + 1))).length = bl + (numB (zigN x)).length) := by show _ = _; rw [Hsn.out, List.length_append, Hbl.out]
          clear ho6 hb6 Hrd c0
          go_wp2_with fail
          go_roundw
          case rel => exact ⟨j + 1, _, c6, A6, rfl, by go_num, by omega, Hl6, HO6, Hb6⟩
          case measure => simp only [intOf, Int.toNat_natCast]; omega
        · obtain rfl : j = nn := by omega
          have hta : N.take j = N := List.take_of_length_le (by rw [Hnn.out]; exact Nat.le_refl _)
          have hbl := hfn.out j
          rw [Hbl.out] at hbl
          rw [hta] at Hbl Ho
          have hgr := Hg.out.below Hbr.out
          have y0 := hgr.cell 0
          have y2 := hgr.cell 2
          have y3 := hgr.cell 3
          simp only [List.getElem?_cons_zero, List.getElem?_cons_succ] at y0 y2 y3
          clear hta hgr
          generalize wr = wo at *
          go_wp2_with fail
          go_loopw [14, 98] (fun vb vi wi => ∃ (q bq cq : Nat) (Aq : Option Addr), vb = .slice Aq bq cq ∧ vi = .int .i64 (q : Int) ∧ q ≤ xn ∧ bq ≤ bl + 4231168 ∧ Hid ((flatN N ++ flatX (X.take q)).length = bq) ∧ Hid (Own wi w.heap.size 5 1 Aq bq cq (Bs (flatN N ++ flatX (X.take q)))) ∧ Hid (Below w.heap.size w wi)) (fun _ vi _ => xn - (intOf vi).toNat)
          case atStart => exact ⟨0, bl, c', A', rfl, rfl, by omega, by omega, by rw [List.take_zero, show flatX [] = [] from rfl, List.append_nil]; exact Hbl, by rw [List.take_zero, show flatX [] = [] from rfl, List.append_nil]; exact Ho, Hbr⟩
          case round =>
            obtain ⟨q, bq, cq, Aq, rfl, rfl, hq, hbq, Hbq, Hoq, Hbw⟩ := hrel
            by_cases hqn : q < xn
            · have hql : q < X.length := by rw [Hxn.out]; exact hqn
              have hqI : (q : Int) < (xn : Int) := by omega
              have hq0 : (0 : Int) ≤ (q : Int) := by omega
              obtain ⟨b, o, rfl, c0⟩ := (HX.out.below Hbw.out).word hql
              have hx := HXi.out _ (List.getElem_mem hql)
              have Hsn := Lib.hid (flatX_snoc hql (flatN N))
              have hfx2 := hfx.out (q + 1)
              generalize X[q] = s at *
              obtain ⟨S, hS⟩ : ∃ S, s.length = S := ⟨_, rfl⟩
              rw [hS] at hx Hsn
              have HS := Lib.hid hS
              have hs9 := numB_le9 (n := S) (by omega)
              have Hrd := Lib.hid Hoq.out.rd
              have Hl6 : Hid ((flatN N ++ flatX (X.take (q + 1))).length = bq + (numB S).length + S) := by show _ = _; rw [Hsn.out, List.length_append, Hbq.out, List.length_append, HS.out]; omega
              have hlen2 : bq + (numB S).length + S ≤ bl + 4231168 := by
                rw [← Hl6.out, List.length_append, Hbl.out]
                omega
              clear hql Hoq hS
              go_wp2_with fail
              refine (text_any (flatN N ++ flatX (X.take q)) s bq cq S Aq wr Hbq.out HS.out Hrd.out (by omega) (by omega)).mono ?_
              rintro e w6 ⟨A6, c6, rfl, ho6, hb6⟩
              rw [← Hsn.out] at ho6
              have HO6 := Lib.hid (ho6.lower Hbw.out.size)
              have Hb6 := Lib.hid (Hbw.out.trans (hb6.mono Hbw.out.size))
              clear ho6 hb6 Hrd c0
              go_wp2_with fail
              go_roundw
              case rel => exact ⟨q + 1, _, c6, A6, rfl, by go_num, by omega, hlen2, Hl6, HO6, Hb6⟩
              case measure => simp only [intOf, Int.toNat_natCast]; omega
            · obtain rfl : q = xn := by omega
              have htx : X.take q = X := List.take_of_length_le (by rw [Hxn.out]; exact Nat.le_refl _)
              rw [htx] at Hbq Hoq
              clear htx
              go_wp2_with fail
              go_ret2
              rw [← HR.out, Hd.out]
              exact LayOK.of Hoq.out Hbq.out Hbw.out
    · rw [hd] at h4
      cases h4
  | some Z =>
    rcases h3 with ⟨h4, _⟩ | ⟨b, h4, h5⟩
    · rw [hd] at h4
      cases h4
    · rw [hd] at h4
      injection h4 with h4
      subst h4
      obtain ⟨F, hF⟩ : ∃ F, Z.length = F := ⟨_, rfl⟩
      obtain ⟨⟨A3, c3, rfl, ho3⟩, hb3⟩ := h5.len hF
      have Ho3 := Lib.hid ho3
      have Hb3 := Lib.hid hb3
      have HF := Lib.hid hF
      have Hd := Lib.hid hd
      clear h5 ho3 hb3 hF hd
      go_wp2_with fail
      go_ret2
      rw [← HR.out, Hd.out]
      exact LayOK.of Ho3.out HF.out Hb3.out
set_option maxHeartbeats 16000000 in
set_option maxRecDepth 100000 in
theorem lay_b3 (R : List UInt8 × Int) (N : List Int) (X : List (List UInt8)) (g tn tc nn nc xn xc : Nat) (TA NA XA : Option Addr) (w : World) (hg : Blk w g 64 [.int .u8 3, .slice TA tn tc, .slice NA nn nc, .slice XA xn xc]) (hN : Rd w NA (icl N)) (hX : Rd w XA (wcl X)) (hnn : N.length = nn) (hxn : X.length = xn) (hn4 : nn ≤ 4096) (hx4 : xn ≤ 4096) (hNi : ∀ x ∈ N, -9223372036854775808 ≤ x ∧ x ≤ 9223372036854775807) (hXi : ∀ s ∈ X, s.length ≤ 1024) (hR : (match wordsB X with | some b => (b, 3) | none => (flatN N ++ flatX X, 1)) = R) :
    Calls Try.prog 28 #[.pointer (some ⟨g, 0, none⟩), .int .u8 3] w fun e w' => LayOK (R) w e w' := by
  have Hg := Lib.hid hg
  have HN := Lib.hid hN
  have HX := Lib.hid hX
  have Hnn := Lib.hid hnn
  have Hxn := Lib.hid hxn
  have HNi := Lib.hid hNi
  have HXi := Lib.hid hXi
  have hfn := Lib.hid (fun j => flatN_le hNi (by omega) j)
  have hfx := Lib.hid (fun j => flatX_le hXi (by omega) j)
  have y0 := hg.cell 0
  have y2 := hg.cell 2
  have y3 := hg.cell 3
  simp only [List.getElem?_cons_zero, List.getElem?_cons_succ] at y0 y2 y3
  have HR := Lib.hid hR
  clear hR
  clear hg hN hX hnn hxn hNi hXi
  go_enter Try.func28, Try.ntmps28
  go_wp2_with fail
  refine (words_any X g xn xc _ _ _ XA w Hg.out Hxn.out HX.out hx4).mono ?_
  rintro e w3 ⟨h3, hb3⟩
  have Hb := Lib.hid hb3
  have hg3 := Hg.out.below hb3
  have y0 := hg3.cell 0
  have y2 := hg3.cell 2
  have y3 := hg3.cell 3
  simp only [List.getElem?_cons_zero, List.getElem?_cons_succ] at y0 y2 y3
  have HN3 := Lib.hid (HN.out.below hb3)
  clear hg3 hb3
  rcases h3 with ⟨hd, rfl⟩ | ⟨Z, A3, c3, hd, rfl, ho3⟩
  · have Hd := Lib.hid hd
    clear hd
    go_wp2_with fail
    refine (deltaput_any N nn nc NA w3 Hnn.out HN3.out hn4 HNi.out).mono ?_
    rintro e w4 h4
    have h5 : ∃ A4 n4 c4 E, e = .returned (.tuple #[.slice A4 n4 c4, .int .i64 E]) ∧ Below w3.heap.size w3 w4 := by
      rcases h4 with ⟨_, rfl, hb4⟩ | ⟨b, _, ⟨A4, c4, rfl, _⟩, hb4⟩
      · exact ⟨none, 0, 0, 8, rfl, hb4⟩
      · exact ⟨A4, _, c4, 0, rfl, hb4⟩
    obtain ⟨A4, n4, c4, E, rfl, hb4⟩ := h5
    clear h4
    have hg4 := (Hg.out.below Hb.out).below hb4
    replace Hb := Lib.hid (Hb.out.trans (hb4.mono Hb.out.size))
    have y0 := hg4.cell 0
    have y2 := hg4.cell 2
    have y3 := hg4.cell 3
    simp only [List.getElem?_cons_zero, List.getElem?_cons_succ] at y0 y2 y3
    clear hg4 hb4
    go_wp2_with fail
    go_loopw [14, 85] (fun vb vi wr => ∃ (j bl c' : Nat) (A' : Option Addr), vb = .slice A' bl c' ∧ vi = .int .i64 (j : Int) ∧ j ≤ nn ∧ Hid ((flatN (N.take j)).length = bl) ∧ Hid (Own wr w.heap.size 5 1 A' bl c' (Bs (flatN (N.take j)))) ∧ Hid (Below w.heap.size w wr)) (fun _ vi _ => nn - (intOf vi).toNat)
    case atStart => exact ⟨0, 0, 0, none, rfl, rfl, by omega, rfl, Own.nil _ _ _ _, Hb⟩
    case round =>
      obtain ⟨j, bl, c', A', rfl, rfl, hj, Hbl, Ho, Hbr⟩ := hrel
      by_cases hjn : j < nn
      · have hjl : j < N.length := by rw [Hnn.out]; exact hjn
        have hjI : (j : Int) < (nn : Int) := by omega
        have hj0 : (0 : Int) ≤ (j : Int) := by omega
        obtain ⟨b, o, rfl, c0⟩ := icl_get (HN.out.below Hbr.out) hjl
        have hx := HNi.out _ (List.getElem_mem hjl)
        have Hsn := Lib.hid (flatN_snoc hjl)
        have hbl := hfn.out j
        rw [Hbl.out] at hbl
        generalize N[j] = x at *
        have Hx := Lib.hid hx
        have hz9 := numB_le9 (zigN_lt hx)
        have Hrd := Lib.hid Ho.out.rd
        clear hjl hx Ho
        go_wp2_with fail
        refine (int_any (flatN (N.take j)) bl c' x A' wr Hbl.out Hrd.out (by omega) Hx.out).mono ?_
        rintro e w6 ⟨A6, c6, rfl, ho6, hb6⟩
        rw [← Hsn.out] at ho6
        have HO6 := Lib.hid (ho6.lower Hbr.out.size)
        have Hb6 := Lib.hid (Hbr.out.trans (hb6.mono Hbr.out.size))
        have Hl6 : Hid ((flatN (N.take (j + 1))).length = bl + (numB (zigN x)).length) := by show _ = _; rw [Hsn.out, List.length_append, Hbl.out]
        clear ho6 hb6 Hrd c0
        go_wp2_with fail
        go_roundw
        case rel => exact ⟨j + 1, _, c6, A6, rfl, by go_num, by omega, Hl6, HO6, Hb6⟩
        case measure => simp only [intOf, Int.toNat_natCast]; omega
      · obtain rfl : j = nn := by omega
        have hta : N.take j = N := List.take_of_length_le (by rw [Hnn.out]; exact Nat.le_refl _)
        have hbl := hfn.out j
        rw [Hbl.out] at hbl
        rw [hta] at Hbl Ho
        have hgr := Hg.out.below Hbr.out
        have y0 := hgr.cell 0
        have y2 := hgr.cell 2
        have y3 := hgr.cell 3
        simp only [List.getElem?_cons_zero, List.getElem?_cons_succ] at y0 y2 y3
        clear hta hgr
        generalize wr = wo at *
        go_wp2_with fail
        go_loopw [14, 98] (fun vb vi wi => ∃ (q bq cq : Nat) (Aq : Option Addr), vb = .slice Aq bq cq ∧ vi = .int .i64 (q : Int) ∧ q ≤ xn ∧ bq ≤ bl + 4231168 ∧ Hid ((flatN N ++ flatX (X.take q)).length = bq) ∧ Hid (Own wi w.heap.size 5 1 Aq bq cq (Bs (flatN N ++ flatX (X.take q)))) ∧ Hid (Below w.heap.size w wi)) (fun _ vi _ => xn - (intOf vi).toNat)
        case atStart => exact ⟨0, bl, c', A', rfl, rfl, by omega, by omega, by rw [List.take_zero, show flatX [] = [] from rfl, List.append_nil]; exact Hbl, by rw [List.take_zero, show flatX [] = [] from rfl, List.append_nil]; exact Ho, Hbr⟩
        case round =>
          obtain ⟨q, bq, cq, Aq, rfl, rfl, hq, hbq, Hbq, Hoq, Hbw⟩ := hrel
          by_cases hqn : q < xn
          · have hql : q < X.length := by rw [Hxn.out]; exact hqn
            have hqI : (q : Int) < (xn : Int) := by omega
            have hq0 : (0 : Int) ≤ (q : Int) := by omega
            obtain ⟨b, o, rfl, c0⟩ := (HX.out.below Hbw.out).word hql
            have hx := HXi.out _ (List.getElem_mem hql)
            have Hsn := Lib.hid (flatX_snoc hql (flatN N))
            have hfx2 := hfx.out (q + 1)
            generalize X[q] = s at *
            obtain ⟨S, hS⟩ : ∃ S, s.length = S := ⟨_, rfl⟩
            rw [hS] at hx Hsn
            have HS := Lib.hid hS
            have hs9 := numB_le9 (n := S) (by omega)
            have Hrd := Lib.hid Hoq.out.rd
            have Hl6 : Hid ((flatN N ++ flatX (X.take (q + 1))).length = bq + (numB S).length + S) := by show _ = _; rw [Hsn.out, List.length_append, Hbq.out, List.length_append, HS.out]; omega
            have hlen2 : bq + (numB S).length + S ≤ bl + 4231168 := by
              rw [← Hl6.out, List.length_append, Hbl.out]
              omega
            clear hql Hoq hS
            go_wp2_with fail
            refine (text_any (flatN N ++ flatX (X.take q)) s bq cq S Aq wr Hbq.out HS.out Hrd.out (by omega) (by omega)).mono ?_
            rintro e w6 ⟨A6, c6, rfl, ho6, hb6⟩
            rw [← Hsn.out] at ho6
            have HO6 := Lib.hid (ho6.lower Hbw.out.size)
            have Hb6 := Lib.hid (Hbw.out.trans (hb6.mono Hbw.out.size))
            clear ho6 hb6 Hrd c0
            go_wp2_with fail
            go_roundw
            case rel => exact ⟨q + 1, _, c6, A6, rfl, by go_num, by omega, hlen2, Hl6, HO6, Hb6⟩
            case measure => simp only [intOf, Int.toNat_natCast]; omega
          · obtain rfl : q = xn := by omega
            have htx : X.take q = X := List.take_of_length_le (by rw [Hxn.out]; exact Nat.le_refl _)
            rw [htx] at Hbq Hoq
            clear htx
            go_wp2_with fail
            go_ret2
            rw [← HR.out, Hd.out]
            exact LayOK.of Hoq.out Hbq.out Hbw.out
  · have Ho3 := Lib.hid ho3
    have Hd := Lib.hid hd
    obtain ⟨F, hF⟩ : ∃ F, Z.length = F := ⟨_, rfl⟩
    rw [hF] at Ho3 ⊢
    have HF := Lib.hid hF
    clear ho3 hd hF
    go_wp2_with fail
    go_ret2
    rw [← HR.out, Hd.out]
    exact LayOK.of Ho3.out HF.out Hb.out

theorem clay_any (kind how : Int) (hk : kindOk kind = true) (hh : howOk how = true) (N : List Int) (X : List (List UInt8)) (g tn tc nn nc xn xc : Nat) (TA NA XA : Option Addr) (w : World) (hg : Blk w g 64 [.int .u8 kind, .slice TA tn tc, .slice NA nn nc, .slice XA xn xc]) (hN : Rd w NA (icl N)) (hX : Rd w XA (wcl X)) (hnn : N.length = nn) (hxn : X.length = xn) (hn4 : nn ≤ 4096) (hx4 : xn ≤ 4096) (hNi : ∀ x ∈ N, -9223372036854775808 ≤ x ∧ x ≤ 9223372036854775807) (hXi : ∀ s ∈ X, s.length ≤ 1024) :
    Calls Try.prog 28 #[.pointer (some ⟨g, 0, none⟩), .int .u8 how] w fun e w' => LayOK (layP kind how N X) w e w' := by
  have hh2 := of_decide_eq_true hh
  by_cases h3 : how = 3
  · subst h3
    by_cases hk3 : kind = 3
    · subst hk3
      exact lay_b3 _ N X g tn tc nn nc xn xc TA NA XA w hg hN hX hnn hxn hn4 hx4 hNi hXi rfl
    · have e : layP kind 3 N X = (flatN N ++ flatX X, 1) := by unfold layP; rw [if_pos (by simp [hk3])]
      rw [e]
      exact lay_a1 kind hk3 N X g tn tc nn nc xn xc TA NA XA w hg hN hX hnn hxn hn4 hx4 hNi hXi
  · by_cases hk3 : kind = 3
    · subst hk3
      have e : layP 3 how N X = (flatN N ++ flatX X, 1) := by unfold layP; rw [if_pos (by simp [h3])]
      rw [e]
      exact lay_a2 how h3 N X g tn tc nn nc xn xc TA NA XA w hg hN hX hnn hxn hn4 hx4 hNi hXi
    · have e0 : ¬ ((decide (how = 3)) == (decide (kind = 3))) = false := by simp [h3, hk3]
      have hc : how = 1 ∨ how = 2 ∨ how = 4 ∨ how = 5 := by omega
      rcases hc with rfl | rfl | rfl | rfl
      · have e : layP kind 1 N X = (flatN N ++ flatX X, 1) := by unfold layP; rw [if_neg e0]; rfl
        rw [e]
        exact lay_b1 kind hk3 N X g tn tc nn nc xn xc TA NA XA w hg hN hX hnn hxn hn4 hx4 hNi hXi
      · have e : layP kind 2 N X = (runsB N, 2) := by unfold layP; rw [if_neg e0]; rfl
        rw [e]
        exact lay_b2 kind hk3 N X g tn tc nn nc xn xc TA NA XA w hg hN hX hnn hxn hn4 hx4 hNi hXi
      · have e : layP kind 4 N X = (frameB N, 4) := by unfold layP; rw [if_neg e0]; rfl
        rw [e]
        exact lay_b4 kind hk3 N X g tn tc nn nc xn xc TA NA XA w hg hN hX hnn hxn hn4 hx4 hNi hXi
      · have e : layP kind 5 N X = match deltaB N with | some b => (b, 5) | none => (flatN N ++ flatX X, 1) := by unfold layP; rw [if_neg e0]; rfl
        rw [e]
        exact lay_b5 kind hk3 _ N X g tn tc nn nc xn xc TA NA XA w hg hN hX hnn hxn hn4 hx4 hNi hXi rfl
end Go.Proofs.Ytojppmnmhdgnnaa
