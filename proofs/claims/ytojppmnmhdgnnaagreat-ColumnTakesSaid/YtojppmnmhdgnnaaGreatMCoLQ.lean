/- Walks: the values of a column that are something, as bytes: the program's. The walk of column.Put: values of a kind as bytes. -/
import Derived.Test.YtojppmnmhdgnnaaGreatMCoJK
namespace Go.Proofs.YtojppmnmhdgnnaaGreat
set_option linter.unusedVariables false
set_option linter.unusedSimpArgs false
open Go.RowKit

attribute [local go_sem ↓] Go.wp_at_zero Go.wp_at_succ

/-- How lay ends. -/
def LayOK (x : List UInt8 × Int) (w : World) (e : Ending) (w' : World) : Prop :=
  (∃ A c, e = .returned (.tuple #[.slice A x.1.length c, .int .u8 x.2]) ∧ Own w' w.heap.size 5 1 A x.1.length c (Bs x.1)) ∧ Below w.heap.size w w'
theorem LayOK.of {b : List UInt8} {u : Int} {w w' : World} {A : Option Addr} {n c : Nat} (h : Own w' w.heap.size 5 1 A n c (Bs b)) (hn : b.length = n) (hb : Below w.heap.size w w') : LayOK (b, u) w (.returned (.tuple #[.slice A n c, .int .u8 u])) w' := by
  subst hn
  exact ⟨⟨A, c, rfl, h⟩, hb⟩

set_option maxHeartbeats 16000000 in
set_option maxRecDepth 100000 in
theorem lay_a1 (kind : Int) (h2 : kind ≠ 3) (N : List Int) (X : List (List UInt8)) (g tn tc nn nc xn xc : Nat) (TA NA XA : Option Addr) (w : World) (hg : Blk w g 40 [.int .u8 kind, .slice TA tn tc, .slice NA nn nc, .slice XA xn xc]) (hN : Rd w NA (icl N)) (hX : Rd w XA (wcl X)) (hnn : N.length = nn) (hxn : X.length = xn) (hn4 : nn ≤ 4096) (hx4 : xn ≤ 4096) (hNi : ∀ x ∈ N, -9223372036854775808 ≤ x ∧ x ≤ 9223372036854775807) (hXi : ∀ s ∈ X, s.length ≤ 1024) :
    Calls Tryz.prog 42 #[.pointer (some ⟨g, 0, none⟩), .int .u8 3] w fun e w' => LayOK (flatN N ++ flatX X, 1) w e w' := by
  have Hg := Lib.hid hg
  have HN := Lib.hid hN
  have HX := Lib.hid hX
  have Hnn := Lib.hid hnn
  have Hxn := Lib.hid hxn
  have HNi := Lib.hid hNi
  have HXi := Lib.hid hXi
  have hfn := Lib.hid (fun j => flatN_le hNi (by omega) j)
  have hfx := Lib.hid (fun j => flatX_le hXi (by omega) j)
  have y0 := hg.cell 0
  have y2 := hg.cell 2
  have y3 := hg.cell 3
  simp only [List.getElem?_cons_zero, List.getElem?_cons_succ] at y0 y2 y3
  have e2 : (kind == 3) = false := by rw [beq_eq_false_iff_ne]; exact h2
  clear h2
  clear hg hN hX hnn hxn hNi hXi
  go_enter Tryz.func42, Tryz.ntmps42
  have Hb : Hid (Below w.heap.size w w) := Below.refl _ _
  go_wp2_with fail
  go_loopw [14, 85] (fun vb vi wr => ∃ (j bl c' : Nat) (A' : Option Addr), vb = .slice A' bl c' ∧ vi = .int .i64 (j : Int) ∧ j ≤ nn ∧ Hid ((flatN (N.take j)).length = bl) ∧ Hid (Own wr w.heap.size 5 1 A' bl c' (Bs (flatN (N.take j)))) ∧ Hid (Below w.heap.size w wr)) (fun _ vi _ => nn - (intOf vi).toNat)
  case atStart => exact ⟨0, 0, 0, none, rfl, rfl, by omega, rfl, Own.nil _ _ _ _, Hb⟩
  case round =>
    obtain ⟨j, bl, c', A', rfl, rfl, hj, Hbl, Ho, Hbr⟩ := hrel
    by_cases hjn : j < nn
    · have hjl : j < N.length := by rw [Hnn.out]; exact hjn
      have hjI : (j : Int) < (nn : Int) := by omega
      have hj0 : (0 : Int) ≤ (j : Int) := by omega
      obtain ⟨b, o, rfl, c0⟩ := icl_get (HN.out.below Hbr.out) hjl
      have hx := HNi.out _ (List.getElem_mem hjl)
      have Hsn := Lib.hid (flatN_snoc hjl)
      have hbl := hfn.out j
      rw [Hbl.out] at hbl
      generalize N[j] = x at *
      have Hx := Lib.hid hx
      have hz9 := numB_le9 (zigN_lt hx)
      have Hrd := Lib.hid Ho.out.rd
      clear hjl hx Ho
      go_wp2_with fail
      refine (int_any (flatN (N.take j)) bl c' x A' wr Hbl.out Hrd.out (by omega) Hx.out).mono ?_
      rintro e w6 ⟨A6, c6, rfl, ho6, hb6⟩
      rw [← Hsn.out] at ho6
      have HO6 := Lib.hid (ho6.lower Hbr.out.size)
      have Hb6 := Lib.hid (Hbr.out.trans (hb6.mono Hbr.out.size))
      have Hl6 : Hid ((flatN (N.take (j + 1))).length = bl + (numB (zigN x)).length) := by show _ = _; rw [Hsn.out, List.length_append, Hbl.out]
      clear ho6 hb6 Hrd c0
      go_wp2_with fail
      go_roundw
      case rel => exact ⟨j + 1, _, c6, A6, rfl, by go_num, by omega, Hl6, HO6, Hb6⟩
      case measure => simp only [intOf, Int.toNat_natCast]; omega
    · obtain rfl : j = nn := by omega
      have hta : N.take j = N := List.take_of_length_le (by rw [Hnn.out]; exact Nat.le_refl _)
      have hbl := hfn.out j
      rw [Hbl.out] at hbl
      rw [hta] at Hbl Ho
      have hgr := Hg.out.below Hbr.out
      have y0 := hgr.cell 0
      have y2 := hgr.cell 2
      have y3 := hgr.cell 3
      simp only [List.getElem?_cons_zero, List.getElem?_cons_succ] at y0 y2 y3
      clear hta hgr
      generalize wr = wo at *
      go_wp2_with fail
      go_loopw [14, 98] (fun vb vi wi => ∃ (q bq cq : Nat) (Aq : Option Addr), vb = .slice Aq bq cq ∧ vi = .int .i64 (q : Int) ∧ q ≤ xn ∧ bq ≤ bl + 4231168 ∧ Hid ((flatN N ++ flatX (X.take q)).length = bq) ∧ Hid (Own wi w.heap.size 5 1 Aq bq cq (Bs (flatN N ++ flatX (X.take q)))) ∧ Hid (Below w.heap.size w wi)) (fun _ vi _ => xn - (intOf vi).toNat)
      case atStart => exact ⟨0, bl, c', A', rfl, rfl, by omega, by omega, by rw [List.take_zero, show flatX [] = [] from rfl, List.append_nil]; exact Hbl, by rw [List.take_zero, show flatX [] = [] from rfl, List.append_nil]; exact Ho, Hbr⟩
      case round =>
        obtain ⟨q, bq, cq, Aq, rfl, rfl, hq, hbq, Hbq, Hoq, Hbw⟩ := hrel
        by_cases hqn : q < xn
        · have hql : q < X.length := by rw [Hxn.out]; exact hqn
          have hqI : (q : Int) < (xn : Int) := by omega
          have hq0 : (0 : Int) ≤ (q : Int) := by omega
          obtain ⟨b, o, rfl, c0⟩ := (HX.out.below Hbw.out).word hql
          have hx := HXi.out _ (List.getElem_mem hql)
          have Hsn := Lib.hid (flatX_snoc hql (flatN N))
          have hfx2 := hfx.out (q + 1)
          generalize X[q] = s at *
          obtain ⟨S, hS⟩ : ∃ S, s.length = S := ⟨_, rfl⟩
          rw [hS] at hx Hsn
          have HS := Lib.hid hS
          have hs9 := numB_le9 (n := S) (by omega)
          have Hrd := Lib.hid Hoq.out.rd
          have Hl6 : Hid ((flatN N ++ flatX (X.take (q + 1))).length = bq + (numB S).length + S) := by show _ = _; rw [Hsn.out, List.length_append, Hbq.out, List.length_append, HS.out]; omega
          have hlen2 : bq + (numB S).length + S ≤ bl + 4231168 := by
            rw [← Hl6.out, List.length_append, Hbl.out]
            omega
          clear hql Hoq hS
          go_wp2_with fail
          refine (text_any (flatN N ++ flatX (X.take q)) s bq cq S Aq wr Hbq.out HS.out Hrd.out (by omega) (by omega)).mono ?_
          rintro e w6 ⟨A6, c6, rfl, ho6, hb6⟩
          rw [← Hsn.out] at ho6
          have HO6 := Lib.hid (ho6.lower Hbw.out.size)
          have Hb6 := Lib.hid (Hbw.out.trans (hb6.mono Hbw.out.size))
          clear ho6 hb6 Hrd c0
          go_wp2_with fail
          go_roundw
          case rel => exact ⟨q + 1, _, c6, A6, rfl, by go_num, by omega, hlen2, Hl6, HO6, Hb6⟩
          case measure => simp only [intOf, Int.toNat_natCast]; omega
        · obtain rfl : q = xn := by omega
          have htx : X.take q = X := List.take_of_length_le (by rw [Hxn.out]; exact Nat.le_refl _)
          rw [htx] at Hbq Hoq
          clear htx
          go_wp2_with fail
          go_ret2
          exact LayOK.of Hoq.out Hbq.out Hbw.out
set_option maxHeartbeats 16000000 in
set_option maxRecDepth 100000 in
theorem lay_a2 (how : Int) (h1 : how ≠ 3) (N : List Int) (X : List (List UInt8)) (g tn tc nn nc xn xc : Nat) (TA NA XA : Option Addr) (w : World) (hg : Blk w g 40 [.int .u8 3, .slice TA tn tc, .slice NA nn nc, .slice XA xn xc]) (hN : Rd w NA (icl N)) (hX : Rd w XA (wcl X)) (hnn : N.length = nn) (hxn : X.length = xn) (hn4 : nn ≤ 4096) (hx4 : xn ≤ 4096) (hNi : ∀ x ∈ N, -9223372036854775808 ≤ x ∧ x ≤ 9223372036854775807) (hXi : ∀ s ∈ X, s.length ≤ 1024) :
    Calls Tryz.prog 42 #[.pointer (some ⟨g, 0, none⟩), .int .u8 how] w fun e w' => LayOK (flatN N ++ flatX X, 1) w e w' := by
  have Hg := Lib.hid hg
  have HN := Lib.hid hN
  have HX := Lib.hid hX
  have Hnn := Lib.hid hnn
  have Hxn := Lib.hid hxn
  have HNi := Lib.hid hNi
  have HXi := Lib.hid hXi
  have hfn := Lib.hid (fun j => flatN_le hNi (by omega) j)
  have hfx := Lib.hid (fun j => flatX_le hXi (by omega) j)
  have y0 := hg.cell 0
  have y2 := hg.cell 2
  have y3 := hg.cell 3
  simp only [List.getElem?_cons_zero, List.getElem?_cons_succ] at y0 y2 y3
  have e1 : (how == 3) = false := by rw [beq_eq_false_iff_ne]; exact h1
  clear h1
  clear hg hN hX hnn hxn hNi hXi
  go_enter Tryz.func42, Tryz.ntmps42
  have Hb : Hid (Below w.heap.size w w) := Below.refl _ _
  go_wp2_with fail
  go_loopw [14, 85] (fun vb vi wr => ∃ (j bl c' : Nat) (A' : Option Addr), vb = .slice A' bl c' ∧ vi = .int .i64 (j : Int) ∧ j ≤ nn ∧ Hid ((flatN (N.take j)).length = bl) ∧ Hid (Own wr w.heap.size 5 1 A' bl c' (Bs (flatN (N.take j)))) ∧ Hid (Below w.heap.size w wr)) (fun _ vi _ => nn - (intOf vi).toNat)
  case atStart => exact ⟨0, 0, 0, none, rfl, rfl, by omega, rfl, Own.nil _ _ _ _, Hb⟩
  case round =>
    obtain ⟨j, bl, c', A', rfl, rfl, hj, Hbl, Ho, Hbr⟩ := hrel
    by_cases hjn : j < nn
    · have hjl : j < N.length := by rw [Hnn.out]; exact hjn
      have hjI : (j : Int) < (nn : Int) := by omega
      have hj0 : (0 : Int) ≤ (j : Int) := by omega
      obtain ⟨b, o, rfl, c0⟩ := icl_get (HN.out.below Hbr.out) hjl
      have hx := HNi.out _ (List.getElem_mem hjl)
      have Hsn := Lib.hid (flatN_snoc hjl)
      have hbl := hfn.out j
      rw [Hbl.out] at hbl
      generalize N[j] = x at *
      have Hx := Lib.hid hx
      have hz9 := numB_le9 (zigN_lt hx)
      have Hrd := Lib.hid Ho.out.rd
      clear hjl hx Ho
      go_wp2_with fail
      refine (int_any (flatN (N.take j)) bl c' x A' wr Hbl.out Hrd.out (by omega) Hx.out).mono ?_
      rintro e w6 ⟨A6, c6, rfl, ho6, hb6⟩
      rw [← Hsn.out] at ho6
      have HO6 := Lib.hid (ho6.lower Hbr.out.size)
      have Hb6 := Lib.hid (Hbr.out.trans (hb6.mono Hbr.out.size))
      have Hl6 : Hid ((flatN (N.take (j + 1))).length = bl + (numB (zigN x)).length) := by show _ = _; rw [Hsn.out, List.length_append, Hbl.out]
      clear ho6 hb6 Hrd c0
      go_wp2_with fail
      go_roundw
      case rel => exact ⟨j + 1, _, c6, A6, rfl, by go_num, by omega, Hl6, HO6, Hb6⟩
      case measure => simp only [intOf, Int.toNat_natCast]; omega
    · obtain rfl : j = nn := by omega
      have hta : N.take j = N := List.take_of_length_le (by rw [Hnn.out]; exact Nat.le_refl _)
      have hbl := hfn.out j
      rw [Hbl.out] at hbl
      rw [hta] at Hbl Ho
      have hgr := Hg.out.below Hbr.out
      have y0 := hgr.cell 0
      have y2 := hgr.cell 2
      have y3 := hgr.cell 3
      simp only [List.getElem?_cons_zero, List.getElem?_cons_succ] at y0 y2 y3
      clear hta hgr
      generalize wr = wo at *
      go_wp2_with fail
      go_loopw [14, 98] (fun vb vi wi => ∃ (q bq cq : Nat) (Aq : Option Addr), vb = .slice Aq bq cq ∧ vi = .int .i64 (q : Int) ∧ q ≤ xn ∧ bq ≤ bl + 4231168 ∧ Hid ((flatN N ++ flatX (X.take q)).length = bq) ∧ Hid (Own wi w.heap.size 5 1 Aq bq cq (Bs (flatN N ++ flatX (X.take q)))) ∧ Hid (Below w.heap.size w wi)) (fun _ vi _ => xn - (intOf vi).toNat)
      case atStart => exact ⟨0, bl, c', A', rfl, rfl, by omega, by omega, by rw [List.take_zero, show flatX [] = [] from rfl, List.append_nil]; exact Hbl, by rw [List.take_zero, show flatX [] = [] from rfl, List.append_nil]; exact Ho, Hbr⟩
      case round =>
        obtain ⟨q, bq, cq, Aq, rfl, rfl, hq, hbq, Hbq, Hoq, Hbw⟩ := hrel
        by_cases hqn : q < xn
        · have hql : q < X.length := by rw [Hxn.out]; exact hqn
          have hqI : (q : Int) < (xn : Int) := by omega
          have hq0 : (0 : Int) ≤ (q : Int) := by omega
          obtain ⟨b, o, rfl, c0⟩ := (HX.out.below Hbw.out).word hql
          have hx := HXi.out _ (List.getElem_mem hql)
          have Hsn := Lib.hid (flatX_snoc hql (flatN N))
          have hfx2 := hfx.out (q + 1)
          generalize X[q] = s at *
          obtain ⟨S, hS⟩ : ∃ S, s.length = S := ⟨_, rfl⟩
          rw [hS] at hx Hsn
          have HS := Lib.hid hS
          have hs9 := numB_le9 (n := S) (by omega)
          have Hrd := Lib.hid Hoq.out.rd
          have Hl6 : Hid ((flatN N ++ flatX (X.take (q + 1))).length = bq + (numB S).length + S) := by show _ = _; rw [Hsn.out, List.length_append, Hbq.out, List.length_append, HS.out]; omega
          have hlen2 : bq + (numB S).length + S ≤ bl + 4231168 := by
            rw [← Hl6.out, List.length_append, Hbl.out]
            omega
          clear hql Hoq hS
          go_wp2_with fail
          refine (text_any (flatN N ++ flatX (X.take q)) s bq cq S Aq wr Hbq.out HS.out Hrd.out (by omega) (by omega)).mono ?_
          rintro e w6 ⟨A6, c6, rfl, ho6, hb6⟩
          rw [← Hsn.out] at ho6
          have HO6 := Lib.hid (ho6.lower Hbw.out.size)
          have Hb6 := Lib.hid (Hbw.out.trans (hb6.mono Hbw.out.size))
          clear ho6 hb6 Hrd c0
          go_wp2_with fail
          go_roundw
          case rel => exact ⟨q + 1, _, c6, A6, rfl, by go_num, by omega, hlen2, Hl6, HO6, Hb6⟩
          case measure => simp only [intOf, Int.toNat_natCast]; omega
        · obtain rfl : q = xn := by omega
          have htx : X.take q = X := List.take_of_length_le (by rw [Hxn.out]; exact Nat.le_refl _)
          rw [htx] at Hbq Hoq
          clear htx
          go_wp2_with fail
          go_ret2
          exact LayOK.of Hoq.out Hbq.out Hbw.out
set_option maxHeartbeats 16000000 in
set_option maxRecDepth 100000 in
theorem lay_b1 (kind : Int) (h2 : kind ≠ 3) (N : List Int) (X : List (List UInt8)) (g tn tc nn nc xn xc : Nat) (TA NA XA : Option Addr) (w : World) (hg : Blk w g 40 [.int .u8 kind, .slice TA tn tc, .slice NA nn nc, .slice XA xn xc]) (hN : Rd w NA (icl N)) (hX : Rd w XA (wcl X)) (hnn : N.length = nn) (hxn : X.length = xn) (hn4 : nn ≤ 4096) (hx4 : xn ≤ 4096) (hNi : ∀ x ∈ N, -9223372036854775808 ≤ x ∧ x ≤ 9223372036854775807) (hXi : ∀ s ∈ X, s.length ≤ 1024) :
    Calls Tryz.prog 42 #[.pointer (some ⟨g, 0, none⟩), .int .u8 1] w fun e w' => LayOK (flatN N ++ flatX X, 1) w e w' := by
  have Hg := Lib.hid hg
  have HN := Lib.hid hN
  have HX := Lib.hid hX
  have Hnn := Lib.hid hnn
  have Hxn := Lib.hid hxn
  have HNi := Lib.hid hNi
  have HXi := Lib.hid hXi
  have hfn := Lib.hid (fun j => flatN_le hNi (by omega) j)
  have hfx := Lib.hid (fun j => flatX_le hXi (by omega) j)
  have y0 := hg.cell 0
  have y2 := hg.cell 2
  have y3 := hg.cell 3
  simp only [List.getElem?_cons_zero, List.getElem?_cons_succ] at y0 y2 y3
  have e2 : (kind == 3) = false := by rw [beq_eq_false_iff_ne]; exact h2
  clear h2
  clear hg hN hX hnn hxn hNi hXi
  go_enter Tryz.func42, Tryz.ntmps42
  have Hb : Hid (Below w.heap.size w w) := Below.refl _ _
  go_wp2_with fail
  go_loopw [14, 85] (fun vb vi wr => ∃ (j bl c' : Nat) (A' : Option Addr), vb = .slice A' bl c' ∧ vi = .int .i64 (j : Int) ∧ j ≤ nn ∧ Hid ((flatN (N.take j)).length = bl) ∧ Hid (Own wr w.heap.size 5 1 A' bl c' (Bs (flatN (N.take j)))) ∧ Hid (Below w.heap.size w wr)) (fun _ vi _ => nn - (intOf vi).toNat)
  case atStart => exact ⟨0, 0, 0, none, rfl, rfl, by omega, rfl, Own.nil _ _ _ _, Hb⟩
  case round =>
    obtain ⟨j, bl, c', A', rfl, rfl, hj, Hbl, Ho, Hbr⟩ := hrel
    by_cases hjn : j < nn
    · have hjl : j < N.length := by rw [Hnn.out]; exact hjn
      have hjI : (j : Int) < (nn : Int) := by omega
      have hj0 : (0 : Int) ≤ (j : Int) := by omega
      obtain ⟨b, o, rfl, c0⟩ := icl_get (HN.out.below Hbr.out) hjl
      have hx := HNi.out _ (List.getElem_mem hjl)
      have Hsn := Lib.hid (flatN_snoc hjl)
      have hbl := hfn.out j
      rw [Hbl.out] at hbl
      generalize N[j] = x at *
      have Hx := Lib.hid hx
      have hz9 := numB_le9 (zigN_lt hx)
      have Hrd := Lib.hid Ho.out.rd
      clear hjl hx Ho
      go_wp2_with fail
      refine (int_any (flatN (N.take j)) bl c' x A' wr Hbl.out Hrd.out (by omega) Hx.out).mono ?_
      rintro e w6 ⟨A6, c6, rfl, ho6, hb6⟩
      rw [← Hsn.out] at ho6
      have HO6 := Lib.hid (ho6.lower Hbr.out.size)
      have Hb6 := Lib.hid (Hbr.out.trans (hb6.mono Hbr.out.size))
      have Hl6 : Hid ((flatN (N.take (j + 1))).length = bl + (numB (zigN x)).length) := by show _ = _; rw [Hsn.out, List.length_append, Hbl.out]
      clear ho6 hb6 Hrd c0
      go_wp2_with fail
      go_roundw
      case rel => exact ⟨j + 1, _, c6, A6, rfl, by go_num, by omega, Hl6, HO6, Hb6⟩
      case measure => simp only [intOf, Int.toNat_natCast]; omega
    · obtain rfl : j = nn := by omega
      have hta : N.take j = N := List.take_of_length_le (by rw [Hnn.out]; exact Nat.le_refl _)
      have hbl := hfn.out j
      rw [Hbl.out] at hbl
      rw [hta] at Hbl Ho
      have hgr := Hg.out.below Hbr.out
      have y0 := hgr.cell 0
      have y2 := hgr.cell 2
      have y3 := hgr.cell 3
      simp only [List.getElem?_cons_zero, List.getElem?_cons_succ] at y0 y2 y3
      clear hta hgr
      generalize wr = wo at *
      go_wp2_with fail
      go_loopw [14, 98] (fun vb vi wi => ∃ (q bq cq : Nat) (Aq : Option Addr), vb = .slice Aq bq cq ∧ vi = .int .i64 (q : Int) ∧ q ≤ xn ∧ bq ≤ bl + 4231168 ∧ Hid ((flatN N ++ flatX (X.take q)).length = bq) ∧ Hid (Own wi w.heap.size 5 1 Aq bq cq (Bs (flatN N ++ flatX (X.take q)))) ∧ Hid (Below w.heap.size w wi)) (fun _ vi _ => xn - (intOf vi).toNat)
      case atStart => exact ⟨0, bl, c', A', rfl, rfl, by omega, by omega, by rw [List.take_zero, show flatX [] = [] from rfl, List.append_nil]; exact Hbl, by rw [List.take_zero, show flatX [] = [] from rfl, List.append_nil]; exact Ho, Hbr⟩
      case round =>
        obtain ⟨q, bq, cq, Aq, rfl, rfl, hq, hbq, Hbq, Hoq, Hbw⟩ := hrel
        by_cases hqn : q < xn
        · have hql : q < X.length := by rw [Hxn.out]; exact hqn
          have hqI : (q : Int) < (xn : Int) := by omega
          have hq0 : (0 : Int) ≤ (q : Int) := by omega
          obtain ⟨b, o, rfl, c0⟩ := (HX.out.below Hbw.out).word hql
          have hx := HXi.out _ (List.getElem_mem hql)
          have Hsn := Lib.hid (flatX_snoc hql (flatN N))
          have hfx2 := hfx.out (q + 1)
          generalize X[q] = s at *
          obtain ⟨S, hS⟩ : ∃ S, s.length = S := ⟨_, rfl⟩
          rw [hS] at hx Hsn
          have HS := Lib.hid hS
          have hs9 := numB_le9 (n := S) (by omega)
          have Hrd := Lib.hid Hoq.out.rd
          have Hl6 : Hid ((flatN N ++ flatX (X.take (q + 1))).length = bq + (numB S).length + S) := by show _ = _; rw [Hsn.out, List.length_append, Hbq.out, List.length_append, HS.out]; omega
          have hlen2 : bq + (numB S).length + S ≤ bl + 4231168 := by
            rw [← Hl6.out, List.length_append, Hbl.out]
            omega
          clear hql Hoq hS
          go_wp2_with fail
          refine (text_any (flatN N ++ flatX (X.take q)) s bq cq S Aq wr Hbq.out HS.out Hrd.out (by omega) (by omega)).mono ?_
          rintro e w6 ⟨A6, c6, rfl, ho6, hb6⟩
          rw [← Hsn.out] at ho6
          have HO6 := Lib.hid (ho6.lower Hbw.out.size)
          have Hb6 := Lib.hid (Hbw.out.trans (hb6.mono Hbw.out.size))
          clear ho6 hb6 Hrd c0
          go_wp2_with fail
          go_roundw
          case rel => exact ⟨q + 1, _, c6, A6, rfl, by go_num, by omega, hlen2, Hl6, HO6, Hb6⟩
          case measure => simp only [intOf, Int.toNat_natCast]; omega
        · obtain rfl : q = xn := by omega
          have htx : X.take q = X := List.take_of_length_le (by rw [Hxn.out]; exact Nat.le_refl _)
          rw [htx] at Hbq Hoq
          clear htx
          go_wp2_with fail
          go_ret2
          exact LayOK.of Hoq.out Hbq.out Hbw.out
set_option maxHeartbeats 16000000 in
set_option maxRecDepth 100000 in
theorem lay_b2 (kind : Int) (h2 : kind ≠ 3) (N : List Int) (X : List (List UInt8)) (g tn tc nn nc xn xc : Nat) (TA NA XA : Option Addr) (w : World) (hg : Blk w g 40 [.int .u8 kind, .slice TA tn tc, .slice NA nn nc, .slice XA xn xc]) (hN : Rd w NA (icl N)) (hX : Rd w XA (wcl X)) (hnn : N.length = nn) (hxn : X.length = xn) (hn4 : nn ≤ 4096) (hx4 : xn ≤ 4096) (hNi : ∀ x ∈ N, -9223372036854775808 ≤ x ∧ x ≤ 9223372036854775807) (hXi : ∀ s ∈ X, s.length ≤ 1024) :
    Calls Tryz.prog 42 #[.pointer (some ⟨g, 0, none⟩), .int .u8 2] w fun e w' => LayOK (runsB N, 2) w e w' := by
  have Hg := Lib.hid hg
  have HN := Lib.hid hN
  have HX := Lib.hid hX
  have Hnn := Lib.hid hnn
  have Hxn := Lib.hid hxn
  have HNi := Lib.hid hNi
  have HXi := Lib.hid hXi
  have hfn := Lib.hid (fun j => flatN_le hNi (by omega) j)
  have hfx := Lib.hid (fun j => flatX_le hXi (by omega) j)
  have y0 := hg.cell 0
  have y2 := hg.cell 2
  have y3 := hg.cell 3
  simp only [List.getElem?_cons_zero, List.getElem?_cons_succ] at y0 y2 y3
  have e2 : (kind == 3) = false := by rw [beq_eq_false_iff_ne]; exact h2
  clear h2
  clear hg hN hX hnn hxn hNi hXi
  go_enter Tryz.func42, Tryz.ntmps42
  obtain ⟨Z, hZ⟩ : ∃ Z, runsB N = Z := ⟨_, rfl⟩
  obtain ⟨F, hF⟩ : ∃ F, Z.length = F := ⟨_, rfl⟩
  have HZ := Lib.hid hZ
  have HF := Lib.hid hF
  clear hZ hF
  go_wp2_with fail
  refine (runsput_any N nn nc NA w Hnn.out HN.out hn4 HNi.out).mono ?_
  rintro e w3 h3
  rw [HZ.out] at h3
  obtain ⟨⟨A3, c3, rfl, ho3⟩, hb3⟩ := h3.len HF.out
  have Ho3 := Lib.hid ho3
  have Hb3 := Lib.hid hb3
  clear h3 ho3 hb3
  go_wp2_with fail
  go_ret2
  rw [HZ.out]
  exact LayOK.of Ho3.out HF.out Hb3.out
set_option maxHeartbeats 16000000 in
set_option maxRecDepth 100000 in
theorem lay_b4 (kind : Int) (h2 : kind ≠ 3) (N : List Int) (X : List (List UInt8)) (g tn tc nn nc xn xc : Nat) (TA NA XA : Option Addr) (w : World) (hg : Blk w g 40 [.int .u8 kind, .slice TA tn tc, .slice NA nn nc, .slice XA xn xc]) (hN : Rd w NA (icl N)) (hX : Rd w XA (wcl X)) (hnn : N.length = nn) (hxn : X.length = xn) (hn4 : nn ≤ 4096) (hx4 : xn ≤ 4096) (hNi : ∀ x ∈ N, -9223372036854775808 ≤ x ∧ x ≤ 9223372036854775807) (hXi : ∀ s ∈ X, s.length ≤ 1024) :
    Calls Tryz.prog 42 #[.pointer (some ⟨g, 0, none⟩), .int .u8 4] w fun e w' => LayOK (frameB N, 4) w e w' := by
  have Hg := Lib.hid hg
  have HN := Lib.hid hN
  have HX := Lib.hid hX
  have Hnn := Lib.hid hnn
  have Hxn := Lib.hid hxn
  have HNi := Lib.hid hNi
  have HXi := Lib.hid hXi
  have hfn := Lib.hid (fun j => flatN_le hNi (by omega) j)
  have hfx := Lib.hid (fun j => flatX_le hXi (by omega) j)
  have y0 := hg.cell 0
  have y2 := hg.cell 2
  have y3 := hg.cell 3
  simp only [List.getElem?_cons_zero, List.getElem?_cons_succ] at y0 y2 y3
  have e2 : (kind == 3) = false := by rw [beq_eq_false_iff_ne]; exact h2
  clear h2
  clear hg hN hX hnn hxn hNi hXi
  go_enter Tryz.func42, Tryz.ntmps42
  obtain ⟨Z, hZ⟩ : ∃ Z, frameB N = Z := ⟨_, rfl⟩
  obtain ⟨F, hF⟩ : ∃ F, Z.length = F := ⟨_, rfl⟩
  have HZ := Lib.hid hZ
  have HF := Lib.hid hF
  clear hZ hF
  go_wp2_with fail
  refine (frame_any N nn nc NA w Hnn.out HN.out hn4 HNi.out).mono ?_
  rintro e w3 h3
  rw [HZ.out] at h3
  obtain ⟨⟨A3, c3, rfl, ho3⟩, hb3⟩ := h3.len HF.out
  have Ho3 := Lib.hid ho3
  have Hb3 := Lib.hid hb3
  clear h3 ho3 hb3
  go_wp2_with fail
  go_ret2
  rw [HZ.out]
  exact LayOK.of Ho3.out HF.out Hb3.out
set_option maxHeartbeats 16000000 in
set_option maxRecDepth 100000 in
theorem lay_b5 (kind : Int) (h2 : kind ≠ 3) (R : List UInt8 × Int) (N : List Int) (X : List (List UInt8)) (g tn tc nn nc xn xc : Nat) (TA NA XA : Option Addr) (w : World) (hg : Blk w g 40 [.int .u8 kind, .slice TA tn tc, .slice NA nn nc, .slice XA xn xc]) (hN : Rd w NA (icl N)) (hX : Rd w XA (wcl X)) (hnn : N.length = nn) (hxn : X.length = xn) (hn4 : nn ≤ 4096) (hx4 : xn ≤ 4096) (hNi : ∀ x ∈ N, -9223372036854775808 ≤ x ∧ x ≤ 9223372036854775807) (hXi : ∀ s ∈ X, s.length ≤ 1024) (hR : (match deltaB N with | some b => (b, 5) | none => (flatN N ++ flatX X, 1)) = R) :
    Calls Tryz.prog 42 #[.pointer (some ⟨g, 0, none⟩), .int .u8 5] w fun e w' => LayOK (R) w e w' := by
  have Hg := Lib.hid hg
  have HN := Lib.hid hN
  have HX := Lib.hid hX
  have Hnn := Lib.hid hnn
  have Hxn := Lib.hid hxn
  have HNi := Lib.hid hNi
  have HXi := Lib.hid hXi
  have hfn := Lib.hid (fun j => flatN_le hNi (by omega) j)
  have hfx := Lib.hid (fun j => flatX_le hXi (by omega) j)
  have y0 := hg.cell 0
  have y2 := hg.cell 2
  have y3 := hg.cell 3
  simp only [List.getElem?_cons_zero, List.getElem?_cons_succ] at y0 y2 y3
  have e2 : (kind == 3) = false := by rw [beq_eq_false_iff_ne]; exact h2
  have HR := Lib.hid hR
  clear h2 hR
  clear hg hN hX hnn hxn hNi hXi
  go_enter Tryz.func42, Tryz.ntmps42
  go_wp2_with fail
  refine (deltaput_any N nn nc NA w Hnn.out HN.out hn4 HNi.out).mono ?_
  rintro e w3 h3
  cases hd : deltaB N with
  | none =>
    rcases h3 with ⟨_, rfl, hb3⟩ | ⟨b, h4, _⟩
    · have Hb := Lib.hid hb3
      have Hd := Lib.hid hd
      have hg3 := Hg.out.below hb3
      have y0 := hg3.cell 0
      have y2 := hg3.cell 2
      have y3 := hg3.cell 3
      simp only [List.getElem?_cons_zero, List.getElem?_cons_succ] at y0 y2 y3
      clear hb3 hd hg3
      go_wp2_with fail
      go_loopw [14, 85] (fun vb vi wr => ∃ (j bl c' : Nat) (A' : Option Addr), vb = .slice A' bl c' ∧ vi = .int .i64 (j : Int) ∧ j ≤ nn ∧ Hid ((flatN (N.take j)).length = bl) ∧ Hid (Own wr w.heap.size 5 1 A' bl c' (Bs (flatN (N.take j)))) ∧ Hid (Below w.heap.size w wr)) (fun _ vi _ => nn - (intOf vi).toNat)
      case atStart => exact ⟨0, 0, 0, none, rfl, rfl, by omega, rfl, Own.nil _ _ _ _, Hb⟩
      case round =>
        obtain ⟨j, bl, c', A', rfl, rfl, hj, Hbl, Ho, Hbr⟩ := hrel
        by_cases hjn : j < nn
        · have hjl : j < N.length := by rw [Hnn.out]; exact hjn
          have hjI : (j : Int) < (nn : Int) := by omega
          have hj0 : (0 : Int) ≤ (j : Int) := by omega
          obtain ⟨b, o, rfl, c0⟩ := icl_get (HN.out.below Hbr.out) hjl
          have hx := HNi.out _ (List.getElem_mem hjl)
          have Hsn := Lib.hid (flatN_snoc hjl)
          have hbl := hfn.out j
          rw [Hbl.out] at hbl
          generalize N[j] = x at *
          have Hx := Lib.hid hx
          have hz9 := numB_le9 (zigN_lt hx)
          have Hrd := Lib.hid Ho.out.rd
          clear hjl hx Ho
          go_wp2_with fail
          refine (int_any (flatN (N.take j)) bl c' x A' wr Hbl.out Hrd.out (by omega) Hx.out).mono ?_
          rintro e w6 ⟨A6, c6, rfl, ho6, hb6⟩
          rw [← Hsn.out] at ho6
          have HO6 := Lib.hid (ho6.lower Hbr.out.size)
          have Hb6 := Lib.hid (Hbr.out.trans (hb6.mono Hbr.out.size))
          have Hl6 : Hid ((flatN (N.take (j + 1))).length = bl + (numB (zigN x)).length) := by show _ = _; rw [Hsn.out, List.length_append, Hbl.out]
          clear ho6 hb6 Hrd c0
          go_wp2_with fail
          go_roundw
          case rel => exact ⟨j + 1, _, c6, A6, rfl, by go_num, by omega, Hl6, HO6, Hb6⟩
          case measure => simp only [intOf, Int.toNat_natCast]; omega
        · obtain rfl : j = nn := by omega
          have hta : N.take j = N := List.take_of_length_le (by rw [Hnn.out]; exact Nat.le_refl _)
          have hbl := hfn.out j
          rw [Hbl.out] at hbl
          rw [hta] at Hbl Ho
          have hgr := Hg.out.below Hbr.out
          have y0 := hgr.cell 0
          have y2 := hgr.cell 2
          have y3 := hgr.cell 3
          simp only [List.getElem?_cons_zero, List.getElem?_cons_succ] at y0 y2 y3
          clear hta hgr
          generalize wr = wo at *
          go_wp2_with fail
          go_loopw [14, 98] (fun vb vi wi => ∃ (q bq cq : Nat) (Aq : Option Addr), vb = .slice Aq bq cq ∧ vi = .int .i64 (q : Int) ∧ q ≤ xn ∧ bq ≤ bl + 4231168 ∧ Hid ((flatN N ++ flatX (X.take q)).length = bq) ∧ Hid (Own wi w.heap.size 5 1 Aq bq cq (Bs (flatN N ++ flatX (X.take q)))) ∧ Hid (Below w.heap.size w wi)) (fun _ vi _ => xn - (intOf vi).toNat)
          case atStart => exact ⟨0, bl, c', A', rfl, rfl, by omega, by omega, by rw [List.take_zero, show flatX [] = [] from rfl, List.append_nil]; exact Hbl, by rw [List.take_zero, show flatX [] = [] from rfl, List.append_nil]; exact Ho, Hbr⟩
          case round =>
            obtain ⟨q, bq, cq, Aq, rfl, rfl, hq, hbq, Hbq, Hoq, Hbw⟩ := hrel
            by_cases hqn : q < xn
            · have hql : q < X.length := by rw [Hxn.out]; exact hqn
              have hqI : (q : Int) < (xn : Int) := by omega
              have hq0 : (0 : Int) ≤ (q : Int) := by omega
              obtain ⟨b, o, rfl, c0⟩ := (HX.out.below Hbw.out).word hql
              have hx := HXi.out _ (List.getElem_mem hql)
              have Hsn := Lib.hid (flatX_snoc hql (flatN N))
              have hfx2 := hfx.out (q + 1)
              generalize X[q] = s at *
              obtain ⟨S, hS⟩ : ∃ S, s.length = S := ⟨_, rfl⟩
              rw [hS] at hx Hsn
              have HS := Lib.hid hS
              have hs9 := numB_le9 (n := S) (by omega)
              have Hrd := Lib.hid Hoq.out.rd
              have Hl6 : Hid ((flatN N ++ flatX (X.take (q + 1))).length = bq + (numB S).length + S) := by show _ = _; rw [Hsn.out, List.length_append, Hbq.out, List.length_append, HS.out]; omega
              have hlen2 : bq + (numB S).length + S ≤ bl + 4231168 := by
                rw [← Hl6.out, List.length_append, Hbl.out]
                omega
              clear hql Hoq hS
              go_wp2_with fail
              refine (text_any (flatN N ++ flatX (X.take q)) s bq cq S Aq wr Hbq.out HS.out Hrd.out (by omega) (by omega)).mono ?_
              rintro e w6 ⟨A6, c6, rfl, ho6, hb6⟩
              rw [← Hsn.out] at ho6
              have HO6 := Lib.hid (ho6.lower Hbw.out.size)
              have Hb6 := Lib.hid (Hbw.out.trans (hb6.mono Hbw.out.size))
              clear ho6 hb6 Hrd c0
              go_wp2_with fail
              go_roundw
              case rel => exact ⟨q + 1, _, c6, A6, rfl, by go_num, by omega, hlen2, Hl6, HO6, Hb6⟩
              case measure => simp only [intOf, Int.toNat_natCast]; omega
            · obtain rfl : q = xn := by omega
              have htx : X.take q = X := List.take_of_length_le (by rw [Hxn.out]; exact Nat.le_refl _)
              rw [htx] at Hbq Hoq
              clear htx
              go_wp2_with fail
              go_ret2
              rw [← HR.out, Hd.out]
              exact LayOK.of Hoq.out Hbq.out Hbw.out
    · rw [hd] at h4
      cases h4
  | some Z =>
    rcases h3 with ⟨h4, _⟩ | ⟨b, h4, h5⟩
    · rw [hd] at h4
      cases h4
    · rw [hd] at h4
      injection h4 with h4
      subst h4
      obtain ⟨F, hF⟩ : ∃ F, Z.length = F := ⟨_, rfl⟩
      obtain ⟨⟨A3, c3, rfl, ho3⟩, hb3⟩ := h5.len hF
      have Ho3 := Lib.hid ho3
      have Hb3 := Lib.hid hb3
      have HF := Lib.hid hF
      have Hd := Lib.hid hd
      clear h5 ho3 hb3 hF hd
      go_wp2_with fail
      go_ret2
      rw [← HR.out, Hd.out]
      exact LayOK.of Ho3.out HF.out Hb3.out
set_option maxHeartbeats 16000000 in
set_option maxRecDepth 100000 in
theorem lay_b3 (R : List UInt8 × Int) (N : List Int) (X : List (List UInt8)) (g tn tc nn nc xn xc : Nat) (TA NA XA : Option Addr) (w : World) (hg : Blk w g 40 [.int .u8 3, .slice TA tn tc, .slice NA nn nc, .slice XA xn xc]) (hN : Rd w NA (icl N)) (hX : Rd w XA (wcl X)) (hnn : N.length = nn) (hxn : X.length = xn) (hn4 : nn ≤ 4096) (hx4 : xn ≤ 4096) (hNi : ∀ x ∈ N, -9223372036854775808 ≤ x ∧ x ≤ 9223372036854775807) (hXi : ∀ s ∈ X, s.length ≤ 1024) (hR : (match wordsB X with | some b => (b, 3) | none => (flatN N ++ flatX X, 1)) = R) :
    Calls Tryz.prog 42 #[.pointer (some ⟨g, 0, none⟩), .int .u8 3] w fun e w' => LayOK (R) w e w' := by
  have Hg := Lib.hid hg
  have HN := Lib.hid hN
  have HX := Lib.hid hX
  have Hnn := Lib.hid hnn
  have Hxn := Lib.hid hxn
  have HNi := Lib.hid hNi
  have HXi := Lib.hid hXi
  have hfn := Lib.hid (fun j => flatN_le hNi (by omega) j)
  have hfx := Lib.hid (fun j => flatX_le hXi (by omega) j)
  have y0 := hg.cell 0
  have y2 := hg.cell 2
  have y3 := hg.cell 3
  simp only [List.getElem?_cons_zero, List.getElem?_cons_succ] at y0 y2 y3
  have HR := Lib.hid hR
  clear hR
  clear hg hN hX hnn hxn hNi hXi
  go_enter Tryz.func42, Tryz.ntmps42
  go_wp2_with fail
  refine (words_any X g xn xc _ _ _ XA w Hg.out Hxn.out HX.out hx4).mono ?_
  rintro e w3 ⟨h3, hb3⟩
  have Hb := Lib.hid hb3
  have hg3 := Hg.out.below hb3
  have y0 := hg3.cell 0
  have y2 := hg3.cell 2
  have y3 := hg3.cell 3
  simp only [List.getElem?_cons_zero, List.getElem?_cons_succ] at y0 y2 y3
  have HN3 := Lib.hid (HN.out.below hb3)
  clear hg3 hb3
  rcases h3 with ⟨hd, rfl⟩ | ⟨Z, A3, c3, hd, rfl, ho3⟩
  · have Hd := Lib.hid hd
    clear hd
    go_wp2_with fail
    refine (deltaput_any N nn nc NA w3 Hnn.out HN3.out hn4 HNi.out).mono ?_
    rintro e w4 h4
    have h5 : ∃ A4 n4 c4 E, e = .returned (.tuple #[.slice A4 n4 c4, .int .i64 E]) ∧ Below w3.heap.size w3 w4 := by
      rcases h4 with ⟨_, rfl, hb4⟩ | ⟨b, _, ⟨A4, c4, rfl, _⟩, hb4⟩
      · exact ⟨none, 0, 0, 8, rfl, hb4⟩
      · exact ⟨A4, _, c4, 0, rfl, hb4⟩
    obtain ⟨A4, n4, c4, E, rfl, hb4⟩ := h5
    clear h4
    have hg4 := (Hg.out.below Hb.out).below hb4
    replace Hb := Lib.hid (Hb.out.trans (hb4.mono Hb.out.size))
    have y0 := hg4.cell 0
    have y2 := hg4.cell 2
    have y3 := hg4.cell 3
    simp only [List.getElem?_cons_zero, List.getElem?_cons_succ] at y0 y2 y3
    clear hg4 hb4
    go_wp2_with fail
    go_loopw [14, 85] (fun vb vi wr => ∃ (j bl c' : Nat) (A' : Option Addr), vb = .slice A' bl c' ∧ vi = .int .i64 (j : Int) ∧ j ≤ nn ∧ Hid ((flatN (N.take j)).length = bl) ∧ Hid (Own wr w.heap.size 5 1 A' bl c' (Bs (flatN (N.take j)))) ∧ Hid (Below w.heap.size w wr)) (fun _ vi _ => nn - (intOf vi).toNat)
    case atStart => exact ⟨0, 0, 0, none, rfl, rfl, by omega, rfl, Own.nil _ _ _ _, Hb⟩
    case round =>
      obtain ⟨j, bl, c', A', rfl, rfl, hj, Hbl, Ho, Hbr⟩ := hrel
      by_cases hjn : j < nn
      · have hjl : j < N.length := by rw [Hnn.out]; exact hjn
        have hjI : (j : Int) < (nn : Int) := by omega
        have hj0 : (0 : Int) ≤ (j : Int) := by omega
        obtain ⟨b, o, rfl, c0⟩ := icl_get (HN.out.below Hbr.out) hjl
        have hx := HNi.out _ (List.getElem_mem hjl)
        have Hsn := Lib.hid (flatN_snoc hjl)
        have hbl := hfn.out j
        rw [Hbl.out] at hbl
        generalize N[j] = x at *
        have Hx := Lib.hid hx
        have hz9 := numB_le9 (zigN_lt hx)
        have Hrd := Lib.hid Ho.out.rd
        clear hjl hx Ho
        go_wp2_with fail
        refine (int_any (flatN (N.take j)) bl c' x A' wr Hbl.out Hrd.out (by omega) Hx.out).mono ?_
        rintro e w6 ⟨A6, c6, rfl, ho6, hb6⟩
        rw [← Hsn.out] at ho6
        have HO6 := Lib.hid (ho6.lower Hbr.out.size)
        have Hb6 := Lib.hid (Hbr.out.trans (hb6.mono Hbr.out.size))
        have Hl6 : Hid ((flatN (N.take (j + 1))).length = bl + (numB (zigN x)).length) := by show _ = _; rw [Hsn.out, List.length_append, Hbl.out]
        clear ho6 hb6 Hrd c0
        go_wp2_with fail
        go_roundw
        case rel => exact ⟨j + 1, _, c6, A6, rfl, by go_num, by omega, Hl6, HO6, Hb6⟩
        case measure => simp only [intOf, Int.toNat_natCast]; omega
      · obtain rfl : j = nn := by omega
        have hta : N.take j = N := List.take_of_length_le (by rw [Hnn.out]; exact Nat.le_refl _)
        have hbl := hfn.out j
        rw [Hbl.out] at hbl
        rw [hta] at Hbl Ho
        have hgr := Hg.out.below Hbr.out
        have y0 := hgr.cell 0
        have y2 := hgr.cell 2
        have y3 := hgr.cell 3
        simp only [List.getElem?_cons_zero, List.getElem?_cons_succ] at y0 y2 y3
        clear hta hgr
        generalize wr = wo at *
        go_wp2_with fail
        go_loopw [14, 98] (fun vb vi wi => ∃ (q bq cq : Nat) (Aq : Option Addr), vb = .slice Aq bq cq ∧ vi = .int .i64 (q : Int) ∧ q ≤ xn ∧ bq ≤ bl + 4231168 ∧ Hid ((flatN N ++ flatX (X.take q)).length = bq) ∧ Hid (Own wi w.heap.size 5 1 Aq bq cq (Bs (flatN N ++ flatX (X.take q)))) ∧ Hid (Below w.heap.size w wi)) (fun _ vi _ => xn - (intOf vi).toNat)
        case atStart => exact ⟨0, bl, c', A', rfl, rfl, by omega, by omega, by rw [List.take_zero, show flatX [] = [] from rfl, List.append_nil]; exact Hbl, by rw [List.take_zero, show flatX [] = [] from rfl, List.append_nil]; exact Ho, Hbr⟩
        case round =>
          obtain ⟨q, bq, cq, Aq, rfl, rfl, hq, hbq, Hbq, Hoq, Hbw⟩ := hrel
          by_cases hqn : q < xn
          · have hql : q < X.length := by rw [Hxn.out]; exact hqn
            have hqI : (q : Int) < (xn : Int) := by omega
            have hq0 : (0 : Int) ≤ (q : Int) := by omega
            obtain ⟨b, o, rfl, c0⟩ := (HX.out.below Hbw.out).word hql
            have hx := HXi.out _ (List.getElem_mem hql)
            have Hsn := Lib.hid (flatX_snoc hql (flatN N))
            have hfx2 := hfx.out (q + 1)
            generalize X[q] = s at *
            obtain ⟨S, hS⟩ : ∃ S, s.length = S := ⟨_, rfl⟩
            rw [hS] at hx Hsn
            have HS := Lib.hid hS
            have hs9 := numB_le9 (n := S) (by omega)
            have Hrd := Lib.hid Hoq.out.rd
            have Hl6 : Hid ((flatN N ++ flatX (X.take (q + 1))).length = bq + (numB S).length + S) := by show _ = _; rw [Hsn.out, List.length_append, Hbq.out, List.length_append, HS.out]; omega
            have hlen2 : bq + (numB S).length + S ≤ bl + 4231168 := by
              rw [← Hl6.out, List.length_append, Hbl.out]
              omega
            clear hql Hoq hS
            go_wp2_with fail
            refine (text_any (flatN N ++ flatX (X.take q)) s bq cq S Aq wr Hbq.out HS.out Hrd.out (by omega) (by omega)).mono ?_
            rintro e w6 ⟨A6, c6, rfl, ho6, hb6⟩
            rw [← Hsn.out] at ho6
            have HO6 := Lib.hid (ho6.lower Hbw.out.size)
            have Hb6 := Lib.hid (Hbw.out.trans (hb6.mono Hbw.out.size))
            clear ho6 hb6 Hrd c0
            go_wp2_with fail
            go_roundw
            case rel => exact ⟨q + 1, _, c6, A6, rfl, by go_num, by omega, hlen2, Hl6, HO6, Hb6⟩
            case measure => simp only [intOf, Int.toNat_natCast]; omega
          · obtain rfl : q = xn := by omega
            have htx : X.take q = X := List.take_of_length_le (by rw [Hxn.out]; exact Nat.le_refl _)
            rw [htx] at Hbq Hoq
            clear htx
            go_wp2_with fail
            go_ret2
            rw [← HR.out, Hd.out]
            exact LayOK.of Hoq.out Hbq.out Hbw.out
  · have Ho3 := Lib.hid ho3
    have Hd := Lib.hid hd
    obtain ⟨F, hF⟩ : ∃ F, Z.length = F := ⟨_, rfl⟩
    rw [hF] at Ho3 ⊢
    have HF := Lib.hid hF
    clear ho3 hd hF
    go_wp2_with fail
    go_ret2
    rw [← HR.out, Hd.out]
    exact LayOK.of Ho3.out HF.out Hb.out

theorem clay_any (kind how : Int) (hk : kindOk kind = true) (hh : howOk how = true) (N : List Int) (X : List (List UInt8)) (g tn tc nn nc xn xc : Nat) (TA NA XA : Option Addr) (w : World) (hg : Blk w g 40 [.int .u8 kind, .slice TA tn tc, .slice NA nn nc, .slice XA xn xc]) (hN : Rd w NA (icl N)) (hX : Rd w XA (wcl X)) (hnn : N.length = nn) (hxn : X.length = xn) (hn4 : nn ≤ 4096) (hx4 : xn ≤ 4096) (hNi : ∀ x ∈ N, -9223372036854775808 ≤ x ∧ x ≤ 9223372036854775807) (hXi : ∀ s ∈ X, s.length ≤ 1024) :
    Calls Tryz.prog 42 #[.pointer (some ⟨g, 0, none⟩), .int .u8 how] w fun e w' => LayOK (layP kind how N X) w e w' := by
  have hh2 := of_decide_eq_true hh
  by_cases h3 : how = 3
  · subst h3
    by_cases hk3 : kind = 3
    · subst hk3
      exact lay_b3 _ N X g tn tc nn nc xn xc TA NA XA w hg hN hX hnn hxn hn4 hx4 hNi hXi rfl
    · have e : layP kind 3 N X = (flatN N ++ flatX X, 1) := by unfold layP; rw [if_pos (by simp [hk3])]
      rw [e]
      exact lay_a1 kind hk3 N X g tn tc nn nc xn xc TA NA XA w hg hN hX hnn hxn hn4 hx4 hNi hXi
  · by_cases hk3 : kind = 3
    · subst hk3
      have e : layP 3 how N X = (flatN N ++ flatX X, 1) := by unfold layP; rw [if_pos (by simp [h3])]
      rw [e]
      exact lay_a2 how h3 N X g tn tc nn nc xn xc TA NA XA w hg hN hX hnn hxn hn4 hx4 hNi hXi
    · have e0 : ¬ ((decide (how = 3)) == (decide (kind = 3))) = false := by simp [h3, hk3]
      have hc : how = 1 ∨ how = 2 ∨ how = 4 ∨ how = 5 := by omega
      rcases hc with rfl | rfl | rfl | rfl
      · have e : layP kind 1 N X = (flatN N ++ flatX X, 1) := by unfold layP; rw [if_neg e0]; rfl
        rw [e]
        exact lay_b1 kind hk3 N X g tn tc nn nc xn xc TA NA XA w hg hN hX hnn hxn hn4 hx4 hNi hXi
      · have e : layP kind 2 N X = (runsB N, 2) := by unfold layP; rw [if_neg e0]; rfl
        rw [e]
        exact lay_b2 kind hk3 N X g tn tc nn nc xn xc TA NA XA w hg hN hX hnn hxn hn4 hx4 hNi hXi
      · have e : layP kind 4 N X = (frameB N, 4) := by unfold layP; rw [if_neg e0]; rfl
        rw [e]
        exact lay_b4 kind hk3 N X g tn tc nn nc xn xc TA NA XA w hg hN hX hnn hxn hn4 hx4 hNi hXi
      · have e : layP kind 5 N X = match deltaB N with | some b => (b, 5) | none => (flatN N ++ flatX X, 1) := by unfold layP; rw [if_neg e0]; rfl
        rw [e]
        exact lay_b5 kind hk3 _ N X g tn tc nn nc xn xc TA NA XA w hg hN hX hnn hxn hn4 hx4 hNi hXi rfl
end Go.Proofs.YtojppmnmhdgnnaaGreat
namespace Go.Proofs.YtojppmnmhdgnnaaGreat
set_option linter.unusedVariables false
set_option linter.unusedSimpArgs false
open Go.RowKit

attribute [local go_sem ↓] Go.wp_at_zero Go.wp_at_succ

/-- How Put ends. -/
def CPutOK (kind how : Int) (l : RowM) (w : World) (e : Ending) (w' : World) : Prop :=
  (∃ A c, e = .returned (.tuple #[.slice A (cputM kind how l).1.length c, .int .u8 (cputM kind how l).2.1, .int .i64 (cputM kind how l).2.2]) ∧ Own w' w.heap.size 5 1 A (cputM kind how l).1.length c (Bs (cputM kind how l).1)) ∧ Below w.heap.size w w'
theorem CPutOK.err {kind how : Int} {l : RowM} {w w' : World} {E : Int} (h : cputM kind how l = ([], 0, E)) (hb : Below w.heap.size w w') : CPutOK kind how l w (.returned (.tuple #[.slice none 0 0, .int .u8 0, .int .i64 E])) w' := by
  unfold CPutOK
  rw [h]
  exact ⟨⟨none, 0, rfl, Own.nil _ _ _ _⟩, hb⟩
theorem CPutOK.of {kind how : Int} {l : RowM} {w w' : World} {b : List UInt8} {u : Int} {A : Option Addr} {n c : Nat} (h : cputM kind how l = (b, u, 0)) (ho : Own w' w.heap.size 5 1 A n c (Bs b)) (hn : b.length = n) (hb : Below w.heap.size w w') : CPutOK kind how l w (.returned (.tuple #[.slice A n c, .int .u8 u, .int .i64 0])) w' := by
  unfold CPutOK
  rw [h]
  subst hn
  exact ⟨⟨A, c, rfl, ho⟩, hb⟩
theorem Bs_byte {U : Nat} (h : U < 256) : Bs [byteN U] = [.int .u8 (U : Int)] := by
  unfold Bs B
  rw [List.map_cons, byteN_toNat, Nat.mod_eq_of_lt h]
  rfl
theorem nums_in {kind : Int} {l : RowM} (h : ∀ v ∈ l, v.ok) : ∀ x ∈ numsK kind l, -9223372036854775808 ≤ x ∧ x ≤ 9223372036854775807 := by
  intro x hx
  unfold numsK at hx
  split at hx
  · simp at hx
  · obtain ⟨v, hv, rfl⟩ := List.mem_map.1 hx
    have := h v (List.mem_filter.1 hv).1
    exact this.n
theorem texts_in {kind : Int} {l : RowM} (h : l.all (fitV kind) = true) : ∀ s ∈ textsK kind l, s.length ≤ 1024 := by
  intro s hs
  unfold textsK at hs
  split at hs
  · obtain ⟨v, hv, rfl⟩ := List.mem_map.1 hs
    have h1 := List.all_eq_true.1 h v (List.mem_filter.1 hv).1
    unfold fitV at h1
    rw [Bool.and_eq_true] at h1
    rcases right_kinds h1.1 with rfl | ⟨t, rfl⟩ | ⟨n, rfl⟩ | ⟨s', rfl, hs'⟩
    · simp
    · simp
    · simp
    · exact hs'
  · simp at hs
theorem there_in (l : RowM) : ∀ x ∈ thereM l, -9223372036854775808 ≤ x ∧ x ≤ 9223372036854775807 := by
  intro x hx
  unfold thereM at hx
  obtain ⟨v, hv, rfl⟩ := List.mem_map.1 hx
  split <;> omega
theorem runsB_le {l : List Int} (h : ∀ x ∈ l, -9223372036854775808 ≤ x ∧ x ≤ 9223372036854775807) (hl : l.length ≤ 4096) : (runsB l).length ≤ 100000 := by
  have h1 := runsF_len l 0
  have h2 := runs_part (runs_in h hl) (runsM l).length (by show (runsF l 0).length ≤ 4096; omega)
  rw [List.take_length] at h2
  exact h2
theorem frameB_le {l : List Int} (h : ∀ x ∈ l, -9223372036854775808 ≤ x ∧ x ≤ 9223372036854775807) (hl : l.length ≤ 4096) : (frameB l).length ≤ 100000 := by
  unfold frameB
  have h1 := numB_le9 (n := l.length) (by omega)
  rw [List.length_append]
  split
  · simp only [List.length_nil]; omega
  · rename_i hne
    have h2 := numB_le9 (zigN_lt (h _ (least_mem hne)))
    have h3 := width_64 (moreM_lt h)
    have h4 := numB_le9 (n := widthM (moreM l)) (by omega)
    rw [List.length_append, List.length_append, packB_len, moreM_len]
    have h5 : l.length * widthM (moreM l) ≤ 4096 * 64 := Nat.mul_le_mul hl h3
    unfold bytesN
    omega
theorem stepsM_len : ∀ (l : List Int) (a : Int) (s : List Int), stepsM a l = some s → s.length = l.length ∧ ∀ x ∈ s, -9223372036854775808 ≤ x ∧ x ≤ 9223372036854775807
  | [], a, s, h => by
    rw [stepsM] at h
    cases h
    exact ⟨rfl, fun x hx => by simp at hx⟩
  | b :: l, a, s, h => by
    rw [stepsM] at h
    split at h
    · rename_i hok
      cases hs : stepsM b l with
      | none => rw [hs] at h; cases h
      | some s' =>
        rw [hs] at h
        cases h
        obtain ⟨h1, h2⟩ := stepsM_len l b s' hs
        refine ⟨by rw [List.length_cons, List.length_cons, h1], fun x hx => ?_⟩
        rcases List.mem_cons.1 hx with rfl | hx
        · exact of_decide_eq_true hok
        · exact h2 x hx
    · cases h
theorem layP_le {kind how : Int} {N : List Int} {X : List (List UInt8)} (hN : ∀ x ∈ N, -9223372036854775808 ≤ x ∧ x ≤ 9223372036854775807) (hNl : N.length ≤ 4096) (hX : ∀ s ∈ X, s.length ≤ 1024) (hXl : X.length ≤ 4096) : (layP kind how N X).1.length ≤ 5000000 := by
  have h1 := flatN_le hN hNl N.length
  have h2 := flatX_le hX hXl X.length
  rw [List.take_length] at h1 h2
  have hp : (flatN N ++ flatX X).length ≤ 5000000 := by rw [List.length_append]; omega
  unfold layP
  split
  · exact hp
  · split
    · have := runsB_le hN hNl
      show (runsB N).length ≤ 5000000
      omega
    · split
      · have := frameB_le hN hNl
        show (frameB N).length ≤ 5000000
        omega
      · split
        · cases hw : wordsB X with
          | none => exact hp
          | some b =>
            show b.length ≤ 5000000
            unfold wordsB at hw
            cases ho : ofM X with
            | none => rw [ho] at hw; cases hw
            | some Wp =>
              obtain ⟨W, p⟩ := Wp
              obtain ⟨a1, a2, a3, a4⟩ := places_in ho
              obtain ⟨q, hq⟩ := putM_of ho
              have h3 := frameB_le a4 (by omega)
              rw [ho, Option.bind_some, hq] at hw
              injection hw with hw
              dsimp only at hw
              unfold putM at hq
              rw [if_pos a3] at hq
              injection hq with hq
              have b1 := numB_le9 (n := W.length) (by omega)
              have b2 := putF_len W [] (by simp) (fun x hx => (rightW_le a3).1 x hx)
              have b3 : W.length * 1042 ≤ 200 * 1042 := Nat.mul_le_mul_right _ (by omega)
              rw [← hw, List.length_append, ← hq, List.length_append]
              omega
        · split
          · cases hd : deltaB N with
            | none => exact hp
            | some b =>
              show b.length ≤ 5000000
              unfold deltaB at hd
              cases hs : stepsM 0 N with
              | none => rw [hs] at hd; cases hd
              | some s =>
                rw [hs] at hd
                injection hd with hd
                dsimp only at hd
                obtain ⟨s1, s2⟩ := stepsM_len N 0 s hs
                have := steps_part s N.length hNl (by omega) s2
                rw [← hd]
                omega
          · exact hp
theorem layP_used {kind how : Int} {N : List Int} {X : List (List UInt8)} : 1 ≤ (layP kind how N X).2 ∧ (layP kind how N X).2 ≤ 5 := by
  unfold layP
  repeat' split
  all_goals (dsimp only; omega)

set_option maxHeartbeats 16000000 in
set_option maxRecDepth 100000 in
theorem cputc_any (kind how : Int) (l : RowM) (n c : Nat) (A : Option Addr) (w : World) (hl : l.length = n) (hr : Rd w A (rcells l)) (hn : n ≤ 4096) (hok : ∀ v ∈ l, v.ok) (hkb : 0 ≤ kind ∧ kind ≤ 255) (hhb : 0 ≤ how ∧ how ≤ 255) :
    Calls Tryz.prog 19 #[.int .u8 kind, .slice A n c, .int .u8 how] w fun e w' => CPutOK kind how l w e w' := by
  have hcr := Lib.hid (cright2_any kind w)
  cases hk : kindOk kind
  · have hf : Hid (cputM kind how l = ([], 0, 1)) := by show _ = _; unfold cputM; rw [hk]; rfl
    rw [hk] at hcr
    clear hk hl hr hok
    go_enter Tryz.func19, Tryz.ntmps19
    go_wp2_with fail
    refine hcr.out.mono ?_
    rintro e w1 ⟨rfl, rfl⟩
    go_wp2_with fail
    go_ret3
    exact CPutOK.err hf.out (Below.refl _ _)
  · rw [hk] at hcr
    by_cases h1 : how < 1
    · have hf : Hid (cputM kind how l = ([], 0, 1)) := by
        show _ = _
        have : howOk how = false := by unfold howOk; exact decide_eq_false (by omega)
        unfold cputM
        rw [hk, this]
        rfl
      clear hk hl hr hok
      go_enter Tryz.func19, Tryz.ntmps19
      go_wp2_with fail
      refine hcr.out.mono ?_
      rintro e w1 ⟨rfl, rfl⟩
      go_wp2_with fail
      go_ret3
      exact CPutOK.err hf.out (Below.refl _ _)
    · by_cases h5 : 5 < how
      · have hf : Hid (cputM kind how l = ([], 0, 1)) := by
          show _ = _
          have : howOk how = false := by unfold howOk; exact decide_eq_false (by omega)
          unfold cputM
          rw [hk, this]
          rfl
        clear hk hl hr hok
        go_enter Tryz.func19, Tryz.ntmps19
        go_wp2_with fail
        refine hcr.out.mono ?_
        rintro e w1 ⟨rfl, rfl⟩
        go_wp2_with fail
        go_ret3
        exact CPutOK.err hf.out (Below.refl _ _)
      · have hho : howOk how = true := by unfold howOk; exact decide_eq_true (by omega)
        have hkr := of_decide_eq_true hk
        have hap := Lib.hid (apart_any kind l n c A w hl hr hn hkr)
        cases hall : l.all (fitV kind)
        · have hf : Hid (cputM kind how l = ([], 0, 7)) := by show _ = _; unfold cputM; rw [hk, hho, hall]; rfl
          have Hall := Lib.hid hall
          clear hk hl hr hok hho hkr hall
          go_enter Tryz.func19, Tryz.ntmps19
          go_wp2_with fail
          refine hcr.out.mono ?_
          rintro e w1 ⟨rfl, rfl⟩
          go_wp2_with fail
          refine hap.out.mono ?_
          rintro e w1 ⟨h2, hb1⟩
          rcases h2 with ⟨_, rfl⟩ | ⟨h3, _⟩
          · have Hb1 := Lib.hid hb1
            clear hb1 hap
            go_wp2_with fail
            go_ret3
            exact CPutOK.err hf.out (Hb1.out.alloc Hb1.out.size _)
          · rw [Hall.out] at h3
            cases h3
        · have hlp := lay_parts kind how l
          have hNi := nums_in (kind := kind) hok
          have hXi := texts_in hall
          have hNl : (numsK kind l).length ≤ 4096 := by
            unfold numsK numsM
            split
            · simp
            · rw [List.length_map]; exact Nat.le_trans (someM_le l) (by omega)
          have hXl : (textsK kind l).length ≤ 4096 := by
            unfold textsK textsM
            split
            · rw [List.length_map]; exact Nat.le_trans (someM_le l) (by omega)
            · simp
          have hth := there_in l
          have htl := thereM_len l
          rw [hl] at htl
          have hrl := runsB_le hth (by omega)
          have hll := layP_le (kind := kind) (how := how) hNi hNl hXi hXl
          have hus := layP_used (kind := kind) (how := how) (N := numsK kind l) (X := textsK kind l)
          have hla := Lib.hid (fun (g tn tc nn nc xn xc : Nat) (TA NA XA : Option Addr) (w' : World) (hg : Blk w' g 40 [.int .u8 kind, .slice TA tn tc, .slice NA nn nc, .slice XA xn xc]) hN hX (h1 : (numsK kind l).length = nn) (h2 : (textsK kind l).length = xn) => clay_any kind how hk hho (numsK kind l) (textsK kind l) g tn tc nn nc xn xc TA NA XA w' hg hN hX h1 h2 (by omega) (by omega) hNi hXi)
          have hcp : cputM kind how l = (byteN (layP kind how (numsK kind l) (textsK kind l)).2.toNat :: (numB (runsB (thereM l)).length ++ (runsB (thereM l) ++ (layP kind how (numsK kind l) (textsK kind l)).1)), (layP kind how (numsK kind l) (textsK kind l)).2, 0) := by
            unfold cputM
            rw [hk, hho, hall, if_neg (by decide), if_pos rfl]
            unfold colB
            rw [hlp]
          have Hcp := Lib.hid hcp
          have Hth := Lib.hid hth
          have Htl := Lib.hid htl
          have Hall := Lib.hid hall
          obtain ⟨NN, hNN⟩ : ∃ NN, (numsK kind l).length = NN := ⟨_, rfl⟩
          obtain ⟨XN, hXN⟩ : ∃ XN, (textsK kind l).length = XN := ⟨_, rfl⟩
          have HNN := Lib.hid hNN
          have HXN := Lib.hid hXN
          generalize layP kind how (numsK kind l) (textsK kind l) = P at *
          obtain ⟨B, u⟩ := P
          dsimp only at hll hus
          obtain ⟨T, hT⟩ : ∃ T, runsB (thereM l) = T := ⟨_, rfl⟩
          have HT := Lib.hid hT
          rw [hT] at hrl
          obtain ⟨TL, hTL⟩ : ∃ TL, T.length = TL := ⟨_, rfl⟩
          rw [hTL] at hrl
          have HTL := Lib.hid hTL
          obtain ⟨BL, hBL⟩ : ∃ BL, B.length = BL := ⟨_, rfl⟩
          rw [hBL] at hll
          have HBL := Lib.hid hBL
          obtain ⟨U, hU⟩ : ∃ U : Nat, u = (U : Int) := ⟨u.toNat, by omega⟩
          have hU5 : U ≤ 5 := by omega
          have HU := Lib.hid hU
          have ht9 := numB_le9 (n := TL) (by omega)
          have hwT : IntKind.u64.wrap (TL : Int) = (TL : Int) := by rw [IntKind.wrap_u64]; omega
          clear hk hl hr hok hho hkr hall hlp hNi hXi hNl hXl hth htl hcp hNN hXN hT hTL hBL hus
          subst hU
          go_enter Tryz.func19, Tryz.ntmps19
          go_wp2_with fail
          refine hcr.out.mono ?_
          rintro e w1 ⟨rfl, rfl⟩
          go_wp2_with fail
          refine hap.out.mono ?_
          rintro e w1 ⟨h2, hb1⟩
          rcases h2 with ⟨h3, _⟩ | ⟨_, TA, tc, NA, nc, XA, xc, rfl, hrT, hrN, hrX⟩
          · rw [Hall.out] at h3
            cases h3
          · rw [Htl.out, HNN.out, HXN.out]
            have hbA : Below w1.heap.size w1 (w1.alloc (.cells #[.int .u8 kind, .slice TA n tc, .slice NA NN nc, .slice XA XN xc] 40)) := (Below.refl _ _).alloc (Nat.le_refl _) _
            have Hb1 := Lib.hid (hb1.trans (hbA.mono hb1.size))
            have Hbk := Lib.hid (Blk.new w1 40 #[.int .u8 kind, .slice TA n tc, .slice NA NN nc, .slice XA XN xc])
            have HrT := Lib.hid (hrT.below hbA)
            have HrN := Lib.hid (hrN.below hbA)
            have HrX := Lib.hid (hrX.below hbA)
            have hla2 := Lib.hid (hla.out w1.heap.size n tc NN nc XN xc TA NA XA _ Hbk.out HrN.out HrX.out HNN.out HXN.out)
            clear hb1 hbA hrT hrN hrX hap hcr hla
            go_wp2_with fail
            refine hla2.out.mono ?_
            rintro e w2 ⟨⟨A2, c2, rfl, ho2⟩, hb2⟩
            dsimp only at ho2 ⊢
            rw [HBL.out] at ho2 ⊢
            have Hb2 := Lib.hid (Hb1.out.trans (hb2.mono Hb1.out.size))
            have Hr2 := Lib.hid ho2.rd
            have hbk2 := Hbk.out.below hb2
            have HrT2 := Lib.hid (HrT.out.below hb2)
            have y1 := hbk2.cell 1
            simp only [List.getElem?_cons_zero, List.getElem?_cons_succ] at y1
            clear ho2 hb2 hbk2 hla2
            go_wp2_with fail
            refine (runsput_any (thereM l) n tc TA w2 Htl.out HrT2.out hn Hth.out).mono ?_
            rintro e w3 h3
            rw [HT.out] at h3
            obtain ⟨⟨A3, c3, rfl, ho3⟩, hb3⟩ := h3.len HTL.out
            have Hb3 := Lib.hid (Hb2.out.trans (hb3.mono Hb2.out.size))
            have Hr3 := Lib.hid ho3.rd
            have Hr23 := Lib.hid (Hr2.out.below hb3)
            clear h3 ho3 hb3 y1
            go_wp2_with fail
            have hbU : Below w3.heap.size w3 (w3.alloc (.cells #[.int .u8 (U : Int)] 5)) := (Below.refl _ _).alloc (Nat.le_refl _) _
            have HrU : Hid (Rd (w3.alloc (.cells #[.int .u8 (U : Int)] 5)) (some ⟨w3.heap.size, 0, none⟩) (Bs [byteN U])) := by
              have h := Rd.new w3 [.int .u8 (U : Int)] 5
              show Rd _ _ _
              rw [Bs_byte (by omega)]
              exact h
            have HbU := Lib.hid (Hb3.out.trans (hbU.mono Hb3.out.size))
            have Hr3U := Lib.hid (Hr3.out.below hbU)
            have Hr23U := Lib.hid (Hr23.out.below hbU)
            clear hbU
            refine (onum_any [byteN U] 1 1 TL (some ⟨w3.heap.size, 0, none⟩) _ rfl HrU.out (by omega) (by omega)).mono ?_
            rintro e w4 ⟨A4, c4, rfl, ho4, hb4⟩
            have Hb4 := Lib.hid (HbU.out.trans (hb4.mono HbU.out.size))
            have Ho4 := Lib.hid (ho4.lower HbU.out.size)
            have Hr34 := Lib.hid (Hr3U.out.below hb4)
            have Ho4' := Lib.hid ho4
            have Hb34 := Lib.hid hb4
            clear ho4 hb4
            go_wp2_with (first | (at_builtin; refine hold ?_) | (at_make; refine hold ?_))
            (with_reducible refine unhold ?_)
            refine wpList_apd rfl _ _ _ rfl E8 w.heap.size _ (1 + (numB TL).length) _ (Bs ([byteN U] ++ numB TL)) rfl Ho4.out _ TL _ (Bs T) rfl (by rw [Bs, List.length_map, HTL.out, Nat.mul_one]) Hr34.out (Bs_one T) (1 + (numB TL).length + TL) rfl (Bs (([byteN U] ++ numB TL) ++ T)) (by rw [Bs, Bs, ← List.map_append]) (by omega) (by omega) Hb4.out.size ?_
            intro A5 c5 w5 ho5 hg5 hw5
            have Hb5 := Lib.hid (Hb4.out.grown hg5 Hb4.out.size Ho4.out.row_ge)
            have Ho5 := Lib.hid ho5
            have Hr25 := Lib.hid (Hr23U.out.below (Hb34.out.grown hg5 Hb34.out.size Ho4'.out.row_ge))
            clear ho5 hg5 hw5
            go_wp2_with (first | (at_builtin; refine hold ?_) | (at_make; refine hold ?_))
            (with_reducible refine unhold ?_)
            refine wpList_apd rfl _ _ _ rfl E8 w.heap.size _ (1 + (numB TL).length + TL) _ (Bs (([byteN U] ++ numB TL) ++ T)) rfl Ho5.out _ BL _ (Bs B) rfl (by rw [Bs, List.length_map, HBL.out, Nat.mul_one]) Hr25.out (Bs_one B) (1 + (numB TL).length + TL + BL) rfl (Bs ((([byteN U] ++ numB TL) ++ T) ++ B)) (by rw [Bs, Bs, ← List.map_append]) (by omega) (by omega) Hb5.out.size ?_
            intro A6 c6 w6 ho6 hg6 _
            have Hb6 := Lib.hid (Hb5.out.grown hg6 Hb5.out.size Ho5.out.row_ge)
            have Ho6 := Lib.hid ho6
            have Hres : Hid (cputM kind how l = ((([byteN U] ++ numB TL) ++ T) ++ B, (U : Int), 0)) := by
              show _ = _
              rw [Hcp.out, HT.out, HTL.out, Int.toNat_natCast]
              simp
            have Hlen : Hid (((([byteN U] ++ numB TL) ++ T) ++ B).length = 1 + (numB TL).length + TL + BL) := by
              show _ = _
              simp only [List.length_append, List.length_cons, List.length_nil, HTL.out, HBL.out]
            clear ho6 hg6
            go_wp2_with fail
            go_ret3
            exact CPutOK.of Hres.out Ho6.out Hlen.out Hb6.out
end Go.Proofs.YtojppmnmhdgnnaaGreat
