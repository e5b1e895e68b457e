/- Walks: the purse; how much rows count. -/
import Derived.Test.YtghaffafglfdlaaJoF
import Derived.Test.YtghaffafglfdlaaJoX
import Derived.Defers
namespace Go.Proofs.Ytghaffafglfdlaa
open Go.RowKit

attribute [local go_sem ↓] Go.wp_at_zero Go.wp_at_succ

/-- The purse at block p. -/
abbrev Pu (w : World) (p most left least : Nat) : Prop := Blk w p 67 [.int .i64 most, .int .i64 left, .int .i64 least]

theorem pnew_any (n : Nat) (w : World) (hn : n ≤ 1048576) : Calls Try.prog 12 #[.int .i64 (n : Int)] w fun e w' => ∃ p, e = .returned (.tuple #[.pointer (some ⟨p, 0, none⟩), .int .i64 0]) ∧ Pu w' p n n n ∧ w.heap.size ≤ p ∧ Below w.heap.size w w' := by
  have hb : Hid (Blk (w.alloc (.cells #[.int .i64 n, .int .i64 n, .int .i64 n] 67)) w.heap.size 67 [.int .i64 n, .int .i64 n, .int .i64 n]) := Blk.new w _ _
  go_enter Try.func12, Try.ntmps12
  go_wp2_with fail
  go_ret2
  exact ⟨_, rfl, hb.out, Nat.le_refl _, by go_grown⟩

set_option maxRecDepth 100000 in
theorem ptake_no (p most left least n : Nat) (w : World) (h : Pu w p most left least) (hl : left ≤ 1048576) (hn : n ≤ 1099511627776) (hgt : left < n) :
    Calls Try.prog 13 #[.pointer (some ⟨p, 0, none⟩), .int .i64 (n : Int)] w fun e w' => e = .returned (.int .i64 5) ∧ w = w' := by
  have c1 := h.cell 1
  simp only [List.getElem?_cons_zero, List.getElem?_cons_succ] at c1
  have hgt' : (left : Int) < (n : Int) := by omega
  go_enter Try.func13, Try.ntmps13
  go_wp2_with fail
  go_ret
  exact ⟨rfl, rfl⟩

set_option maxHeartbeats 4000000 in
set_option maxRecDepth 100000 in
theorem ptake_yes (p most left least n : Nat) (w : World) (h : Pu w p most left least) (hl : left ≤ 1048576) (hle : least ≤ 1048576) (hgt : n ≤ left) {B : Nat} (hB : B ≤ p) :
    Calls Try.prog 13 #[.pointer (some ⟨p, 0, none⟩), .int .i64 (n : Int)] w fun e w' => e = .returned (.int .i64 0) ∧ Pu w' p most (left - n) (min least (left - n)) ∧ Keeps [67] B w w' := by
  obtain ⟨l2, hl2⟩ : ∃ l2, l2 = left - n := ⟨_, rfl⟩
  obtain ⟨m, hm⟩ : ∃ m, m = min least l2 := ⟨_, rfl⟩
  have hmi : (if (l2 : Int) < (least : Int) then (l2 : Int) else (least : Int)) = (m : Int) := by split <;> omega
  have hmn : (if l2 < least then (l2 : Int) else (least : Int)) = (m : Int) := by split <;> omega
  have hw1 : (left : Int) - (n : Int) = (l2 : Int) := by omega
  have hw2 : IntKind.i64.wrap (l2 : Int) = (l2 : Int) := by rw [IntKind.wrap_i64]; omega
  have hgt' : ¬ (left : Int) < (n : Int) := by omega
  rw [← hl2, ← hm]
  have c1 := h.cell 1
  have c2 := h.cell 2
  have f1 := h.frozen 1
  have f2 := h.frozen 2
  have h1 := h.set_ 1 (.int .i64 (l2 : Int))
  have h2 := h1.set_ 2 (.int .i64 (m : Int))
  have d1 := h1.cell 1
  have d2 := h1.cell 2
  have e1 := h1.frozen 1
  have e2 := h1.frozen 2
  simp only [List.getElem?_cons_zero, List.getElem?_cons_succ, List.set_cons_zero, List.set_cons_succ] at c1 c2 d1 d2 h2
  have H2 := Lib.hid h2
  have Hk : Hid (Keeps [67] B w ((w.setCell ⟨p, 1, none⟩ (.int .i64 (l2 : Int))).setCell ⟨p, 2, none⟩ (.int .i64 (m : Int)))) := ((Keeps.refl _ _ _).setCell h (by simp) hB _).setCell h1 (by simp) hB _
  obtain ⟨wz, hwz⟩ : ∃ z, z = w.setCell ⟨p, 1, none⟩ (.int .i64 (l2 : Int)) := ⟨_, rfl⟩
  clear hl2 hm h2 h1
  go_enter Try.func13, Try.ntmps13
  go_wp2_with fail
  go_region
  all_goals
    go_wp2_with fail
    go_ret
    exact ⟨rfl, H2.out.drewN 1, Hk.out.drewN 1⟩

theorem pnow_any (p most left least : Nat) (w : World) (h : Pu w p most left least) (hm : most ≤ 1048576) (hl : left ≤ most) :
    Calls Try.prog 16 #[.pointer (some ⟨p, 0, none⟩)] w fun e w' => e = .returned (.int .i64 ((most - left : Nat) : Int)) ∧ ∃ q, w.drewN q = w' := by
  have c0 := h.cell 0
  have c1 := h.cell 1
  simp only [List.getElem?_cons_zero, List.getElem?_cons_succ] at c0 c1
  have hw : (most : Int) - (left : Int) = ((most - left : Nat) : Int) := by omega
  generalize most - left = d at *
  go_enter Try.func16, Try.ntmps16
  go_wp2_with fail
  go_quiet (fail)
  go_wp2_with fail
  go_ret
  exact ⟨rfl, _, rfl⟩
theorem ppeak_any (p most left least : Nat) (w : World) (h : Pu w p most left least) (hm : most ≤ 1048576) (hl : least ≤ most) :
    Calls Try.prog 17 #[.pointer (some ⟨p, 0, none⟩)] w fun e w' => e = .returned (.int .i64 ((most - least : Nat) : Int)) ∧ ∃ q, w.drewN q = w' := by
  have c0 := h.cell 0
  have c2 := h.cell 2
  simp only [List.getElem?_cons_zero, List.getElem?_cons_succ] at c0 c2
  have hw : (most : Int) - (least : Int) = ((most - least : Nat) : Int) := by omega
  generalize most - least = d at *
  go_enter Try.func17, Try.ntmps17
  go_wp2_with fail
  go_quiet (fail)
  go_wp2_with fail
  go_ret
  exact ⟨rfl, _, rfl⟩

set_option maxRecDepth 100000 in
theorem pgive_d (u : FrameMode) (p most left least n : Nat) (w : World) (h : Pu w p most left least) (hm : most ≤ 1048576) (hl : left + n ≤ most) {B : Nat} (hB : B ≤ p) :
    CallsD Try.prog 33 #[.pointer (some ⟨p, 0, none⟩), .int .i64 (n : Int)] u w fun e u' w' => u' = u ∧ (e = .returned (.int .i64 0) ∧ Pu w' p most (left + n) least ∧ Keeps [67] B w w') := by
  have hnow := Lib.hid (pnow_any p most left least w h hm (by omega))
  have c1 := h.cell 1
  have f1 := h.frozen 1
  have hw : (left : Int) + (n : Int) = ((left + n : Nat) : Int) := by omega
  have h1 := h.set_ 1 (.int .i64 ((left + n : Nat) : Int))
  simp only [List.getElem?_cons_zero, List.getElem?_cons_succ, List.set_cons_zero, List.set_cons_succ] at c1 h1
  have H1 := Lib.hid h1
  have Hk : Hid (Keeps [67] B w (w.setCell ⟨p, 1, none⟩ (.int .i64 ((left + n : Nat) : Int)))) := (Keeps.refl _ _ _).setCell h (by simp) hB _
  have hle : n ≤ most - left := by omega
  have hle' : ¬ ((most - left : Nat) : Int) < (n : Int) := by omega
  generalize left + n = s at *
  generalize most - left = d at *
  clear h1 h
  go_enter_d Try.func33, Try.ntmps33
  go_wp2_with fail
  refine hnow.out.mono ?_
  rintro e w2 ⟨rfl, q, rfl⟩
  go_wp2_with fail
  go_ret
  exact ⟨rfl, H1.out.drewN q, Hk.out.drewN q⟩

/-- How much a row counts. -/
def costR : RowM → Nat
  | [] => 8
  | v :: r => costR r + (8 + v.s.length)
theorem costR_snoc : ∀ (r : RowM) (v : Va), costR (r ++ [v]) = costR r + (8 + v.s.length)
  | [], v => rfl
  | x :: r, v => by
    show costR (r ++ [v]) + _ = costR r + _ + _
    rw [costR_snoc r v]
    omega
def costs : List RowM → Nat
  | [] => 0
  | r :: rs => costs rs + costR r
theorem costs_snoc : ∀ (rs : List RowM) (r : RowM), costs (rs ++ [r]) = costs rs + costR r
  | [], r => rfl
  | x :: rs, r => by
    show costs (rs ++ [r]) + _ = costs rs + _ + _
    rw [costs_snoc rs r]
    omega

set_option maxHeartbeats 4000000 in
set_option maxRecDepth 100000 in
theorem prow_any (r : RowM) (n c : Nat) (A : Option Addr) (w : World) (hn : r.length = n) (hr : Rd w A (rcells r)) (hn1 : n ≤ 1000) (ht : ∀ v ∈ r, v.s.length ≤ 200) :
    Calls Try.prog 52 #[.slice A n c] w fun e w' => (e = .returned (.int .i64 (costR r : Nat)) ∧ costR r ≤ 8 + n * 208) ∧ Below w.heap.size w w' := by
  have Hn := Lib.hid hn
  have Ht := Lib.hid ht
  clear hn ht
  go_enter Try.func52, Try.ntmps52
  go_wp2_with fail
  go_loopw [3, 8] (fun s i wr => ∃ (j m : Nat), j ≤ n ∧ i = .int .i64 j ∧ s = .int .i64 m ∧ Hid (costR (r.take j) = m) ∧ m ≤ 8 + j * 208 ∧ Below w.heap.size w wr) (fun _ i _ => n - (intOf i).toNat)
  case atStart => exact ⟨0, 8, by omega, rfl, rfl, rfl, by omega, Below.refl _ _⟩
  case round =>
    obtain ⟨j, m, hj, rfl, rfl, hm, hm2, hb⟩ := hrel
    by_cases hlt : j < n
    · have hjl : j < r.length := by rw [Hn.out]; exact hlt
      obtain ⟨b, o, rfl, c0, c1, c2⟩ := row_cells (hr.below hb) hjl
      have htk := Lib.hid (List.take_succ_eq_append_getElem (l := r) (i := j) hjl)
      have h2 := Ht.out _ (List.getElem_mem hjl)
      generalize r[j] = v at *
      obtain ⟨vk, vn, vs⟩ := v
      dsimp only at c0 c1 c2 h2
      have hsz := St8_size vs
      have hmn : Hid (costR (r.take (j + 1)) = m + (8 + vs.length)) := by
        show _ = _
        rw [htk.out, costR_snoc, hm.out]
      clear hr
      go_wp2_with fail
      go_roundw
      case rel => exact ⟨j + 1, m + (8 + vs.length), by omega, by go_num, by go_num, hmn, by omega, hb.alloc (by have := hb.size; omega) _⟩
      case measure => simp [intOf]; omega
    · obtain rfl : j = n := by omega
      have hf : Hid (costR r = m) := by
        have := hm.out
        rwa [List.take_of_length_le (by rw [Hn.out]; exact Nat.le_refl _)] at this
      go_wp2_with fail
      go_ret
      rw [hf.out]
      exact ⟨⟨rfl, hm2⟩, hb⟩

set_option maxHeartbeats 4000000 in
set_option maxRecDepth 100000 in
theorem rrow_any (r : RowM) (n c : Nat) (A : Option Addr) (w : World) (hn : r.length = n) (hr : Rd w A (rcells r)) (hn1 : n ≤ 1000) (ht : ∀ v ∈ r, v.s.length ≤ 200) :
    Calls Try.prog 34 #[.slice A n c] w fun e w' => (e = .returned (.int .i64 (costR r : Nat)) ∧ costR r ≤ 8 + n * 208) ∧ Below w.heap.size w w' := by
  have Hn := Lib.hid hn
  have Ht := Lib.hid ht
  clear hn ht
  go_enter Try.func34, Try.ntmps34
  go_wp2_with fail
  go_loopw [3, 4] (fun s i wr => ∃ (j m : Nat), j ≤ n ∧ i = .int .i64 j ∧ s = .int .i64 m ∧ Hid (costR (r.take j) = m) ∧ m ≤ 8 + j * 208 ∧ Below w.heap.size w wr) (fun _ i _ => n - (intOf i).toNat)
  case atStart => exact ⟨0, 8, by omega, rfl, rfl, rfl, by omega, Below.refl _ _⟩
  case round =>
    obtain ⟨j, m, hj, rfl, rfl, hm, hm2, hb⟩ := hrel
    by_cases hlt : j < n
    · have hjl : j < r.length := by rw [Hn.out]; exact hlt
      obtain ⟨b, o, rfl, c0, c1, c2⟩ := row_cells (hr.below hb) hjl
      have htk := Lib.hid (List.take_succ_eq_append_getElem (l := r) (i := j) hjl)
      have h2 := Ht.out _ (List.getElem_mem hjl)
      generalize r[j] = v at *
      obtain ⟨vk, vn, vs⟩ := v
      dsimp only at c0 c1 c2 h2
      have hsz := St8_size vs
      have hmn : Hid (costR (r.take (j + 1)) = m + (8 + vs.length)) := by
        show _ = _
        rw [htk.out, costR_snoc, hm.out]
      clear hr
      go_wp2_with fail
      go_roundw
      case rel => exact ⟨j + 1, m + (8 + vs.length), by omega, by go_num, by go_num, hmn, by omega, hb⟩
      case measure => simp [intOf]; omega
    · obtain rfl : j = n := by omega
      have hf : Hid (costR r = m) := by
        have := hm.out
        rwa [List.take_of_length_le (by rw [Hn.out]; exact Nat.le_refl _)] at this
      go_wp2_with fail
      go_ret
      rw [hf.out]
      exact ⟨⟨rfl, hm2⟩, hb⟩

set_option maxHeartbeats 4000000 in
set_option maxRecDepth 100000 in
theorem prows_any (rs : List RowM) (hs : List Value) (n c : Nat) (A : Option Addr) (w : World) (hn : rs.length = n) (hA : Rd w A hs) (hR : Rows w hs rs) (hn1 : n ≤ 1000) (ht : ∀ r ∈ rs, small r) :
    Calls Try.prog 32 #[.slice A n c] w fun e w' => (e = .returned (.int .i64 (costs rs : Nat)) ∧ costs rs ≤ n * 10000) ∧ Below w.heap.size w w' := by
  have Hn := Lib.hid hn
  have Ht := Lib.hid ht
  clear hn ht
  go_enter Try.func32, Try.ntmps32
  go_wp2_with fail
  go_loopw [3, 8] (fun s i wr => ∃ (j m : Nat), j ≤ n ∧ i = .int .i64 j ∧ s = .int .i64 m ∧ Hid (costs (rs.take j) = m) ∧ m ≤ j * 10000 ∧ Below w.heap.size w wr) (fun _ i _ => n - (intOf i).toNat)
  case atStart => exact ⟨0, 0, by omega, rfl, rfl, rfl, by omega, Below.refl _ _⟩
  case round =>
    obtain ⟨j, m, hj, rfl, rfl, hm, hm2, hb⟩ := hrel
    by_cases hlt : j < n
    · have hjl : j < rs.length := by rw [Hn.out]; exact hlt
      obtain ⟨b, o, E, d, rfl, c0, _, _, hrx⟩ := head_cell (hA.below hb) (hR.below hb) hjl
      have htk := Lib.hid (List.take_succ_eq_append_getElem (l := rs) (i := j) hjl)
      have h2 := Ht.out _ (List.getElem_mem hjl)
      have hl32 := small_len h2
      have Htx := Lib.hid h2.txt
      clear h2 hA hR
      generalize rs[j] = x at *
      generalize hxl : x.length = xl at *
      have hrow := Lib.hid (prow_any x xl d E wr hxl hrx (by omega) Htx.out)
      have hmn : Hid (costs (rs.take (j + 1)) = m + costR x) := by
        show _ = _
        rw [htk.out, costs_snoc, hm.out]
      generalize costR x = cx at *
      clear hxl hrx
      go_wp2_with fail
      refine hrow.out.mono ?_
      rintro e w2 ⟨⟨rfl, hcx⟩, hb2⟩
      go_wp2_with fail
      go_roundw
      case rel => exact ⟨j + 1, m + cx, by omega, by go_num, by go_num, hmn, by omega, hb.trans (hb2.mono hb.size)⟩
      case measure => simp [intOf]; omega
    · obtain rfl : j = n := by omega
      have hf : Hid (costs rs = m) := by
        have := hm.out
        rwa [List.take_of_length_le (by rw [Hn.out]; exact Nat.le_refl _)] at this
      go_wp2_with fail
      go_ret
      rw [hf.out]
      exact ⟨⟨rfl, hm2⟩, hb⟩

set_option maxHeartbeats 4000000 in
set_option maxRecDepth 100000 in
theorem rcount_any (rs : List RowM) (hs : List Value) (n c : Nat) (A : Option Addr) (w : World) (hn : rs.length = n) (hA : Rd w A hs) (hR : Rows w hs rs) (hn1 : n ≤ 1000) (ht : ∀ r ∈ rs, small r) :
    Calls Try.prog 15 #[.slice A n c] w fun e w' => (e = .returned (.int .i64 (costs rs : Nat)) ∧ costs rs ≤ n * 10000) ∧ Below w.heap.size w w' := by
  have Hn := Lib.hid hn
  have Ht := Lib.hid ht
  clear hn ht
  go_enter Try.func15, Try.ntmps15
  go_wp2_with fail
  go_loopw [3, 4] (fun s i wr => ∃ (j m : Nat), j ≤ n ∧ i = .int .i64 j ∧ s = .int .i64 m ∧ Hid (costs (rs.take j) = m) ∧ m ≤ j * 10000 ∧ Below w.heap.size w wr) (fun _ i _ => n - (intOf i).toNat)
  case atStart => exact ⟨0, 0, by omega, rfl, rfl, rfl, by omega, Below.refl _ _⟩
  case round =>
    obtain ⟨j, m, hj, rfl, rfl, hm, hm2, hb⟩ := hrel
    by_cases hlt : j < n
    · have hjl : j < rs.length := by rw [Hn.out]; exact hlt
      obtain ⟨b, o, E, d, rfl, c0, _, _, hrx⟩ := head_cell (hA.below hb) (hR.below hb) hjl
      have htk := Lib.hid (List.take_succ_eq_append_getElem (l := rs) (i := j) hjl)
      have h2 := Ht.out _ (List.getElem_mem hjl)
      have hl32 := small_len h2
      have Htx := Lib.hid h2.txt
      clear h2 hA hR
      generalize rs[j] = x at *
      generalize hxl : x.length = xl at *
      have hrow := Lib.hid (rrow_any x xl d E wr hxl hrx (by omega) Htx.out)
      have hmn : Hid (costs (rs.take (j + 1)) = m + costR x) := by
        show _ = _
        rw [htk.out, costs_snoc, hm.out]
      generalize costR x = cx at *
      clear hxl hrx
      go_wp2_with fail
      refine hrow.out.mono ?_
      rintro e w2 ⟨⟨rfl, hcx⟩, hb2⟩
      go_wp2_with fail
      go_roundw
      case rel => exact ⟨j + 1, m + cx, by omega, by go_num, by go_num, hmn, by omega, hb.trans (hb2.mono hb.size)⟩
      case measure => simp [intOf]; omega
    · obtain rfl : j = n := by omega
      have hf : Hid (costs rs = m) := by
        have := hm.out
        rwa [List.take_of_length_le (by rw [Hn.out]; exact Nat.le_refl _)] at this
      go_wp2_with fail
      go_ret
      rw [hf.out]
      exact ⟨⟨rfl, hm2⟩, hb⟩
end Go.Proofs.Ytghaffafglfdlaa
