/- Walks: how two values stand to each other. Walks: whether rows are in order by one rising column. -/
import Derived.Test.YtcadjekcdokkjaaGreatMJoXY
namespace Go.Proofs.YtcadjekcdokkjaaGreat
set_option linter.unusedVariables false
set_option linter.unusedSimpArgs false
open Go.RowKit
attribute [local go_sem ↓] Go.wp_at_zero Go.wp_at_succ
def cmpI (a b : Int) : Int := if a < b then -1 else if b < a then 1 else 0
theorem nan8_any (a : Int) (w : World) : Calls Tryz.prog 121 #[.int .u8 a] w fun e w' => e = .returned (.bool false) ∧ w = w' := by
 go_enter Tryz.func121, Tryz.ntmps121
 go_wp2_with fail
 go_ret
 exact ⟨by simp, rfl⟩
theorem nani_any (a : Int) (w : World) : Calls Tryz.prog 122 #[.int .i64 a] w fun e w' => e = .returned (.bool false) ∧ w = w' := by
 go_enter Tryz.func122, Tryz.ntmps122
 go_wp2_with fail
 go_ret
 exact ⟨by simp, rfl⟩
theorem nans_any (s : List UInt8) (w : World) : Calls Tryz.prog 123 #[.string (St8 s)] w fun e w' => e = .returned (.bool false) ∧ w = w' := by
 go_enter Tryz.func123, Tryz.ntmps123
 go_wp2_with fail
 go_ret
 exact ⟨by simp, rfl⟩
set_option maxRecDepth 100000 in
theorem cmp8_any (a b : Int) (w : World) : Calls Tryz.prog 104 #[.int .u8 a, .int .u8 b] w fun e w' => e = .returned (.int .i64 (cmpI a b)) ∧ w = w' := by
 have hv : Hid (cmpI a b = if a < b then -1 else if b < a then 1 else 0) := rfl
 by_cases h1 : a < b
 ·rw [if_pos h1] at hv
  go_enter Tryz.func104, Tryz.ntmps104
  go_wp2_with fail
  refine (nan8_any a w).mono ?_
  rintro e w1 ⟨rfl, rfl⟩
  go_wp2_with fail
  refine (nan8_any b w).mono ?_
  rintro e w1 ⟨rfl, rfl⟩
  go_wp2_with fail
  go_ret
  rw [hv.out]
  exact ⟨rfl, rfl⟩
 ·rw [if_neg h1] at hv
  by_cases h2 : b < a
  ·rw [if_pos h2] at hv
   go_enter Tryz.func104, Tryz.ntmps104
   go_wp2_with fail
   refine (nan8_any a w).mono ?_
   rintro e w1 ⟨rfl, rfl⟩
   go_wp2_with fail
   refine (nan8_any b w).mono ?_
   rintro e w1 ⟨rfl, rfl⟩
   go_wp2_with fail
   go_ret
   rw [hv.out]
   exact ⟨rfl, rfl⟩
  ·rw [if_neg h2] at hv
   go_enter Tryz.func104, Tryz.ntmps104
   go_wp2_with fail
   refine (nan8_any a w).mono ?_
   rintro e w1 ⟨rfl, rfl⟩
   go_wp2_with fail
   refine (nan8_any b w).mono ?_
   rintro e w1 ⟨rfl, rfl⟩
   go_wp2_with fail
   go_ret
   rw [hv.out]
   exact ⟨rfl, rfl⟩
set_option maxRecDepth 100000 in
theorem cmpi_any (a b : Int) (w : World) : Calls Tryz.prog 105 #[.int .i64 a, .int .i64 b] w fun e w' => e = .returned (.int .i64 (cmpI a b)) ∧ w = w' := by
 have hv : Hid (cmpI a b = if a < b then -1 else if b < a then 1 else 0) := rfl
 by_cases h1 : a < b
 ·rw [if_pos h1] at hv
  go_enter Tryz.func105, Tryz.ntmps105
  go_wp2_with fail
  refine (nani_any a w).mono ?_
  rintro e w1 ⟨rfl, rfl⟩
  go_wp2_with fail
  refine (nani_any b w).mono ?_
  rintro e w1 ⟨rfl, rfl⟩
  go_wp2_with fail
  go_ret
  rw [hv.out]
  exact ⟨rfl, rfl⟩
 ·rw [if_neg h1] at hv
  by_cases h2 : b < a
  ·rw [if_pos h2] at hv
   go_enter Tryz.func105, Tryz.ntmps105
   go_wp2_with fail
   refine (nani_any a w).mono ?_
   rintro e w1 ⟨rfl, rfl⟩
   go_wp2_with fail
   refine (nani_any b w).mono ?_
   rintro e w1 ⟨rfl, rfl⟩
   go_wp2_with fail
   go_ret
   rw [hv.out]
   exact ⟨rfl, rfl⟩
  ·rw [if_neg h2] at hv
   go_enter Tryz.func105, Tryz.ntmps105
   go_wp2_with fail
   refine (nani_any a w).mono ?_
   rintro e w1 ⟨rfl, rfl⟩
   go_wp2_with fail
   refine (nani_any b w).mono ?_
   rintro e w1 ⟨rfl, rfl⟩
   go_wp2_with fail
   go_ret
   rw [hv.out]
   exact ⟨rfl, rfl⟩
def cmpS (a b : List UInt8) : Int := if Op.bytesLess a b = true then -1 else if a = b then 0 else 1
set_option maxRecDepth 100000 in
theorem cmps_any (s s' : List UInt8) (w : World) : Calls Tryz.prog 106 #[.string (St8 s), .string (St8 s')] w fun e w' => e = .returned (.int .i64 (cmpS s s')) ∧ w = w' := by
 have hv : Hid (cmpS s s' = if Op.bytesLess s s' = true then -1 else if s = s' then 0 else 1) := rfl
 have e1 : Op.bytesLess (St8 s).toList (St8 s').toList = Op.bytesLess s s' := by rw [St8_list, St8_list]
 have e2 := St8_cmp s s'
 by_cases h1 : Op.bytesLess s s' = true
 ·rw [if_pos h1] at hv
  rw [h1] at e1
  go_enter Tryz.func106, Tryz.ntmps106
  go_wp2_with fail
  refine (nans_any s w).mono ?_
  rintro e w1 ⟨rfl, rfl⟩
  go_wp2_with fail
  refine (nans_any s' w).mono ?_
  rintro e w1 ⟨rfl, rfl⟩
  go_wp2_with fail
  go_ret
  rw [hv.out]
  exact ⟨rfl, rfl⟩
 ·rw [if_neg h1] at hv
  have h1 : Op.bytesLess s s' = false := by simpa using h1
  rw [h1] at e1
  by_cases h2 : s = s'
  ·rw [if_pos h2] at hv
   rw [decide_eq_true h2] at e2
   clear h2
   go_enter Tryz.func106, Tryz.ntmps106
   go_wp2_with fail
   refine (nans_any s w).mono ?_
   rintro e w1 ⟨rfl, rfl⟩
   go_wp2_with fail
   refine (nans_any s' w).mono ?_
   rintro e w1 ⟨rfl, rfl⟩
   go_wp2_with fail
   go_ret
   rw [hv.out]
   exact ⟨rfl, rfl⟩
  ·rw [if_neg h2] at hv
   rw [decide_eq_false h2] at e2
   go_enter Tryz.func106, Tryz.ntmps106
   go_wp2_with fail
   refine (nans_any s w).mono ?_
   rintro e w1 ⟨rfl, rfl⟩
   go_wp2_with fail
   refine (nans_any s' w).mono ?_
   rintro e w1 ⟨rfl, rfl⟩
   go_wp2_with fail
   go_ret
   rw [hv.out]
   exact ⟨rfl, rfl⟩
def or3 (a b c : Int) : Int := if a ≠ 0 then a else if b ≠ 0 then b else c
def or3At (a b c : Int) (j : Nat) : Prop := (0 < j → a = 0) ∧ (1 < j → b = 0) ∧ (2 < j → c = 0)
set_option maxRecDepth 100000 in
theorem or_any (a b c : Int) (g : Nat) (w : World) (h0 : w.cell? ⟨g, 0, none⟩ = some (.int .i64 a)) (h1 : w.cell? ⟨g, 1, none⟩ = some (.int .i64 b)) (h2 : w.cell? ⟨g, 2, none⟩ = some (.int .i64 c)) :
  Calls Tryz.prog 103 #[.slice (some ⟨g, 0, none⟩) 3 3] w fun e w' => e = .returned (.int .i64 (or3 a b c)) ∧ w = w' := by
 have hv : Hid (or3 a b c = if a ≠ 0 then a else if b ≠ 0 then b else c) := rfl
 go_enter Tryz.func103, Tryz.ntmps103
 go_wp2_with fail
 go_loop [8] (fun i => ∃ j : Nat, j ≤ 3 ∧ i = .int .i64 j ∧ Hid (or3At a b c j)) (fun i => 3 - (intOf i).toNat)
 case atStart => exact ⟨0, by omega, rfl, by unfold Hid or3At; omega⟩
 case round =>
  obtain ⟨j, hj, rfl, hat⟩ := hrel
  match j, hj with
  | 0, _ =>
   by_cases hz : a = 0
   ·have hn : Hid (or3At a b c 1) := by unfold Hid or3At; omega
    go_wp2_with fail
    go_round
    case rel => exact ⟨1, by omega, by go_num, hn⟩
    case measure => simp [intOf]
   ·rw [if_pos hz] at hv
    go_wp2_with fail
    go_ret
    rw [hv.out]
    exact ⟨rfl, rfl⟩
  | 1, _ =>
   have ha : Hid (a = 0) := hat.out.1 (by omega)
   by_cases hz : b = 0
   ·have hn : Hid (or3At a b c 2) := by have := ha.out; unfold Hid or3At; omega
    go_wp2_with fail
    go_round
    case rel => exact ⟨2, by omega, by go_num, hn⟩
    case measure => simp [intOf]
   ·rw [if_neg (fun h => h ha.out), if_pos hz] at hv
    go_wp2_with fail
    go_ret
    rw [hv.out]
    exact ⟨rfl, rfl⟩
  | 2, _ =>
   have ha : Hid (a = 0) := hat.out.1 (by omega)
   have hb : Hid (b = 0) := hat.out.2.1 (by omega)
   rw [if_neg (fun h => h ha.out), if_neg (fun h => h hb.out)] at hv
   by_cases hz : c = 0
   ·have hn : Hid (or3At a b c 3) := by have := ha.out; have := hb.out; unfold Hid or3At; omega
    go_wp2_with fail
    go_round
    case rel => exact ⟨3, by omega, by go_num, hn⟩
    case measure => simp [intOf]
   ·go_wp2_with fail
    go_ret
    rw [hv.out]
    exact ⟨rfl, rfl⟩
  | 3, _ =>
   have ha : Hid (a = 0) := hat.out.1 (by omega)
   have hb : Hid (b = 0) := hat.out.2.1 (by omega)
   have hc : Hid (c = 0) := hat.out.2.2 (by omega)
   rw [if_neg (fun h => h ha.out), if_neg (fun h => h hb.out)] at hv
   go_wp2_with fail
   go_ret
   rw [hv.out, hc.out]
   exact ⟨rfl, rfl⟩
def cmpVa (x y : Va) : Int := or3 (cmpI x.k y.k) (cmpI x.n y.n) (cmpS x.s y.s)
set_option maxHeartbeats 4000000 in
set_option maxRecDepth 100000 in
theorem compare_any (x y : Va) (w : World) : Calls Tryz.prog 85 #[x.agg, y.agg] w fun e w' => e = .returned (.int .i64 (cmpVa x y)) ∧ Below w.heap.size w w' := by
 have hv : Hid (cmpVa x y = or3 (cmpI x.k y.k) (cmpI x.n y.n) (cmpS x.s y.s)) := rfl
 generalize cmpVa x y = C at *
 obtain ⟨k, n, s⟩ := x
 obtain ⟨k', n', s'⟩ := y
 unfold Va.agg
 dsimp only at *
 have hc1 := Lib.hid (fun w' => cmp8_any k k' w')
 have hc2 := Lib.hid (fun w' => cmpi_any n n' w')
 have hc3 := Lib.hid (fun w' => cmps_any s s' w')
 generalize cmpI k k' = a at *
 generalize cmpI n n' = b at *
 generalize cmpS s s' = c at *
 go_enter Tryz.func85, Tryz.ntmps85
 go_wp2_with fail
 go_region_held3 (fun w' => w'.cell? ⟨w.heap.size, 0, none⟩ = some (.int .u8 k) ∧ w'.cell? ⟨w.heap.size, 1, none⟩ = some (.int .i64 n) ∧ w'.cell? ⟨w.heap.size, 2, none⟩ = some (.string (St8 s)) ∧ w'.cell? ⟨w.heap.size + 1, 0, none⟩ = some (.int .u8 k') ∧ w'.cell? ⟨w.heap.size + 1, 1, none⟩ = some (.int .i64 n') ∧ w'.cell? ⟨w.heap.size + 1, 2, none⟩ = some (.string (St8 s')))
  (first | assumption | (refine ⟨?_, ?_, ?_, ?_, ?_, ?_⟩ <;> go_cell) | trivial)
  (first | (go_at_call 104; refine (hc1.out _).mono ?_; rintro e w3 ⟨rfl, rfl⟩) | (go_at_call 105; refine (hc2.out _).mono ?_; rintro e w3 ⟨rfl, rfl⟩) | (go_at_call 106; refine (hc3.out _).mono ?_; rintro e w3 ⟨rfl, rfl⟩) | (go_at_call 103; refine (or_any a b c _ _ (by go_cell) (by go_cell) (by go_cell)).mono ?_; rintro e w3 ⟨rfl, rfl⟩))
 go_wp2_with fail
 go_ret
 rw [hv.out]
 exact ⟨rfl, by go_grown⟩
theorem below_two' {w w3 : World} {o1 o2 : Obj} (h : Below ((w.alloc o1).alloc o2).heap.size ((w.alloc o1).alloc o2) w3) : Below w.heap.size w w3 := by
 have hb : Below w.heap.size w ((w.alloc o1).alloc o2) := by go_grown
 exact hb.trans (h.mono hb.size)
set_option maxRecDepth 100000 in
theorem oat_any (r : RowM) (A : Option Addr) (n c : Nat) (col : Int) (w : World) (hn : r.length = n) (hr : Rd w A (rcells r)) :
  Calls Tryz.prog 64 #[.slice A n c, .int .i64 col] w fun e w' => e = .returned (colAt r col).agg ∧ Below w.heap.size w w' := by
 have hb : Below w.heap.size w (w.alloc (.cells #[.int .u8 0, .int .i64 0, .string ⟨#[]⟩] 38)) := (Below.refl _ _).alloc (Nat.le_refl _) _
 by_cases h0 : col < 0
 ·have hv : Hid (colAt r col = Va.nil) := by show _ = _; unfold colAt; rw [if_pos (.inl h0)]
  go_enter Tryz.func64, Tryz.ntmps64
  go_wp2_with fail
  go_returns
  rw [hv.out]
  refine ⟨rfl, ?_⟩
  go_grown
 ·obtain ⟨k, rfl⟩ := Int.eq_ofNat_of_zero_le (show 0 ≤ col by omega)
  by_cases h1 : n ≤ k
  ·have hv : Hid (colAt r (k : Int) = Va.nil) := by show _ = _; unfold colAt; rw [if_pos (.inr (by omega))]
   go_enter Tryz.func64, Tryz.ntmps64
   go_wp2_with fail
   go_returns
   rw [hv.out]
   exact ⟨rfl, by go_grown⟩
  ·have hk : k < r.length := by omega
   have hv : Hid (colAt r (k : Int) = r[k]) := by
    show _ = _
    unfold colAt
    rw [if_neg (by omega), Int.toNat_natCast, List.getD, List.getElem?_eq_getElem hk]
    rfl
   obtain ⟨b, o, rfl, c0, c1, c2⟩ := row_cells (hr.alloc (.cells #[.int .u8 0, .int .i64 0, .string ⟨#[]⟩] 38)) hk
   have hkn : k < n := by omega
   clear hn hr
   generalize r[k] = v at *
   go_enter Tryz.func64, Tryz.ntmps64
   go_wp2_with fail
   go_returns
   rw [hv.out]
   exact ⟨rfl, by go_grown⟩
def oneV (x y : Va) : Int := if x.k = 0 ∧ y.k = 0 then 0 else if x.k = 0 then -1 else if y.k = 0 then 1 else cmpVa x y
set_option maxHeartbeats 4000000 in
set_option maxRecDepth 100000 in
theorem one_any (x y : Va) (w : World) : Calls Tryz.prog 63 #[x.agg, y.agg, .bool false] w fun e w' => e = .returned (.int .i64 (oneV x y)) ∧ Below w.heap.size w w' := by
 have hv : Hid (oneV x y = if x.k = 0 ∧ y.k = 0 then 0 else if x.k = 0 then -1 else if y.k = 0 then 1 else cmpVa x y) := rfl
 have hc := fun w' => compare_any x y w'
 generalize oneV x y = R at *
 generalize cmpVa x y = C at *
 obtain ⟨k, n, s⟩ := x
 obtain ⟨k', n', s'⟩ := y
 unfold Va.agg at *
 dsimp only at *
 have Hc := Lib.hid hc
 clear hc
 by_cases h1 : k = 0
 ·by_cases h2 : k' = 0
  ·rw [if_pos ⟨h1, h2⟩] at hv
   go_enter Tryz.func63, Tryz.ntmps63
   go_wp2_with fail
   go_ret
   rw [hv.out]
   exact ⟨rfl, by go_grown⟩
  ·rw [if_neg (fun h => h2 h.2), if_pos h1] at hv
   have e2 : (k' == 0) = false := by simp [h2]
   go_enter Tryz.func63, Tryz.ntmps63
   go_wp2_with fail
   go_ret
   rw [hv.out]
   exact ⟨rfl, by go_grown⟩
 ·have e1 : (k == 0) = false := by simp [h1]
  by_cases h2 : k' = 0
  ·rw [if_neg (fun h => h1 h.1), if_neg h1, if_pos h2] at hv
   go_enter Tryz.func63, Tryz.ntmps63
   go_wp2_with fail
   go_ret
   rw [hv.out]
   exact ⟨rfl, by go_grown⟩
  ·rw [if_neg (fun h => h1 h.1), if_neg h1, if_neg h2] at hv
   have e2 : (k' == 0) = false := by simp [h2]
   go_enter Tryz.func63, Tryz.ntmps63
   go_wp2_with fail
   refine (Hc.out _).mono ?_
   rintro e w3 ⟨rfl, hb3⟩
   go_wp2_with fail
   go_ret
   rw [hv.out]
   exact ⟨rfl, below_two' hb3⟩
end Go.Proofs.YtcadjekcdokkjaaGreat
namespace Go.Proofs.YtcadjekcdokkjaaGreat
set_option linter.unusedVariables false
set_option linter.unusedSimpArgs false
open Go.RowKit
attribute [local go_sem ↓] Go.wp_at_zero Go.wp_at_succ
end Go.Proofs.YtcadjekcdokkjaaGreat
