/- Walks: whether words may be (the program's and the reference's), and where a text stands: the program's. -/
import Derived.Test.YtmlnjfdanlnccaaMDwAB
namespace Go.Proofs.Ytmlnjfdanlnccaa
open Go.RowKit

attribute [local go_sem ↓] Go.wp_at_zero Go.wp_at_succ

theorem bnot_f {b : Bool} (h : (!b) = false) : b = true := by cases b <;> simp_all
theorem bnot_t {b : Bool} (h : (!b) = true) : b = false := by cases b <;> simp_all

set_option maxHeartbeats 4000000 in
set_option maxRecDepth 100000 in
theorem dright_any (l : List (List UInt8)) (n c : Nat) (A : Option Addr) (w : World) (hl : l.length = n) (hr : Rd w A (wcl l)) (hn : n ≤ 1000000) :
    Calls Try.prog 79 #[.slice A n c] w fun e w' => e = .returned (.bool (rightW l)) ∧ ∃ q, w' = w.drewN q := by
  have Hl := Lib.hid hl
  obtain ⟨R, hR⟩ : ∃ R, rightW l = R := ⟨_, rfl⟩
  rw [hR]
  have HR := Lib.hid hR
  clear hl hR
  go_enter Try.func79, Try.ntmps79
  go_wp2_with fail
  go_loopw [6] (fun vi wr => ∃ (j q : Nat), j ≤ n ∧ vi = .int .i64 (j : Int) ∧ wr = w.drewN q ∧ Hid (∀ t, t < j → okAt l t = true)) (fun vi _ => n - (intOf vi).toNat)
  case atStart => exact ⟨0, 0, by omega, rfl, rfl, fun t h => absurd h (Nat.not_lt_zero _)⟩
  case round =>
    obtain ⟨j, q, hj, rfl, hw, Hok⟩ := hrel
    have Hw := Lib.hid hw
    have hrr : Rd wr A (wcl l) := by rw [hw]; exact hr.drewN q
    clear hw hr
    by_cases hjn : j < n
    · have hjl : j < l.length := by rw [Hl.out]; exact hjn
      have hjI : (j : Int) < (n : Int) := by omega
      have hj0 : (0 : Int) ≤ (j : Int) := by omega
      obtain ⟨b, o, rfl, c0⟩ := hrr.word hjl
      have Hxg : Hid (l.getD j [] = l[j]) := getD_of hjl
      have Hbad : Hid (okAt l j = false → R = false) := fun h => by
        rw [← HR.out, rightW_loop]
        have : (List.range l.length).all (okAt l) = false := List.all_eq_false.2 ⟨j, List.mem_range.2 hjl, by rw [h]; decide⟩
        rw [this]
        rfl
      have Hst : Hid (okAt l j = true → ∀ t, t < j + 1 → okAt l t = true) := fun h t ht => by
        by_cases e : t = j
        · subst e; exact h
        · exact Hok.out t (by omega)
      have hlen := St8_size l[j]
      generalize l[j] = x at *
      have Hoj : Hid (okAt l j = (decide (x.length ≤ 1024) && (decide (j = 0) || decide (l.getD (j - 1) [] < x)))) := by
        show _ = _
        unfold okAt
        rw [Hxg.out]
      have hlong := Lib.hid (fun w' => long_any x w')
      generalize hL : x.length = L at *
      have HL := Lib.hid hL
      by_cases hlo : 1024 < L
      · have Hf : Hid (R = false) := Hbad.out (by rw [Hoj.out, decide_eq_false (show ¬ L ≤ 1024 by omega)]; rfl)
        have hloI : (1024 : Int) < (L : Int) := by omega
        rw [decide_eq_true hlo] at hlong
        clear hrr Hoj Hbad Hst Hok hL hjl
        go_wp2_with fail
        go_quiet (first | (go_at_call 102; exact Calls.quiet_of_same (hlong.out _)))
        go_wp2_with fail
        go_ret
        rw [Hf.out]
        exact ⟨rfl, q + nq, by rw [Hw.out, World.drewN_drewN]⟩
      · have hle : Hid (decide (L ≤ 1024) = true) := decide_eq_true (by omega)
        have hloI : decide ((1024 : Int) < (L : Int)) = false := decide_eq_false (by omega)
        have hloN : decide (1024 < L) = false := decide_eq_false (by omega)
        rw [decide_eq_false hlo] at hlong
        by_cases hz : j = 0
        · have Hn := Hst.out (by rw [Hoj.out, hle.out, decide_eq_true hz]; rfl)
          have Hn := Lib.hid Hn
          have hzI : decide (0 < j) = false := decide_eq_false (by omega)
          have hj1 : Hid (j = 0) := hz
          clear hrr Hoj Hbad Hst Hok hL hjl hz hle
          go_wp2_with fail
          go_quiet (first | (go_at_call 102; exact Calls.quiet_of_same (hlong.out _)))
          go_wp2_with fail
          go_roundw
          case rel => exact ⟨j + 1, q + nq, by omega, by go_num, by rw [Hw.out, World.drewN_drewN], Hn⟩
          case measure => simp only [intOf, Int.toNat_natCast]; omega
        · obtain ⟨t, ht⟩ : ∃ t, j = t + 1 := ⟨j - 1, by omega⟩
          have hsub : (j : Int) - 1 = (t : Int) := by omega
          have htn : (t : Int) < (n : Int) := by omega
          have htl : t < l.length := by rw [Hl.out]; omega
          obtain ⟨b', o', e', c1⟩ := hrr.word htl
          cases e'
          have Hty : Hid (l.getD (j - 1) [] = l[t]) := by
            show _ = _
            rw [show j - 1 = t from by omega]
            exact getD_of htl
          have hzI : decide (0 < j) = true := decide_eq_true (by omega)
          generalize l[t] = y at *
          have hls := less_St8 y x
          have Ht := Lib.hid ht
          by_cases hyx : y < x
          · have Hn := Lib.hid (Hst.out (by rw [Hoj.out, hle.out, Hty.out, decide_eq_true hyx]; simp))
            rw [decide_eq_true hyx] at hls
            clear hrr Hoj Hbad Hst Hok hL hjl hz hle hyx ht htl
            go_wp2_with fail
            go_quiet (first | (go_at_call 102; exact Calls.quiet_of_same (hlong.out _)))
            go_wp2_with fail
            go_roundw
            case rel => exact ⟨j + 1, q + nq, by omega, by go_num, by rw [Hw.out, World.drewN_drewN], Hn⟩
            case measure => simp only [intOf, Int.toNat_natCast]; omega
          · have Hf : Hid (R = false) := Hbad.out (by rw [Hoj.out, hle.out, Hty.out, decide_eq_false hyx, decide_eq_false hz]; rfl)
            rw [decide_eq_false hyx] at hls
            clear hrr Hoj Hbad Hst Hok hL hjl hz hle hyx ht htl
            go_wp2_with fail
            go_quiet (first | (go_at_call 102; exact Calls.quiet_of_same (hlong.out _)))
            go_wp2_with fail
            go_ret
            rw [Hf.out]
            exact ⟨rfl, q + nq, by rw [Hw.out, World.drewN_drewN]⟩
    · obtain rfl : j = n := by omega
      have Hf : Hid (decide ((j : Int) ≤ 200) = R) := by
        show _ = _
        rw [← HR.out, rightW_loop]
        have : (List.range l.length).all (okAt l) = true := List.all_eq_true.2 fun t ht => Hok.out t (by have := List.mem_range.1 ht; rw [Hl.out] at this; exact this)
        rw [this, Bool.true_and, Hl.out]
        by_cases h : j ≤ 200
        · rw [decide_eq_true h, decide_eq_true (by omega)]
        · rw [decide_eq_false h, decide_eq_false (by omega)]
      go_wp2_with fail
      go_ret
      rw [← Hf.out]
      exact ⟨rfl, q, Hw.out⟩

set_option maxHeartbeats 4000000 in
set_option maxRecDepth 100000 in
theorem drright_any (l : List (List UInt8)) (n c : Nat) (A : Option Addr) (w : World) (hl : l.length = n) (hr : Rd w A (wcl l)) (hn : n ≤ 1000000) :
    Calls Try.prog 95 #[.slice A n c] w fun e w' => e = .returned (.bool (rightW l)) ∧ ∃ q, w' = w.drewN q := by
  have Hl := Lib.hid hl
  obtain ⟨R, hR⟩ : ∃ R, rightW l = R := ⟨_, rfl⟩
  rw [hR]
  have HR := Lib.hid hR
  clear hl hR
  go_enter Try.func95, Try.ntmps95
  go_wp2_with fail
  go_loopw [3] (fun vi wr => ∃ (j q : Nat), j ≤ n ∧ vi = .int .i64 (j : Int) ∧ wr = w.drewN q ∧ Hid (∀ t, t < j → okAt l t = true)) (fun vi _ => n - (intOf vi).toNat)
  case atStart => exact ⟨0, 0, by omega, rfl, rfl, fun t h => absurd h (Nat.not_lt_zero _)⟩
  case round =>
    obtain ⟨j, q, hj, rfl, hw, Hok⟩ := hrel
    have Hw := Lib.hid hw
    have hrr : Rd wr A (wcl l) := by rw [hw]; exact hr.drewN q
    clear hw hr
    by_cases hjn : j < n
    · have hjl : j < l.length := by rw [Hl.out]; exact hjn
      have hjI : (j : Int) < (n : Int) := by omega
      have hj0 : (0 : Int) ≤ (j : Int) := by omega
      obtain ⟨b, o, rfl, c0⟩ := hrr.word hjl
      have Hxg : Hid (l.getD j [] = l[j]) := getD_of hjl
      have Hbad : Hid (okAt l j = false → R = false) := fun h => by
        rw [← HR.out, rightW_loop]
        have : (List.range l.length).all (okAt l) = false := List.all_eq_false.2 ⟨j, List.mem_range.2 hjl, by rw [h]; decide⟩
        rw [this]
        rfl
      have Hst : Hid (okAt l j = true → ∀ t, t < j + 1 → okAt l t = true) := fun h t ht => by
        by_cases e : t = j
        · subst e; exact h
        · exact Hok.out t (by omega)
      have hlen := St8_size l[j]
      generalize l[j] = x at *
      have Hoj : Hid (okAt l j = (decide (x.length ≤ 1024) && (decide (j = 0) || decide (l.getD (j - 1) [] < x)))) := by
        show _ = _
        unfold okAt
        rw [Hxg.out]
      generalize hL : x.length = L at *
      have HL := Lib.hid hL
      by_cases hlo : 1024 < L
      · have Hf : Hid (R = false) := Hbad.out (by rw [Hoj.out, decide_eq_false (show ¬ L ≤ 1024 by omega)]; rfl)
        have hloI : (1024 : Int) < (L : Int) := by omega
        clear hrr Hoj Hbad Hst Hok hL hjl
        go_wp2_with fail
        go_quiet (fail)
        go_wp2_with fail
        go_ret
        rw [Hf.out]
        exact ⟨rfl, q + nq, by rw [Hw.out, World.drewN_drewN]⟩
      · have hle : Hid (decide (L ≤ 1024) = true) := decide_eq_true (by omega)
        have hloI : decide ((1024 : Int) < (L : Int)) = false := decide_eq_false (by omega)
        have hloN : decide (1024 < L) = false := decide_eq_false (by omega)
        by_cases hz : j = 0
        · have Hn := Hst.out (by rw [Hoj.out, hle.out, decide_eq_true hz]; rfl)
          have Hn := Lib.hid Hn
          have hzI : decide (0 < j) = false := decide_eq_false (by omega)
          have hj1 : Hid (j = 0) := hz
          clear hrr Hoj Hbad Hst Hok hL hjl hz hle
          go_wp2_with fail
          go_quiet (fail)
          go_wp2_with fail
          go_roundw
          case rel => exact ⟨j + 1, q + nq, by omega, by go_num, by rw [Hw.out, World.drewN_drewN], Hn⟩
          case measure => simp only [intOf, Int.toNat_natCast]; omega
        · obtain ⟨t, ht⟩ : ∃ t, j = t + 1 := ⟨j - 1, by omega⟩
          have hsub : (j : Int) - 1 = (t : Int) := by omega
          have htn : (t : Int) < (n : Int) := by omega
          have htl : t < l.length := by rw [Hl.out]; omega
          obtain ⟨b', o', e', c1⟩ := hrr.word htl
          cases e'
          have Hty : Hid (l.getD (j - 1) [] = l[t]) := by
            show _ = _
            rw [show j - 1 = t from by omega]
            exact getD_of htl
          have hzI : decide (0 < j) = true := decide_eq_true (by omega)
          generalize l[t] = y at *
          have hls := less_St8 y x
          have Ht := Lib.hid ht
          by_cases hyx : y < x
          · have Hn := Lib.hid (Hst.out (by rw [Hoj.out, hle.out, Hty.out, decide_eq_true hyx]; simp))
            rw [decide_eq_true hyx] at hls
            clear hrr Hoj Hbad Hst Hok hL hjl hz hle hyx ht htl
            go_wp2_with fail
            go_quiet (fail)
            go_wp2_with fail
            go_roundw
            case rel => exact ⟨j + 1, q + nq, by omega, by go_num, by rw [Hw.out, World.drewN_drewN], Hn⟩
            case measure => simp only [intOf, Int.toNat_natCast]; omega
          · have Hf : Hid (R = false) := Hbad.out (by rw [Hoj.out, hle.out, Hty.out, decide_eq_false hyx, decide_eq_false hz]; rfl)
            rw [decide_eq_false hyx] at hls
            clear hrr Hoj Hbad Hst Hok hL hjl hz hle hyx ht htl
            go_wp2_with fail
            go_quiet (fail)
            go_wp2_with fail
            go_ret
            rw [Hf.out]
            exact ⟨rfl, q + nq, by rw [Hw.out, World.drewN_drewN]⟩
    · obtain rfl : j = n := by omega
      have Hf : Hid (decide ((j : Int) ≤ 200) = R) := by
        show _ = _
        rw [← HR.out, rightW_loop]
        have : (List.range l.length).all (okAt l) = true := List.all_eq_true.2 fun t ht => Hok.out t (by have := List.mem_range.1 ht; rw [Hl.out] at this; exact this)
        rw [this, Bool.true_and, Hl.out]
        by_cases h : j ≤ 200
        · rw [decide_eq_true h, decide_eq_true (by omega)]
        · rw [decide_eq_false h, decide_eq_false (by omega)]
      go_wp2_with fail
      go_ret
      rw [← Hf.out]
      exact ⟨rfl, q, Hw.out⟩

end Go.Proofs.Ytmlnjfdanlnccaa
