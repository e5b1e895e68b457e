/- Walks: whether words may be (the program's and the reference's), and where a text stands: the program's. Walks: where a text stands among words: the reference's. -/
import Derived.Test.YtojppmnmhdgnnaaGreatMDwAB
namespace Go.Proofs.YtojppmnmhdgnnaaGreat
set_option linter.unusedVariables false
set_option linter.unusedSimpArgs false
open Go.RowKit

attribute [local go_sem ↓] Go.wp_at_zero Go.wp_at_succ

theorem bnot_f {b : Bool} (h : (!b) = false) : b = true := by cases b <;> simp_all
theorem bnot_t {b : Bool} (h : (!b) = true) : b = false := by cases b <;> simp_all

set_option maxHeartbeats 4000000 in
set_option maxRecDepth 100000 in
theorem dright_any (l : List (List UInt8)) (n c : Nat) (A : Option Addr) (w : World) (hl : l.length = n) (hr : Rd w A (wcl l)) (hn : n ≤ 1000000) :
    Calls Tryz.prog 58 #[.slice A n c] w fun e w' => e = .returned (.bool (rightW l)) ∧ ∃ q, w' = w.drewN q := by
  have Hl := Lib.hid hl
  obtain ⟨R, hR⟩ : ∃ R, rightW l = R := ⟨_, rfl⟩
  rw [hR]
  have HR := Lib.hid hR
  clear hl hR
  go_enter Tryz.func58, Tryz.ntmps58
  go_wp2_with fail
  go_loopw [6] (fun vi wr => ∃ (j q : Nat), j ≤ n ∧ vi = .int .i64 (j : Int) ∧ wr = w.drewN q ∧ Hid (∀ t, t < j → okAt l t = true)) (fun vi _ => n - (intOf vi).toNat)
  case atStart => exact ⟨0, 0, by omega, rfl, rfl, fun t h => absurd h (Nat.not_lt_zero _)⟩
  case round =>
    obtain ⟨j, q, hj, rfl, hw, Hok⟩ := hrel
    have Hw := Lib.hid hw
    have hrr : Rd wr A (wcl l) := by rw [hw]; exact hr.drewN q
    clear hw hr
    by_cases hjn : j < n
    · have hjl : j < l.length := by rw [Hl.out]; exact hjn
      have hjI : (j : Int) < (n : Int) := by omega
      have hj0 : (0 : Int) ≤ (j : Int) := by omega
      obtain ⟨b, o, rfl, c0⟩ := hrr.word hjl
      have Hxg : Hid (l.getD j [] = l[j]) := getD_of hjl
      have Hbad : Hid (okAt l j = false → R = false) := fun h => by
        rw [← HR.out, rightW_loop]
        have : (List.range l.length).all (okAt l) = false := List.all_eq_false.2 ⟨j, List.mem_range.2 hjl, by rw [h]; decide⟩
        rw [this]
        rfl
      have Hst : Hid (okAt l j = true → ∀ t, t < j + 1 → okAt l t = true) := fun h t ht => by
        by_cases e : t = j
        · subst e; exact h
        · exact Hok.out t (by omega)
      have hlen := St8_size l[j]
      generalize l[j] = x at *
      have Hoj : Hid (okAt l j = (decide (x.length ≤ 1024) && (decide (j = 0) || decide (l.getD (j - 1) [] < x)))) := by
        show _ = _
        unfold okAt
        rw [Hxg.out]
      have hlong := Lib.hid (fun w' => long_any x w')
      generalize hL : x.length = L at *
      have HL := Lib.hid hL
      by_cases hlo : 1024 < L
      · have Hf : Hid (R = false) := Hbad.out (by rw [Hoj.out, decide_eq_false (show ¬ L ≤ 1024 by omega)]; rfl)
        have hloI : (1024 : Int) < (L : Int) := by omega
        rw [decide_eq_true hlo] at hlong
        clear hrr Hoj Hbad Hst Hok hL hjl
        go_wp2_with fail
        go_quiet (first | (go_at_call 81; exact Calls.quiet_of_same (hlong.out _)))
        go_wp2_with fail
        go_ret
        rw [Hf.out]
        exact ⟨rfl, q + nq, by rw [Hw.out, World.drewN_drewN]⟩
      · have hle : Hid (decide (L ≤ 1024) = true) := decide_eq_true (by omega)
        have hloI : decide ((1024 : Int) < (L : Int)) = false := decide_eq_false (by omega)
        have hloN : decide (1024 < L) = false := decide_eq_false (by omega)
        rw [decide_eq_false hlo] at hlong
        by_cases hz : j = 0
        · have Hn := Hst.out (by rw [Hoj.out, hle.out, decide_eq_true hz]; rfl)
          have Hn := Lib.hid Hn
          have hzI : decide (0 < j) = false := decide_eq_false (by omega)
          have hj1 : Hid (j = 0) := hz
          clear hrr Hoj Hbad Hst Hok hL hjl hz hle
          go_wp2_with fail
          go_quiet (first | (go_at_call 81; exact Calls.quiet_of_same (hlong.out _)))
          go_wp2_with fail
          go_roundw
          case rel => exact ⟨j + 1, q + nq, by omega, by go_num, by rw [Hw.out, World.drewN_drewN], Hn⟩
          case measure => simp only [intOf, Int.toNat_natCast]; omega
        · obtain ⟨t, ht⟩ : ∃ t, j = t + 1 := ⟨j - 1, by omega⟩
          have hsub : (j : Int) - 1 = (t : Int) := by omega
          have htn : (t : Int) < (n : Int) := by omega
          have htl : t < l.length := by rw [Hl.out]; omega
          obtain ⟨b', o', e', c1⟩ := hrr.word htl
          cases e'
          have Hty : Hid (l.getD (j - 1) [] = l[t]) := by
            show _ = _
            rw [show j - 1 = t from by omega]
            exact getD_of htl
          have hzI : decide (0 < j) = true := decide_eq_true (by omega)
          generalize l[t] = y at *
          have hls := less_St8 y x
          have Ht := Lib.hid ht
          by_cases hyx : y < x
          · have Hn := Lib.hid (Hst.out (by rw [Hoj.out, hle.out, Hty.out, decide_eq_true hyx]; simp))
            rw [decide_eq_true hyx] at hls
            clear hrr Hoj Hbad Hst Hok hL hjl hz hle hyx ht htl
            go_wp2_with fail
            go_quiet (first | (go_at_call 81; exact Calls.quiet_of_same (hlong.out _)))
            go_wp2_with fail
            go_roundw
            case rel => exact ⟨j + 1, q + nq, by omega, by go_num, by rw [Hw.out, World.drewN_drewN], Hn⟩
            case measure => simp only [intOf, Int.toNat_natCast]; omega
          · have Hf : Hid (R = false) := Hbad.out (by rw [Hoj.out, hle.out, Hty.out, decide_eq_false hyx, decide_eq_false hz]; rfl)
            rw [decide_eq_false hyx] at hls
            clear hrr Hoj Hbad Hst Hok hL hjl hz hle hyx ht htl
            go_wp2_with fail
            go_quiet (first | (go_at_call 81; exact Calls.quiet_of_same (hlong.out _)))
            go_wp2_with fail
            go_ret
            rw [Hf.out]
            exact ⟨rfl, q + nq, by rw [Hw.out, World.drewN_drewN]⟩
    · obtain rfl : j = n := by omega
      have Hf : Hid (decide ((j : Int) ≤ 200) = R) := by
        show _ = _
        rw [← HR.out, rightW_loop]
        have : (List.range l.length).all (okAt l) = true := List.all_eq_true.2 fun t ht => Hok.out t (by have := List.mem_range.1 ht; rw [Hl.out] at this; exact this)
        rw [this, Bool.true_and, Hl.out]
        by_cases h : j ≤ 200
        · rw [decide_eq_true h, decide_eq_true (by omega)]
        · rw [decide_eq_false h, decide_eq_false (by omega)]
      go_wp2_with fail
      go_ret
      rw [← Hf.out]
      exact ⟨rfl, q, Hw.out⟩

set_option maxHeartbeats 4000000 in
set_option maxRecDepth 100000 in
theorem drright_any (l : List (List UInt8)) (n c : Nat) (A : Option Addr) (w : World) (hl : l.length = n) (hr : Rd w A (wcl l)) (hn : n ≤ 1000000) :
    Calls Tryz.prog 82 #[.slice A n c] w fun e w' => e = .returned (.bool (rightW l)) ∧ ∃ q, w' = w.drewN q := by
  have Hl := Lib.hid hl
  obtain ⟨R, hR⟩ : ∃ R, rightW l = R := ⟨_, rfl⟩
  rw [hR]
  have HR := Lib.hid hR
  clear hl hR
  go_enter Tryz.func82, Tryz.ntmps82
  go_wp2_with fail
  go_loopw [3] (fun vi wr => ∃ (j q : Nat), j ≤ n ∧ vi = .int .i64 (j : Int) ∧ wr = w.drewN q ∧ Hid (∀ t, t < j → okAt l t = true)) (fun vi _ => n - (intOf vi).toNat)
  case atStart => exact ⟨0, 0, by omega, rfl, rfl, fun t h => absurd h (Nat.not_lt_zero _)⟩
  case round =>
    obtain ⟨j, q, hj, rfl, hw, Hok⟩ := hrel
    have Hw := Lib.hid hw
    have hrr : Rd wr A (wcl l) := by rw [hw]; exact hr.drewN q
    clear hw hr
    by_cases hjn : j < n
    · have hjl : j < l.length := by rw [Hl.out]; exact hjn
      have hjI : (j : Int) < (n : Int) := by omega
      have hj0 : (0 : Int) ≤ (j : Int) := by omega
      obtain ⟨b, o, rfl, c0⟩ := hrr.word hjl
      have Hxg : Hid (l.getD j [] = l[j]) := getD_of hjl
      have Hbad : Hid (okAt l j = false → R = false) := fun h => by
        rw [← HR.out, rightW_loop]
        have : (List.range l.length).all (okAt l) = false := List.all_eq_false.2 ⟨j, List.mem_range.2 hjl, by rw [h]; decide⟩
        rw [this]
        rfl
      have Hst : Hid (okAt l j = true → ∀ t, t < j + 1 → okAt l t = true) := fun h t ht => by
        by_cases e : t = j
        · subst e; exact h
        · exact Hok.out t (by omega)
      have hlen := St8_size l[j]
      generalize l[j] = x at *
      have Hoj : Hid (okAt l j = (decide (x.length ≤ 1024) && (decide (j = 0) || decide (l.getD (j - 1) [] < x)))) := by
        show _ = _
        unfold okAt
        rw [Hxg.out]
      generalize hL : x.length = L at *
      have HL := Lib.hid hL
      by_cases hlo : 1024 < L
      · have Hf : Hid (R = false) := Hbad.out (by rw [Hoj.out, decide_eq_false (show ¬ L ≤ 1024 by omega)]; rfl)
        have hloI : (1024 : Int) < (L : Int) := by omega
        clear hrr Hoj Hbad Hst Hok hL hjl
        go_wp2_with fail
        go_quiet (fail)
        go_wp2_with fail
        go_ret
        rw [Hf.out]
        exact ⟨rfl, q + nq, by rw [Hw.out, World.drewN_drewN]⟩
      · have hle : Hid (decide (L ≤ 1024) = true) := decide_eq_true (by omega)
        have hloI : decide ((1024 : Int) < (L : Int)) = false := decide_eq_false (by omega)
        have hloN : decide (1024 < L) = false := decide_eq_false (by omega)
        by_cases hz : j = 0
        · have Hn := Hst.out (by rw [Hoj.out, hle.out, decide_eq_true hz]; rfl)
          have Hn := Lib.hid Hn
          have hzI : decide (0 < j) = false := decide_eq_false (by omega)
          have hj1 : Hid (j = 0) := hz
          clear hrr Hoj Hbad Hst Hok hL hjl hz hle
          go_wp2_with fail
          go_quiet (fail)
          go_wp2_with fail
          go_roundw
          case rel => exact ⟨j + 1, q + nq, by omega, by go_num, by rw [Hw.out, World.drewN_drewN], Hn⟩
          case measure => simp only [intOf, Int.toNat_natCast]; omega
        · obtain ⟨t, ht⟩ : ∃ t, j = t + 1 := ⟨j - 1, by omega⟩
          have hsub : (j : Int) - 1 = (t : Int) := by omega
          have htn : (t : Int) < (n : Int) := by omega
          have htl : t < l.length := by rw [Hl.out]; omega
          obtain ⟨b', o', e', c1⟩ := hrr.word htl
          cases e'
          have Hty : Hid (l.getD (j - 1) [] = l[t]) := by
            show _ = _
            rw [show j - 1 = t from by omega]
            exact getD_of htl
          have hzI : decide (0 < j) = true := decide_eq_true (by omega)
          generalize l[t] = y at *
          have hls := less_St8 y x
          have Ht := Lib.hid ht
          by_cases hyx : y < x
          · have Hn := Lib.hid (Hst.out (by rw [Hoj.out, hle.out, Hty.out, decide_eq_true hyx]; simp))
            rw [decide_eq_true hyx] at hls
            clear hrr Hoj Hbad Hst Hok hL hjl hz hle hyx ht htl
            go_wp2_with fail
            go_quiet (fail)
            go_wp2_with fail
            go_roundw
            case rel => exact ⟨j + 1, q + nq, by omega, by go_num, by rw [Hw.out, World.drewN_drewN], Hn⟩
            case measure => simp only [intOf, Int.toNat_natCast]; omega
          · have Hf : Hid (R = false) := Hbad.out (by rw [Hoj.out, hle.out, Hty.out, decide_eq_false hyx, decide_eq_false hz]; rfl)
            rw [decide_eq_false hyx] at hls
            clear hrr Hoj Hbad Hst Hok hL hjl hz hle hyx ht htl
            go_wp2_with fail
            go_quiet (fail)
            go_wp2_with fail
            go_ret
            rw [Hf.out]
            exact ⟨rfl, q + nq, by rw [Hw.out, World.drewN_drewN]⟩
    · obtain rfl : j = n := by omega
      have Hf : Hid (decide ((j : Int) ≤ 200) = R) := by
        show _ = _
        rw [← HR.out, rightW_loop]
        have : (List.range l.length).all (okAt l) = true := List.all_eq_true.2 fun t ht => Hok.out t (by have := List.mem_range.1 ht; rw [Hl.out] at this; exact this)
        rw [this, Bool.true_and, Hl.out]
        by_cases h : j ≤ 200
        · rw [decide_eq_true h, decide_eq_true (by omega)]
        · rw [decide_eq_false h, decide_eq_false (by omega)]
      go_wp2_with fail
      go_ret
      rw [← Hf.out]
      exact ⟨rfl, q, Hw.out⟩

end Go.Proofs.YtojppmnmhdgnnaaGreat
namespace Go.Proofs.YtojppmnmhdgnnaaGreat
set_option linter.unusedVariables false
set_option linter.unusedSimpArgs false
open Go.RowKit

attribute [local go_sem ↓] Go.wp_at_zero Go.wp_at_succ

theorem idx_at : ∀ (l : List (List UInt8)) (s : List UInt8) (j : Nat), l[j]? = some s → (∀ t, t < j → ¬ l[t]? = some s) → l.idxOf s = j
  | [], s, j, h, _ => by simp at h
  | x :: l, s, 0, h, _ => by
    obtain rfl : x = s := by simpa using h
    rw [List.idxOf_cons]
    simp
  | x :: l, s, j + 1, h, hn => by
    have h0 : (x == s) = false := by
      have := hn 0 (by omega)
      rw [beq_eq_false_iff_ne]
      intro e
      exact this (by rw [e]; rfl)
    rw [List.idxOf_cons, h0, idx_at l s j (by simpa using h) (fun t ht e => hn (t + 1) (by omega) (by simpa using e))]
    rfl
theorem placeM_kinds (l : List (List UInt8)) (s : List UInt8) : placeM l s = -1 ∨ ∃ k : Nat, placeM l s = (k : Int) ∧ k < l.length := by
  unfold placeM
  by_cases h : s ∈ l
  · rw [if_pos h]
    exact .inr ⟨_, rfl, List.idxOf_lt_length_of_mem h⟩
  · rw [if_neg h]
    exact .inl rfl

set_option maxHeartbeats 4000000 in
set_option maxRecDepth 100000 in
theorem place_any (l : List (List UInt8)) (s : List UInt8) (n c : Nat) (A : Option Addr) (w : World) (hl : l.length = n) (hr : Rd w A (wcl l)) (hn : n ≤ 1000000) :
    Calls Tryz.prog 100 #[.slice A n c, .string (St8 s)] w fun e w' => e = .returned (.int .i64 (placeM l s)) ∧ w = w' := by
  have Hl := Lib.hid hl
  obtain ⟨R, hR⟩ : ∃ R, placeM l s = R := ⟨_, rfl⟩
  rw [hR]
  have HR := Lib.hid hR
  clear hR hl
  go_enter Tryz.func100, Tryz.ntmps100
  go_wp2_with fail
  go_loop [5] (fun vi => ∃ (j : Nat), vi = .int .i64 (j : Int) ∧ j ≤ n ∧ Hid (∀ t, t < j → ¬ l[t]? = some s)) (fun vi => n - (intOf vi).toNat)
  case atStart => exact ⟨0, rfl, by omega, fun t h => absurd h (Nat.not_lt_zero _)⟩
  case round =>
    obtain ⟨j, rfl, hj, Hn⟩ := hrel
    by_cases hjn : j < n
    · have hjl : j < l.length := by rw [Hl.out]; exact hjn
      have hjI : (j : Int) < (n : Int) := by omega
      have hj0 : (0 : Int) ≤ (j : Int) := by omega
      obtain ⟨b, o, rfl, c0⟩ := hr.word hjl
      have Hg := Lib.hid (List.getElem?_eq_getElem hjl)
      have hc := St8_cmp l[j] s
      generalize l[j] = x at *
      clear hr hjl
      by_cases hx : x = s
      · have hf : Hid (R = (j : Int)) := by
          show _ = _
          rw [← HR.out]
          unfold placeM
          have hg : l[j]? = some s := by rw [Hg.out, hx]
          rw [if_pos (List.mem_of_getElem? hg), idx_at l s j hg Hn.out]
        rw [decide_eq_true hx] at hc
        clear hx
        go_wp2_with fail
        go_ret
        rw [hf.out]
        exact ⟨rfl, rfl⟩
      · have Hn2 : Hid (∀ t, t < j + 1 → ¬ l[t]? = some s) := fun t ht e => by
          by_cases h : t = j
          · subst h
            rw [Hg.out] at e
            exact hx (Option.some.inj e)
          · exact Hn.out t (by omega) e
        rw [decide_eq_false hx] at hc
        clear hx
        go_wp2_with fail
        go_round
        case rel => exact ⟨j + 1, by go_num, by omega, Hn2⟩
        case measure => simp only [intOf, Int.toNat_natCast]; omega
    · obtain rfl : j = n := by omega
      have hf : Hid (R = -1) := by
        show _ = _
        rw [← HR.out]
        unfold placeM
        rw [if_neg]
        intro h
        obtain ⟨t, ht, e⟩ := List.getElem_of_mem h
        exact Hn.out t (by rw [← Hl.out]; exact ht) (by rw [List.getElem?_eq_getElem ht, e])
      go_wp2_with fail
      go_ret
      rw [hf.out]
      exact ⟨rfl, rfl⟩

end Go.Proofs.YtojppmnmhdgnnaaGreat
