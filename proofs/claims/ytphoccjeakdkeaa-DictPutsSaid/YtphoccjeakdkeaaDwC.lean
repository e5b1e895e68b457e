/- Walks: whether words may be (the program's and the reference's), and where a text stands: the program's. -/
import Derived.Test.YtphoccjeakdkeaaDwB
namespace Go.Proofs.Ytphoccjeakdkeaa
open Go.RowKit

attribute [local go_sem ↓] Go.wp_at_zero Go.wp_at_succ

theorem bnot_f {b : Bool} (h : (!b) = false) : b = true := by cases b <;> simp_all
theorem bnot_t {b : Bool} (h : (!b) = true) : b = false := by cases b <;> simp_all

set_option maxHeartbeats 4000000 in
set_option maxRecDepth 100000 in
theorem dright_any (l : List (List UInt8)) (n c : Nat) (A : Option Addr) (w : World) (hl : l.length = n) (hr : Rd w A (wcl l)) (hn : n ≤ 1000000) :
    Calls Try.prog 18 #[.slice A n c] w fun e w' => e = .returned (.bool (rightW l)) ∧ ∃ q, w' = w.drewN q := by
  have Hl := Lib.hid hl
  obtain ⟨R, hR⟩ : ∃ R, rightW l = R := ⟨_, rfl⟩
  rw [hR]
  have HR := Lib.hid hR
  clear hl hR
  go_enter Try.func18, Try.ntmps18
  go_wp2_with fail
  go_loopw [6] (fun vi wr => ∃ (j q : Nat), j ≤ n ∧ vi = .int .i64 (j : Int) ∧ wr = w.drewN q ∧ Hid (∀ t, t < j → okAt l t = true)) (fun vi _ => n - (intOf vi).toNat)
  case atStart => exact ⟨0, 0, by omega, rfl, rfl, fun t h => absurd h (Nat.not_lt_zero _)⟩
  case round =>
    obtain ⟨j, q, hj, rfl, hw, Hok⟩ := hrel
    have Hw := Lib.hid hw
    have hrr : Rd wr A (wcl l) := by rw [hw]; exact hr.drewN q
    clear hw hr
    by_cases hjn : j < n
    · have hjl : j < l.length := by rw [Hl.out]; exact hjn
      have hjI : (j : Int) < (n : Int) := by omega
      have hj0 : (0 : Int) ≤ (j : Int) := by omega
      obtain ⟨b, o, rfl, c0⟩ := hrr.word hjl
      have Hxg : Hid (l.getD j [] = l[j]) := getD_of hjl
      have Hbad : Hid (okAt l j = false → R = false) := fun h => by
        rw [← HR.out, rightW_loop]
        have : (List.range l.length).all (okAt l) = false := List.all_eq_false.2 ⟨j, List.mem_range.2 hjl, by rw [h]; decide⟩
        rw [this]
        rfl
      have Hst : Hid (okAt l j = true → ∀ t, t < j + 1 → okAt l t = true) := fun h t ht => by
        by_cases e : t = j
        · subst e; exact h
        · exact Hok.out t (by omega)
      have hlen := St8_size l[j]
      generalize l[j] = x at *
      have Hoj : Hid (okAt l j = (decide (x.length ≤ 1024) && (decide (j = 0) || decide (l.getD (j - 1) [] < x)))) := by
        show _ = _
        unfold okAt
        rw [Hxg.out]
      have hlong := Lib.hid (fun w' => long_any x w')
      generalize hL : x.length = L at *
      have HL := Lib.hid hL
      by_cases hlo : 1024 < L
      · have Hf : Hid (R = false) := Hbad.out (by rw [Hoj.out, decide_eq_false (show ¬ L ≤ 1024 by omega)]; rfl)
        have hloI : (1024 : Int) < (L : Int) := by omega
        rw [decide_eq_true hlo] at hlong
        clear hrr Hoj Hbad Hst Hok hL hjl
        go_wp2_with fail
        go_quiet (first | (go_at_call 31; exact Calls.quiet_of_same (hlong.out _)))
        go_wp2_with fail
        go_ret
        rw [Hf.out]
        exact ⟨rfl, q + nq, by rw [Hw.out, World.drewN_drewN]⟩
      · have hle : Hid (decide (L ≤ 1024) = true) := decide_eq_true (by omega)
        have hloI : decide ((1024 : Int) < (L : Int)) = false := decide_eq_false (by omega)
        have hloN : decide (1024 < L) = false := decide_eq_false (by omega)
        rw [decide_eq_false hlo] at hlong
        by_cases hz : j = 0
        · have Hn := Hst.out (by rw [Hoj.out, hle.out, decide_eq_true hz]; rfl)
          have Hn := Lib.hid Hn
          have hzI : decide (0 < j) = false := decide_eq_false (by omega)
          have hj1 : Hid (j = 0) := hz
          clear hrr Hoj Hbad Hst Hok hL hjl hz hle
          go_wp2_with fail
          go_quiet (first | (go_at_call 31; exact Calls.quiet_of_same (hlong.out _)))
          go_wp2_with fail
          go_roundw
          case rel => exact ⟨j + 1, q + nq, by omega, by go_num, by rw [Hw.out, World.drewN_drewN], Hn⟩
          case measure => simp only [intOf, Int.toNat_natCast]; omega
        · obtain ⟨t, ht⟩ : ∃ t, j = t + 1 := ⟨j - 1, by omega⟩
          have hsub : (j : Int) - 1 = (t : Int) := by omega
          have htn : (t : Int) < (n : Int) := by omega
          have htl : t < l.length := by rw [Hl.out]; omega
          obtain ⟨b', o', e', c1⟩ := hrr.word htl
          cases e'
          have Hty : Hid (l.getD (j - 1) [] = l[t]) := by
            show _ = _
            rw [show j - 1 = t from by omega]
            exact getD_of htl
          have hzI : decide (0 < j) = true := decide_eq_true (by omega)
          generalize l[t] = y at *
          have hls := less_St8 y x
          have Ht := Lib.hid ht
          by_cases hyx : y < x
          · have Hn := Lib.hid (Hst.out (by rw [Hoj.out, hle.out, Hty.out, decide_eq_true hyx]; simp))
            rw [decide_eq_true hyx] at hls
            clear hrr Hoj Hbad Hst Hok hL hjl hz hle hyx ht htl
            go_wp2_with fail
            go_quiet (first | (go_at_call 31; exact Calls.quiet_of_same (hlong.out _)))
            go_wp2_with fail
            go_roundw
            case rel => exact ⟨j + 1, q + nq, by omega, by go_num, by rw [Hw.out, World.drewN_drewN], Hn⟩
            case measure => simp only [intOf, Int.toNat_natCast]; omega
          · have Hf : Hid (R = false) := Hbad.out (by rw [Hoj.out, hle.out, Hty.out, decide_eq_false hyx, decide_eq_false hz]; rfl)
            rw [decide_eq_false hyx] at hls
            clear hrr Hoj Hbad Hst Hok hL hjl hz hle hyx ht htl
            go_wp2_with fail
            go_quiet (first | (go_at_call 31; exact Calls.quiet_of_same (hlong.out _)))
            go_wp2_with fail
            go_ret
            rw [Hf.out]
            exact ⟨rfl, q + nq, by rw [Hw.out, World.drewN_drewN]⟩
    · obtain rfl : j = n := by omega
      have Hf : Hid (decide ((j : Int) ≤ 200) = R) := by
        show _ = _
        rw [← HR.out, rightW_loop]
        have : (List.range l.length).all (okAt l) = true := List.all_eq_true.2 fun t ht => Hok.out t (by have := List.mem_range.1 ht; rw [Hl.out] at this; exact this)
        rw [this, Bool.true_and, Hl.out]
        by_cases h : j ≤ 200
        · rw [decide_eq_true h, decide_eq_true (by omega)]
        · rw [decide_eq_false h, decide_eq_false (by omega)]
      go_wp2_with fail
      go_ret
      rw [← Hf.out]
      exact ⟨rfl, q, Hw.out⟩

set_option maxHeartbeats 4000000 in
set_option maxRecDepth 100000 in
theorem drright_any (l : List (List UInt8)) (n c : Nat) (A : Option Addr) (w : World) (hl : l.length = n) (hr : Rd w A (wcl l)) (hn : n ≤ 1000000) :
    Calls Try.prog 19 #[.slice A n c] w fun e w' => e = .returned (.bool (rightW l)) ∧ ∃ q, w' = w.drewN q := by
  have Hl := Lib.hid hl
  obtain ⟨R, hR⟩ : ∃ R, rightW l = R := ⟨_, rfl⟩
  rw [hR]
  have HR := Lib.hid hR
  clear hl hR
  go_enter Try.func19, Try.ntmps19
  go_wp2_with fail
  go_loopw [3] (fun vi wr => ∃ (j q : Nat), j ≤ n ∧ vi = .int .i64 (j : Int) ∧ wr = w.drewN q ∧ Hid (∀ t, t < j → okAt l t = true)) (fun vi _ => n - (intOf vi).toNat)
  case atStart => exact ⟨0, 0, by omega, rfl, rfl, fun t h => absurd h (Nat.not_lt_zero _)⟩
  case round =>
    obtain ⟨j, q, hj, rfl, hw, Hok⟩ := hrel
    have Hw := Lib.hid hw
    have hrr : Rd wr A (wcl l) := by rw [hw]; exact hr.drewN q
    clear hw hr
    by_cases hjn : j < n
    · have hjl : j < l.length := by rw [Hl.out]; exact hjn
      have hjI : (j : Int) < (n : Int) := by omega
      have hj0 : (0 : Int) ≤ (j : Int) := by omega
      obtain ⟨b, o, rfl, c0⟩ := hrr.word hjl
      have Hxg : Hid (l.getD j [] = l[j]) := getD_of hjl
      have Hbad : Hid (okAt l j = false → R = false) := fun h => by
        rw [← HR.out, rightW_loop]
        have : (List.range l.length).all (okAt l) = false := List.all_eq_false.2 ⟨j, List.mem_range.2 hjl, by rw [h]; decide⟩
        rw [this]
        rfl
      have Hst : Hid (okAt l j = true → ∀ t, t < j + 1 → okAt l t = true) := fun h t ht => by
        by_cases e : t = j
        · subst e; exact h
        · exact Hok.out t (by omega)
      have hlen := St8_size l[j]
      generalize l[j] = x at *
      have Hoj : Hid (okAt l j = (decide (x.length ≤ 1024) && (decide (j = 0) || decide (l.getD (j - 1) [] < x)))) := by
        show _ = _
        unfold okAt
        rw [Hxg.out]
      generalize hL : x.length = L at *
      have HL := Lib.hid hL
      by_cases hlo : 1024 < L
      · have Hf : Hid (R = false) := Hbad.out (by rw [Hoj.out, decide_eq_false (show ¬ L ≤ 1024 by omega)]; rfl)
        have hloI : (1024 : Int) < (L : Int) := by omega
        clear hrr Hoj Hbad Hst Hok hL hjl
        go_wp2_with fail
        go_quiet (fail)
        go_wp2_with fail
        go_ret
        rw [Hf.out]
        exact ⟨rfl, q + nq, by rw [Hw.out, World.drewN_drewN]⟩
      · have hle : Hid (decide (L ≤ 1024) = true) := decide_eq_true (by omega)
        have hloI : decide ((1024 : Int) < (L : Int)) = false := decide_eq_false (by omega)
        have hloN : decide (1024 < L) = false := decide_eq_false (by omega)
        by_cases hz : j = 0
        · have Hn := Hst.out (by rw [Hoj.out, hle.out, decide_eq_true hz]; rfl)
          have Hn := Lib.hid Hn
          have hzI : decide (0 < j) = false := decide_eq_false (by omega)
          have hj1 : Hid (j = 0) := hz
          clear hrr Hoj Hbad Hst Hok hL hjl hz hle
          go_wp2_with fail
          go_quiet (fail)
          go_wp2_with fail
          go_roundw
          case rel => exact ⟨j + 1, q + nq, by omega, by go_num, by rw [Hw.out, World.drewN_drewN], Hn⟩
          case measure => simp only [intOf, Int.toNat_natCast]; omega
        · obtain ⟨t, ht⟩ : ∃ t, j = t + 1 := ⟨j - 1, by omega⟩
          have hsub : (j : Int) - 1 = (t : Int) := by omega
          have htn : (t : Int) < (n : Int) := by omega
          have htl : t < l.length := by rw [Hl.out]; omega
          obtain ⟨b', o', e', c1⟩ := hrr.word htl
          cases e'
          have Hty : Hid (l.getD (j - 1) [] = l[t]) := by
            show _ = _
            rw [show j - 1 = t from by omega]
            exact getD_of htl
          have hzI : decide (0 < j) = true := decide_eq_true (by omega)
          generalize l[t] = y at *
          have hls := less_St8 y x
          have Ht := Lib.hid ht
          by_cases hyx : y < x
          · have Hn := Lib.hid (Hst.out (by rw [Hoj.out, hle.out, Hty.out, decide_eq_true hyx]; simp))
            rw [decide_eq_true hyx] at hls
            clear hrr Hoj Hbad Hst Hok hL hjl hz hle hyx ht htl
            go_wp2_with fail
            go_quiet (fail)
            go_wp2_with fail
            go_roundw
            case rel => exact ⟨j + 1, q + nq, by omega, by go_num, by rw [Hw.out, World.drewN_drewN], Hn⟩
            case measure => simp only [intOf, Int.toNat_natCast]; omega
          · have Hf : Hid (R = false) := Hbad.out (by rw [Hoj.out, hle.out, Hty.out, decide_eq_false hyx, decide_eq_false hz]; rfl)
            rw [decide_eq_false hyx] at hls
            clear hrr Hoj Hbad Hst Hok hL hjl hz hle hyx ht htl
            go_wp2_with fail
            go_quiet (fail)
            go_wp2_with fail
            go_ret
            rw [Hf.out]
            exact ⟨rfl, q + nq, by rw [Hw.out, World.drewN_drewN]⟩
    · obtain rfl : j = n := by omega
      have Hf : Hid (decide ((j : Int) ≤ 200) = R) := by
        show _ = _
        rw [← HR.out, rightW_loop]
        have : (List.range l.length).all (okAt l) = true := List.all_eq_true.2 fun t ht => Hok.out t (by have := List.mem_range.1 ht; rw [Hl.out] at this; exact this)
        rw [this, Bool.true_and, Hl.out]
        by_cases h : j ≤ 200
        · rw [decide_eq_true h, decide_eq_true (by omega)]
        · rw [decide_eq_false h, decide_eq_false (by omega)]
      go_wp2_with fail
      go_ret
      rw [← Hf.out]
      exact ⟨rfl, q, Hw.out⟩

theorem dfind_any (l : List (List UInt8)) (s : List UInt8) (n c : Nat) (A : Option Addr) (w : World) (hl : l.length = n) (hr : Rd w A (wcl l)) (hn : n ≤ 1000000) :
    Calls Try.prog 16 #[.slice A n c, .string (St8 s)] w fun e w' => e = .returned (.tuple #[.int .i64 (((findM l s).getD 0 : Nat) : Int), .bool (findM l s).isSome]) ∧ ∃ q, w' = w.drewN q := by
  have hri := Lib.hid (dright_any l n c A w hl hr hn)
  cases hR : rightW l
  · have hf : Hid (findM l s = none) := by show _ = _; unfold findM; rw [if_neg (by rw [hR]; simp)]
    rw [hR] at hri
    clear hR hl hr
    go_enter Try.func16, Try.ntmps16
    go_wp2_with fail
    refine hri.out.mono ?_
    rintro e w1 ⟨rfl, q, rfl⟩
    go_wp2_with fail
    go_ret2
    rw [hf.out]
    exact ⟨rfl, _, rfl⟩
  · have hbs := Lib.hid (fun q => bsearch_any l s n c A (w.drewN q) hl (hr.drewN q) hn (rightW_strict hR))
    have hf := Lib.hid (find_search hR s)
    rw [hR] at hri
    clear hR hl hr
    generalize wahd s l = k at *
    by_cases hk : l[k]? = some s
    · rw [decide_eq_true hk] at hbs
      have hf2 : Hid (findM l s = some k) := by show _ = _; rw [hf.out, if_pos hk]
      clear hk hf
      go_enter Try.func16, Try.ntmps16
      go_wp2_with fail
      refine hri.out.mono ?_
      rintro e w1 ⟨rfl, q, rfl⟩
      go_wp2_with fail
      refine (hbs.out q).mono ?_
      rintro e w1 ⟨rfl, rfl⟩
      go_wp2_with fail
      go_ret2
      rw [hf2.out]
      exact ⟨rfl, _, rfl⟩
    · rw [decide_eq_false hk] at hbs
      have hf2 : Hid (findM l s = none) := by show _ = _; rw [hf.out, if_neg hk]
      clear hk hf
      go_enter Try.func16, Try.ntmps16
      go_wp2_with fail
      refine hri.out.mono ?_
      rintro e w1 ⟨rfl, q, rfl⟩
      go_wp2_with fail
      refine (hbs.out q).mono ?_
      rintro e w1 ⟨rfl, rfl⟩
      go_wp2_with fail
      go_ret2
      rw [hf2.out]
      exact ⟨rfl, _, rfl⟩

set_option maxRecDepth 100000 in
theorem dfrom_any (l : List (List UInt8)) (s : List UInt8) (n c : Nat) (A : Option Addr) (w : World) (hl : l.length = n) (hr : Rd w A (wcl l)) (hn : n ≤ 1000000) :
    Calls Try.prog 20 #[.slice A n c, .string (St8 s)] w fun e w' => e = .returned (.int .i64 ((fromM l s : Nat) : Int)) ∧ Below w.heap.size w w' := by
  have eg : ∀ args w, (callFunc 38 args).run Try.prog w = .ok (.enter 38 args) w := Go.Proofs.enters_of Try.func38 (by kernel_rfl) rfl
  have b1 := Blk.new w 22 #[.slice A n c]
  have hb1 : Below w.heap.size w (w.alloc (.cells #[.slice A n c] 22)) := (Below.refl _ _).alloc (Nat.le_refl _) _
  have b2 := Blk.new (w.alloc (.cells #[.slice A n c] 22)) 9 #[.string (St8 s)]
  have hsz : (w.alloc (.cells #[.slice A n c] 22)).heap.size = w.heap.size + 1 := Array.size_push _
  rw [hsz] at b2
  have hb2 : Below (w.alloc (.cells #[.slice A n c] 22)).heap.size (w.alloc (.cells #[.slice A n c] 22)) ((w.alloc (.cells #[.slice A n c] 22)).alloc (.cells #[.string (St8 s)] 9)) := (Below.refl _ _).alloc (Nat.le_refl _) _
  have b1' := b1.below hb2
  have hb := hb1.trans (hb2.mono hb1.size)
  have hri := Lib.hid (dright_any l n c A _ hl (hr.below hb) hn)
  have d1 := b1'.cell 0
  simp only [List.getElem?_cons_zero] at d1
  have D1 := Lib.hid d1
  cases hR : rightW l
  · have hf : Hid (fromM l s = 0) := by show _ = _; unfold fromM; rw [hR]; rfl
    rw [hR] at hri
    have Hb := Lib.hid hb
    clear hR hl hr b1 b2 b1' hb1 hb2 hb d1
    go_enter Try.func20, Try.ntmps20
    go_wp2_with fail
    refine hri.out.mono ?_
    rintro e w1 ⟨rfl, q, rfl⟩
    go_wp2_with fail
    go_ret
    rw [hf.out]
    exact ⟨rfl, below_drewN' Hb.out q⟩
  · have hs := rightW_strict hR
    have hse := Lib.hid (fun q =>
      search_any 38 #[.pointer (some ⟨w.heap.size, 0, none⟩), .pointer (some ⟨w.heap.size + 1, 0, none⟩)] n (fun i => !decide (l.getD i [] < s)) (((w.alloc (.cells #[.slice A n c] 22)).alloc (.cells #[.string (St8 s)] 9)).drewN q) eg hn
        (fun i w' hi hw' => fromc_any l s n c _ _ i A w' hl (((hr.below hb).drewN q).below hw') ((b1'.drewN q).below hw') ((b2.drewN q).below hw') hi)
        (fun a b hab hbn h => by
          have h' : decide (l.getD a [] < s) = false := by
            cases hh : decide (l.getD a [] < s) with
            | false => rfl
            | true => rw [hh] at h; exact absurd h (by decide)
          have := from_mono hs s a b hab (by rw [hl]; exact hbn) h'
          rw [this]
          rfl))
    have hcn : Hid (∀ k, k ≤ n → (∀ t, t < k → (!decide (l.getD t [] < s)) = false) → (∀ t, k ≤ t → t < n → (!decide (l.getD t [] < s)) = true) → fromM l s = k) := fun k hk h1 h2 => by
      have := search_count (n := n) (k := k) (q := fun i => decide (l.getD i [] < s)) hk (fun t ht => bnot_f (h1 t ht)) (fun t ht htn => bnot_t (h2 t ht htn))
      unfold fromM
      rw [if_pos hR, ← this, ← hl]
      exact (count_range (fun x => decide (x < s)) l).symm
    rw [hR] at hri
    have Hb := Lib.hid hb
    clear hR hl hr b1 b2 b1' hb1 hb2 hb d1 hs
    go_enter Try.func20, Try.ntmps20
    go_wp2_with fail
    refine hri.out.mono ?_
    rintro e w1 ⟨rfl, q, rfl⟩
    have d1 := D1.out
    go_wp2_with fail
    refine (hse.out q).mono ?_
    rintro e w2 ⟨⟨k, rfl, hk, h1, h2⟩, hb2⟩
    have Hk := hcn.out k hk h1 h2
    have hb3 := (below_drewN' Hb.out q).trans (hb2.mono Hb.out.size)
    clear h1 h2
    go_wp2_with fail
    go_ret
    rw [Hk]
    exact ⟨rfl, hb3⟩

set_option maxRecDepth 100000 in
theorem dbehind_any (l : List (List UInt8)) (s : List UInt8) (n c : Nat) (A : Option Addr) (w : World) (hl : l.length = n) (hr : Rd w A (wcl l)) (hn : n ≤ 1000000) :
    Calls Try.prog 22 #[.slice A n c, .string (St8 s)] w fun e w' => e = .returned (.int .i64 ((behindM l s : Nat) : Int)) ∧ Below w.heap.size w w' := by
  have eg : ∀ args w, (callFunc 39 args).run Try.prog w = .ok (.enter 39 args) w := Go.Proofs.enters_of Try.func39 (by kernel_rfl) rfl
  have b1 := Blk.new w 22 #[.slice A n c]
  have hb1 : Below w.heap.size w (w.alloc (.cells #[.slice A n c] 22)) := (Below.refl _ _).alloc (Nat.le_refl _) _
  have b2 := Blk.new (w.alloc (.cells #[.slice A n c] 22)) 9 #[.string (St8 s)]
  have hsz : (w.alloc (.cells #[.slice A n c] 22)).heap.size = w.heap.size + 1 := Array.size_push _
  rw [hsz] at b2
  have hb2 : Below (w.alloc (.cells #[.slice A n c] 22)).heap.size (w.alloc (.cells #[.slice A n c] 22)) ((w.alloc (.cells #[.slice A n c] 22)).alloc (.cells #[.string (St8 s)] 9)) := (Below.refl _ _).alloc (Nat.le_refl _) _
  have b1' := b1.below hb2
  have hb := hb1.trans (hb2.mono hb1.size)
  have hri := Lib.hid (dright_any l n c A _ hl (hr.below hb) hn)
  have d1 := b1'.cell 0
  simp only [List.getElem?_cons_zero] at d1
  have D1 := Lib.hid d1
  cases hR : rightW l
  · have hf : Hid (behindM l s = 0) := by show _ = _; unfold behindM; rw [hR]; rfl
    rw [hR] at hri
    have Hb := Lib.hid hb
    clear hR hl hr b1 b2 b1' hb1 hb2 hb d1
    go_enter Try.func22, Try.ntmps22
    go_wp2_with fail
    refine hri.out.mono ?_
    rintro e w1 ⟨rfl, q, rfl⟩
    go_wp2_with fail
    go_ret
    rw [hf.out]
    exact ⟨rfl, below_drewN' Hb.out q⟩
  · have hs := rightW_strict hR
    have hse := Lib.hid (fun q =>
      search_any 39 #[.pointer (some ⟨w.heap.size, 0, none⟩), .pointer (some ⟨w.heap.size + 1, 0, none⟩)] n (fun i => !(decide (l.getD i [] < s) || begW (l.getD i []) s)) (((w.alloc (.cells #[.slice A n c] 22)).alloc (.cells #[.string (St8 s)] 9)).drewN q) eg hn
        (fun i w' hi hw' => behindc_any l s n c _ _ i A w' hl (((hr.below hb).drewN q).below hw') ((b1'.drewN q).below hw') ((b2.drewN q).below hw') hi)
        (fun a b hab hbn h => by
          have h' : (decide (l.getD a [] < s) || begW (l.getD a []) s) = false := by
            cases hh : (decide (l.getD a [] < s) || begW (l.getD a []) s) with
            | false => rfl
            | true => rw [hh] at h; exact absurd h (by decide)
          have := behind_mono hs s a b hab (by rw [hl]; exact hbn) h'
          rw [this]
          rfl))
    have hcn : Hid (∀ k, k ≤ n → (∀ t, t < k → (!(decide (l.getD t [] < s) || begW (l.getD t []) s)) = false) → (∀ t, k ≤ t → t < n → (!(decide (l.getD t [] < s) || begW (l.getD t []) s)) = true) → behindM l s = k) := fun k hk h1 h2 => by
      have := search_count (n := n) (k := k) (q := fun i => (decide (l.getD i [] < s) || begW (l.getD i []) s)) hk (fun t ht => bnot_f (h1 t ht)) (fun t ht htn => bnot_t (h2 t ht htn))
      unfold behindM
      rw [if_pos hR, ← this, ← hl]
      exact (count_range (fun x => (decide (x < s) || begW x s)) l).symm
    rw [hR] at hri
    have Hb := Lib.hid hb
    clear hR hl hr b1 b2 b1' hb1 hb2 hb d1 hs
    go_enter Try.func22, Try.ntmps22
    go_wp2_with fail
    refine hri.out.mono ?_
    rintro e w1 ⟨rfl, q, rfl⟩
    have d1 := D1.out
    go_wp2_with fail
    refine (hse.out q).mono ?_
    rintro e w2 ⟨⟨k, rfl, hk, h1, h2⟩, hb2⟩
    have Hk := hcn.out k hk h1 h2
    have hb3 := (below_drewN' Hb.out q).trans (hb2.mono Hb.out.size)
    clear h1 h2
    go_wp2_with fail
    go_ret
    rw [Hk]
    exact ⟨rfl, hb3⟩
end Go.Proofs.Ytphoccjeakdkeaa
