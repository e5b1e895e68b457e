/- Walks: where a text stands among words: the reference's. -/
import Derived.Test.YtphoccjeakdkeaaDwC
namespace Go.Proofs.Ytphoccjeakdkeaa
open Go.RowKit

attribute [local go_sem ↓] Go.wp_at_zero Go.wp_at_succ

theorem idx_at : ∀ (l : List (List UInt8)) (s : List UInt8) (j : Nat), l[j]? = some s → (∀ t, t < j → ¬ l[t]? = some s) → l.idxOf s = j
  | [], s, j, h, _ => by simp at h
  | x :: l, s, 0, h, _ => by
    obtain rfl : x = s := by simpa using h
    rw [List.idxOf_cons]
    simp
  | x :: l, s, j + 1, h, hn => by
    have h0 : (x == s) = false := by
      have := hn 0 (by omega)
      rw [beq_eq_false_iff_ne]
      intro e
      exact this (by rw [e]; rfl)
    rw [List.idxOf_cons, h0, idx_at l s j (by simpa using h) (fun t ht e => hn (t + 1) (by omega) (by simpa using e))]
    rfl
theorem placeM_kinds (l : List (List UInt8)) (s : List UInt8) : placeM l s = -1 ∨ ∃ k : Nat, placeM l s = (k : Int) ∧ k < l.length := by
  unfold placeM
  by_cases h : s ∈ l
  · rw [if_pos h]
    exact .inr ⟨_, rfl, List.idxOf_lt_length_of_mem h⟩
  · rw [if_neg h]
    exact .inl rfl

set_option maxHeartbeats 4000000 in
set_option maxRecDepth 100000 in
theorem place_any (l : List (List UInt8)) (s : List UInt8) (n c : Nat) (A : Option Addr) (w : World) (hl : l.length = n) (hr : Rd w A (wcl l)) (hn : n ≤ 1000000) :
    Calls Try.prog 36 #[.slice A n c, .string (St8 s)] w fun e w' => e = .returned (.int .i64 (placeM l s)) ∧ w = w' := by
  have Hl := Lib.hid hl
  obtain ⟨R, hR⟩ : ∃ R, placeM l s = R := ⟨_, rfl⟩
  rw [hR]
  have HR := Lib.hid hR
  clear hR hl
  go_enter Try.func36, Try.ntmps36
  go_wp2_with fail
  go_loop [5] (fun vi => ∃ (j : Nat), vi = .int .i64 (j : Int) ∧ j ≤ n ∧ Hid (∀ t, t < j → ¬ l[t]? = some s)) (fun vi => n - (intOf vi).toNat)
  case atStart => exact ⟨0, rfl, by omega, fun t h => absurd h (Nat.not_lt_zero _)⟩
  case round =>
    obtain ⟨j, rfl, hj, Hn⟩ := hrel
    by_cases hjn : j < n
    · have hjl : j < l.length := by rw [Hl.out]; exact hjn
      have hjI : (j : Int) < (n : Int) := by omega
      have hj0 : (0 : Int) ≤ (j : Int) := by omega
      obtain ⟨b, o, rfl, c0⟩ := hr.word hjl
      have Hg := Lib.hid (List.getElem?_eq_getElem hjl)
      have hc := St8_cmp l[j] s
      generalize l[j] = x at *
      clear hr hjl
      by_cases hx : x = s
      · have hf : Hid (R = (j : Int)) := by
          show _ = _
          rw [← HR.out]
          unfold placeM
          have hg : l[j]? = some s := by rw [Hg.out, hx]
          rw [if_pos (List.mem_of_getElem? hg), idx_at l s j hg Hn.out]
        rw [decide_eq_true hx] at hc
        clear hx
        go_wp2_with fail
        go_ret
        rw [hf.out]
        exact ⟨rfl, rfl⟩
      · have Hn2 : Hid (∀ t, t < j + 1 → ¬ l[t]? = some s) := fun t ht e => by
          by_cases h : t = j
          · subst h
            rw [Hg.out] at e
            exact hx (Option.some.inj e)
          · exact Hn.out t (by omega) e
        rw [decide_eq_false hx] at hc
        clear hx
        go_wp2_with fail
        go_round
        case rel => exact ⟨j + 1, by go_num, by omega, Hn2⟩
        case measure => simp only [intOf, Int.toNat_natCast]; omega
    · obtain rfl : j = n := by omega
      have hf : Hid (R = -1) := by
        show _ = _
        rw [← HR.out]
        unfold placeM
        rw [if_neg]
        intro h
        obtain ⟨t, ht, e⟩ := List.getElem_of_mem h
        exact Hn.out t (by rw [← Hl.out]; exact ht) (by rw [List.getElem?_eq_getElem ht, e])
      go_wp2_with fail
      go_ret
      rw [hf.out]
      exact ⟨rfl, rfl⟩

theorem drfind_any (l : List (List UInt8)) (s : List UInt8) (n c : Nat) (A : Option Addr) (w : World) (hl : l.length = n) (hr : Rd w A (wcl l)) (hn : n ≤ 1000000) :
    Calls Try.prog 17 #[.slice A n c, .string (St8 s)] w fun e w' => e = .returned (.tuple #[.int .i64 (((findM l s).getD 0 : Nat) : Int), .bool (findM l s).isSome]) ∧ ∃ q, w' = w.drewN q := by
  have hpl := Lib.hid (place_any l s n c A w hl hr hn)
  have hri := Lib.hid (drright_any l n c A w hl hr hn)
  have hfp := Lib.hid (find_place l s)
  have hk := placeM_kinds l s
  generalize findM l s = F at *
  generalize placeM l s = P at *
  clear hl hr
  rcases hk with rfl | ⟨k, rfl, hkl⟩
  · have hf : Hid (F = none) := by show _ = _; rw [hfp.out, if_pos (.inl (by decide))]
    clear hfp
    go_enter Try.func17, Try.ntmps17
    go_wp2_with fail
    refine hpl.out.mono ?_
    rintro e w1 ⟨rfl, rfl⟩
    go_wp2_with fail
    go_ret2
    rw [hf.out]
    exact ⟨rfl, 0, rfl⟩
  · cases hR : rightW l
    · have hf : Hid (F = none) := by show _ = _; rw [hfp.out, if_pos (.inr hR)]
      rw [hR] at hri
      clear hfp hR
      go_enter Try.func17, Try.ntmps17
      go_wp2_with fail
      refine hpl.out.mono ?_
      rintro e w1 ⟨rfl, rfl⟩
      go_wp2_with fail
      refine hri.out.mono ?_
      rintro e w1 ⟨rfl, q, rfl⟩
      go_wp2_with fail
      go_ret2
      rw [hf.out]
      exact ⟨rfl, q, rfl⟩
    · have hf : Hid (F = some k) := by
        show _ = _
        rw [hfp.out, if_neg (by rw [hR]; exact fun h => h.elim (fun h => absurd h (by omega)) (fun h => by cases h))]
        rfl
      rw [hR] at hri
      clear hfp hR
      go_enter Try.func17, Try.ntmps17
      go_wp2_with fail
      refine hpl.out.mono ?_
      rintro e w1 ⟨rfl, rfl⟩
      go_wp2_with fail
      refine hri.out.mono ?_
      rintro e w1 ⟨rfl, q, rfl⟩
      go_wp2_with fail
      go_ret2
      rw [hf.out]
      exact ⟨rfl, q, rfl⟩

theorem begins_any (x s : List UInt8) (w : World) : Calls Try.prog 41 #[.string (St8 x), .string (St8 s)] w fun e w' => e = .returned (.bool (begW x s)) ∧ w = w' := by
  have hx := St8_size x
  have hs := St8_size s
  have hbw : Hid (begW x s = decide (x.take s.length = s)) := rfl
  by_cases h : s.length ≤ x.length
  · have htk := St8_take x s.length
    have hc := St8_cmp (x.take s.length) s
    have hbc : Hid (begW x s = decide (x.take s.length = s)) := hbw
    generalize begW x s = G at *
    rw [← hbw.out] at hc
    generalize x.take s.length = y at *
    generalize s.length = S at *
    generalize x.length = X at *
    clear hbw hbc
    go_enter Try.func41, Try.ntmps41
    go_wp2_with fail
    go_ret
    exact ⟨rfl, rfl⟩
  · have hf : Hid (begW x s = false) := by
      show _ = _
      rw [hbw.out, decide_eq_false]
      intro e
      have := congrArg List.length e
      rw [List.length_take] at this
      omega
    generalize begW x s = G at *
    generalize s.length = S at *
    generalize x.length = X at *
    have hd : decide (S ≤ X) = false := decide_eq_false h
    have hd2 : decide ((S : Int) ≤ (X : Int)) = false := decide_eq_false (by omega)
    clear hbw
    go_enter Try.func41, Try.ntmps41
    go_wp2_with fail
    go_ret
    rw [hf.out]
    exact ⟨rfl, rfl⟩

set_option maxHeartbeats 4000000 in
set_option maxRecDepth 100000 in
theorem drfrom_any (l : List (List UInt8)) (s : List UInt8) (n c : Nat) (A : Option Addr) (w : World) (hl : l.length = n) (hr : Rd w A (wcl l)) (hn : n ≤ 1000000) :
    Calls Try.prog 21 #[.slice A n c, .string (St8 s)] w fun e w' => e = .returned (.int .i64 ((fromM l s : Nat) : Int)) ∧ ∃ q, w' = w.drewN q := by
  have Hl := Lib.hid hl
  obtain ⟨R, hR⟩ : ∃ R, fromM l s = R := ⟨_, rfl⟩
  rw [hR]
  have HR := Lib.hid hR
  have hri := Lib.hid (fun q => drright_any l n c A (w.drewN q) hl (hr.drewN q) hn)
  clear hR
  cases hW : rightW l
  · have hn0 : 0 < n := by
      cases l with
      | nil => exact absurd hW (by decide)
      | cons a b => rw [← hl]; simp
    have hf : Hid (R = 0) := by show _ = _; rw [← HR.out]; unfold fromM; rw [hW]; rfl
    rw [hW] at hri
    clear hW hl hr
    go_enter Try.func21, Try.ntmps21
    go_wp2_with fail
    go_loopw [5, 6] (fun vm vi wr => vm = .int .i64 0 ∧ vi = .int .i64 0 ∧ wr = w.drewN 0) (fun _ _ _ => 0)
    case atStart => exact ⟨rfl, rfl, rfl⟩
    case round =>
      obtain ⟨rfl, rfl, rfl⟩ := hrel
      go_wp2_with fail
      refine (hri.out 0).mono ?_
      rintro e w3 ⟨rfl, q2, rfl⟩
      go_wp2_with fail
      go_ret
      rw [hf.out]
      exact ⟨rfl, q2, rfl⟩
  · have hf : Hid (l.countP (fun x => decide (x < s)) = R) := by show _ = _; rw [← HR.out]; unfold fromM; rw [hW]; rfl
    rw [hW] at hri
    clear hW hl
    go_enter Try.func21, Try.ntmps21
    go_wp2_with fail
    go_loopw [5, 6] (fun vm vi wr => ∃ (j m q : Nat), vm = .int .i64 (m : Int) ∧ vi = .int .i64 (j : Int) ∧ j ≤ n ∧ m ≤ j ∧ wr = w.drewN q ∧ Hid ((l.take j).countP (fun x => decide (x < s)) = m)) (fun _ vi _ => n - (intOf vi).toNat)
    case atStart => exact ⟨0, 0, 0, rfl, rfl, by omega, by omega, rfl, rfl⟩
    case round =>
      obtain ⟨j, m, q, rfl, rfl, hj, hmj, hw, Hc⟩ := hrel
      have Hw := Lib.hid hw
      have hrr : Rd wr A (wcl l) := by rw [hw]; exact hr.drewN q
      have hriq := hri.out q
      rw [← hw] at hriq
      have Hri := Lib.hid hriq
      clear hw hr hriq
      by_cases hjn : j < n
      · have hjl : j < l.length := by rw [Hl.out]; exact hjn
        have hjI : (j : Int) < (n : Int) := by omega
        have hj0 : (0 : Int) ≤ (j : Int) := by omega
        obtain ⟨b, o, rfl, c0⟩ := hrr.word hjl
        have hls := less_St8 l[j] s
        have Hyes : Hid (decide (l[j] < s) = true → (l.take (j + 1)).countP (fun x => decide (x < s)) = m + 1) := fun h => by
          rw [List.take_succ_eq_append_getElem hjl, List.countP_append, Hc.out, List.countP_singleton]
          rw [if_pos h]
        have Hno : Hid (decide (l[j] < s) = false → (l.take (j + 1)).countP (fun x => decide (x < s)) = m) := fun h => by
          rw [List.take_succ_eq_append_getElem hjl, List.countP_append, Hc.out, List.countP_singleton]
          rw [if_neg (by rw [h]; decide)]
          rfl
        generalize l[j] = x at *
        go_wp2_with fail
        refine Hri.out.mono ?_
        rintro e w3 ⟨rfl, q2, rfl⟩
        replace c0 : (wr.drewN q2).cell? ⟨b, o + j, none⟩ = some (.string (St8 x)) := c0
        by_cases hxs : x < s
        · have Hy := Lib.hid (Hyes.out (decide_eq_true hxs))
          rw [decide_eq_true hxs] at hls
          clear hrr Hyes Hno hjl hxs Hc
          go_wp2_with fail
          go_roundw
          case rel => exact ⟨j + 1, m + 1, q + q2, by go_num, by go_num, by omega, by omega, by rw [Hw.out, World.drewN_drewN], Hy⟩
          case measure => simp only [intOf, Int.toNat_natCast]; omega
        · have Hn := Lib.hid (Hno.out (decide_eq_false hxs))
          rw [decide_eq_false hxs] at hls
          clear hrr Hyes Hno hjl hxs Hc
          go_wp2_with fail
          go_roundw
          case rel => exact ⟨j + 1, m, q + q2, by go_num, by go_num, by omega, by omega, by rw [Hw.out, World.drewN_drewN], Hn⟩
          case measure => simp only [intOf, Int.toNat_natCast]; omega
      · obtain rfl : j = n := by omega
        have hfm : Hid (R = m) := by
          show _ = _
          rw [← hf.out, ← Hc.out, List.take_of_length_le (by rw [Hl.out]; exact Nat.le_refl _)]
        go_wp2_with fail
        go_ret
        rw [hfm.out]
        exact ⟨rfl, q, Hw.out⟩

set_option maxHeartbeats 4000000 in
set_option maxRecDepth 100000 in
theorem drbehind_any (l : List (List UInt8)) (s : List UInt8) (n c : Nat) (A : Option Addr) (w : World) (hl : l.length = n) (hr : Rd w A (wcl l)) (hn : n ≤ 1000000) :
    Calls Try.prog 23 #[.slice A n c, .string (St8 s)] w fun e w' => e = .returned (.int .i64 ((behindM l s : Nat) : Int)) ∧ ∃ q, w' = w.drewN q := by
  have Hl := Lib.hid hl
  obtain ⟨R, hR⟩ : ∃ R, behindM l s = R := ⟨_, rfl⟩
  rw [hR]
  have HR := Lib.hid hR
  have hri := Lib.hid (fun q => drright_any l n c A (w.drewN q) hl (hr.drewN q) hn)
  clear hR
  cases hW : rightW l
  · have hn0 : 0 < n := by
      cases l with
      | nil => exact absurd hW (by decide)
      | cons a b => rw [← hl]; simp
    have hf : Hid (R = 0) := by show _ = _; rw [← HR.out]; unfold behindM; rw [hW]; rfl
    rw [hW] at hri
    clear hW hl hr
    go_enter Try.func23, Try.ntmps23
    go_wp2_with fail
    go_loopw [5, 6] (fun vm vi wr => vm = .int .i64 0 ∧ vi = .int .i64 0 ∧ wr = w.drewN 0) (fun _ _ _ => 0)
    case atStart => exact ⟨rfl, rfl, rfl⟩
    case round =>
      obtain ⟨rfl, rfl, rfl⟩ := hrel
      go_wp2_with fail
      refine (hri.out 0).mono ?_
      rintro e w3 ⟨rfl, q2, rfl⟩
      go_wp2_with fail
      go_ret
      rw [hf.out]
      exact ⟨rfl, q2, rfl⟩
  · have hf : Hid (l.countP (fun x => (decide (x < s) || begW x s)) = R) := by show _ = _; rw [← HR.out]; unfold behindM; rw [hW]; rfl
    rw [hW] at hri
    clear hW hl
    go_enter Try.func23, Try.ntmps23
    go_wp2_with fail
    go_loopw [5, 6] (fun vm vi wr => ∃ (j m q : Nat), vm = .int .i64 (m : Int) ∧ vi = .int .i64 (j : Int) ∧ j ≤ n ∧ m ≤ j ∧ wr = w.drewN q ∧ Hid ((l.take j).countP (fun x => (decide (x < s) || begW x s)) = m)) (fun _ vi _ => n - (intOf vi).toNat)
    case atStart => exact ⟨0, 0, 0, rfl, rfl, by omega, by omega, rfl, rfl⟩
    case round =>
      obtain ⟨j, m, q, rfl, rfl, hj, hmj, hw, Hc⟩ := hrel
      have Hw := Lib.hid hw
      have hrr : Rd wr A (wcl l) := by rw [hw]; exact hr.drewN q
      have hriq := hri.out q
      rw [← hw] at hriq
      have Hri := Lib.hid hriq
      clear hw hr hriq
      by_cases hjn : j < n
      · have hjl : j < l.length := by rw [Hl.out]; exact hjn
        have hjI : (j : Int) < (n : Int) := by omega
        have hj0 : (0 : Int) ≤ (j : Int) := by omega
        obtain ⟨b, o, rfl, c0⟩ := hrr.word hjl
        have hls := less_St8 l[j] s
        have Hyes : Hid ((decide (l[j] < s) || begW l[j] s) = true → (l.take (j + 1)).countP (fun x => (decide (x < s) || begW x s)) = m + 1) := fun h => by
          rw [List.take_succ_eq_append_getElem hjl, List.countP_append, Hc.out, List.countP_singleton]
          rw [if_pos h]
        have Hno : Hid ((decide (l[j] < s) || begW l[j] s) = false → (l.take (j + 1)).countP (fun x => (decide (x < s) || begW x s)) = m) := fun h => by
          rw [List.take_succ_eq_append_getElem hjl, List.countP_append, Hc.out, List.countP_singleton]
          rw [if_neg (by rw [h]; decide)]
          rfl
        generalize l[j] = x at *
        have hbg := Lib.hid (fun w' => begins_any x s w')
        go_wp2_with fail
        refine Hri.out.mono ?_
        rintro e w3 ⟨rfl, q2, rfl⟩
        replace c0 : (wr.drewN q2).cell? ⟨b, o + j, none⟩ = some (.string (St8 x)) := c0
        by_cases hxs : x < s
        · have Hy := Lib.hid (Hyes.out (by rw [decide_eq_true hxs]; rfl))
          rw [decide_eq_true hxs] at hls
          clear hrr Hyes Hno hjl hxs Hc
          go_wp2_with fail
          go_roundw
          case rel => exact ⟨j + 1, m + 1, q + q2, by go_num, by go_num, by omega, by omega, by rw [Hw.out, World.drewN_drewN], Hy⟩
          case measure => simp only [intOf, Int.toNat_natCast]; omega
        · rw [decide_eq_false hxs] at hls
          cases hG : begW x s
          · have Hn := Lib.hid (Hno.out (by rw [decide_eq_false hxs, hG]; rfl))
            rw [hG] at hbg
            clear hrr Hyes Hno hjl hxs Hc hG
            go_wp2_with fail
            refine (hbg.out _).mono ?_
            rintro e w3 ⟨rfl, rfl⟩
            go_wp2_with fail
            go_roundw
            case rel => exact ⟨j + 1, m, q + q2, by go_num, by go_num, by omega, by omega, by rw [Hw.out, World.drewN_drewN], Hn⟩
            case measure => simp only [intOf, Int.toNat_natCast]; omega
          · have Hy := Lib.hid (Hyes.out (by rw [hG]; simp))
            rw [hG] at hbg
            clear hrr Hyes Hno hjl hxs Hc hG
            go_wp2_with fail
            refine (hbg.out _).mono ?_
            rintro e w3 ⟨rfl, rfl⟩
            go_wp2_with fail
            go_roundw
            case rel => exact ⟨j + 1, m + 1, q + q2, by go_num, by go_num, by omega, by omega, by rw [Hw.out, World.drewN_drewN], Hy⟩
            case measure => simp only [intOf, Int.toNat_natCast]; omega
      · obtain rfl : j = n := by omega
        have hfm : Hid (R = m) := by
          show _ = _
          rw [← hf.out, ← Hc.out, List.take_of_length_le (by rw [Hl.out]; exact Nat.le_refl _)]
        go_wp2_with fail
        go_ret
        rw [hfm.out]
        exact ⟨rfl, q, Hw.out⟩
end Go.Proofs.Ytphoccjeakdkeaa
