/- Walks: where a text stands among words: the reference's. -/
import Derived.Test.YtmlnjfdanlnccaaMDwC
namespace Go.Proofs.Ytmlnjfdanlnccaa
open Go.RowKit

attribute [local go_sem ↓] Go.wp_at_zero Go.wp_at_succ

theorem idx_at : ∀ (l : List (List UInt8)) (s : List UInt8) (j : Nat), l[j]? = some s → (∀ t, t < j → ¬ l[t]? = some s) → l.idxOf s = j
  | [], s, j, h, _ => by simp at h
  | x :: l, s, 0, h, _ => by
    obtain rfl : x = s := by simpa using h
    rw [List.idxOf_cons]
    simp
  | x :: l, s, j + 1, h, hn => by
    have h0 : (x == s) = false := by
      have := hn 0 (by omega)
      rw [beq_eq_false_iff_ne]
      intro e
      exact this (by rw [e]; rfl)
    rw [List.idxOf_cons, h0, idx_at l s j (by simpa using h) (fun t ht e => hn (t + 1) (by omega) (by simpa using e))]
    rfl
theorem placeM_kinds (l : List (List UInt8)) (s : List UInt8) : placeM l s = -1 ∨ ∃ k : Nat, placeM l s = (k : Int) ∧ k < l.length := by
  unfold placeM
  by_cases h : s ∈ l
  · rw [if_pos h]
    exact .inr ⟨_, rfl, List.idxOf_lt_length_of_mem h⟩
  · rw [if_neg h]
    exact .inl rfl

set_option maxHeartbeats 4000000 in
set_option maxRecDepth 100000 in
theorem place_any (l : List (List UInt8)) (s : List UInt8) (n c : Nat) (A : Option Addr) (w : World) (hl : l.length = n) (hr : Rd w A (wcl l)) (hn : n ≤ 1000000) :
    Calls Try.prog 94 #[.slice A n c, .string (St8 s)] w fun e w' => e = .returned (.int .i64 (placeM l s)) ∧ w = w' := by
  have Hl := Lib.hid hl
  obtain ⟨R, hR⟩ : ∃ R, placeM l s = R := ⟨_, rfl⟩
  rw [hR]
  have HR := Lib.hid hR
  clear hR hl
  go_enter Try.func94, Try.ntmps94
  go_wp2_with fail
  go_loop [5] (fun vi => ∃ (j : Nat), vi = .int .i64 (j : Int) ∧ j ≤ n ∧ Hid (∀ t, t < j → ¬ l[t]? = some s)) (fun vi => n - (intOf vi).toNat)
  case atStart => exact ⟨0, rfl, by omega, fun t h => absurd h (Nat.not_lt_zero _)⟩
  case round =>
    obtain ⟨j, rfl, hj, Hn⟩ := hrel
    by_cases hjn : j < n
    · have hjl : j < l.length := by rw [Hl.out]; exact hjn
      have hjI : (j : Int) < (n : Int) := by omega
      have hj0 : (0 : Int) ≤ (j : Int) := by omega
      obtain ⟨b, o, rfl, c0⟩ := hr.word hjl
      have Hg := Lib.hid (List.getElem?_eq_getElem hjl)
      have hc := St8_cmp l[j] s
      generalize l[j] = x at *
      clear hr hjl
      by_cases hx : x = s
      · have hf : Hid (R = (j : Int)) := by
          show _ = _
          rw [← HR.out]
          unfold placeM
          have hg : l[j]? = some s := by rw [Hg.out, hx]
          rw [if_pos (List.mem_of_getElem? hg), idx_at l s j hg Hn.out]
        rw [decide_eq_true hx] at hc
        clear hx
        go_wp2_with fail
        go_ret
        rw [hf.out]
        exact ⟨rfl, rfl⟩
      · have Hn2 : Hid (∀ t, t < j + 1 → ¬ l[t]? = some s) := fun t ht e => by
          by_cases h : t = j
          · subst h
            rw [Hg.out] at e
            exact hx (Option.some.inj e)
          · exact Hn.out t (by omega) e
        rw [decide_eq_false hx] at hc
        clear hx
        go_wp2_with fail
        go_round
        case rel => exact ⟨j + 1, by go_num, by omega, Hn2⟩
        case measure => simp only [intOf, Int.toNat_natCast]; omega
    · obtain rfl : j = n := by omega
      have hf : Hid (R = -1) := by
        show _ = _
        rw [← HR.out]
        unfold placeM
        rw [if_neg]
        intro h
        obtain ⟨t, ht, e⟩ := List.getElem_of_mem h
        exact Hn.out t (by rw [← Hl.out]; exact ht) (by rw [List.getElem?_eq_getElem ht, e])
      go_wp2_with fail
      go_ret
      rw [hf.out]
      exact ⟨rfl, rfl⟩

end Go.Proofs.Ytmlnjfdanlnccaa
