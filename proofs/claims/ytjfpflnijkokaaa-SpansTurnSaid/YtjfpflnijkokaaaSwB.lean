/- Walks: whether spans may be: the program's and the reference's; how many places spans have. -/
import Derived.Test.YtjfpflnijkokaaaSwA
import Derived.Deep.QuietTactic
import Derived.BigQuiet
namespace Go.Proofs.Ytjfpflnijkokaaa
open Go.RowKit

attribute [local go_sem ↓] Go.wp_at_zero Go.wp_at_succ

def SpanOk (s : SpanM) : Prop := (-9223372036854775808 ≤ s.1 ∧ s.1 ≤ 9223372036854775807) ∧ (-9223372036854775808 ≤ s.2 ∧ s.2 ≤ 9223372036854775807)

set_option maxHeartbeats 8000000 in
set_option maxRecDepth 100000 in
theorem sright_any (l : List SpanM) (n c : Nat) (A : Option Addr) (w : World) (hl : l.length = n) (hr : Rd w A (spc l)) (hn : n ≤ 1000000) :
    Calls Try.prog 17 #[.slice A n c] w fun e w' => e = .returned (.bool (rightS l)) ∧ Below w.heap.size w w' := by
  have Hl := Lib.hid hl
  obtain ⟨R, hR⟩ : ∃ R, rightS l = R := ⟨_, rfl⟩
  rw [hR]
  have HR := Lib.hid hR
  clear hl hR
  go_enter Try.func17, Try.ntmps17
  go_wp2_with fail
  go_loopw [3, 8] (fun ve vi wr => ∃ (j : Nat) (E : Int), ve = .int .i64 E ∧ vi = .int .i64 (j : Int) ∧ j ≤ n ∧ Hid (R = rightF E (l.drop j)) ∧ Hid (Below w.heap.size w wr)) (fun _ vi _ => n - (intOf vi).toNat)
  case atStart => exact ⟨0, -1, rfl, rfl, by omega, by show _ = _; rw [← HR.out]; rfl, Below.refl _ _⟩
  case round =>
    obtain ⟨j, E, rfl, rfl, hj, Hf, Hb⟩ := hrel
    by_cases hjn : j < n
    · have hjl : j < l.length := by rw [Hl.out]; exact hjn
      have hjI : (j : Int) < (n : Int) := by omega
      have hj0 : (0 : Int) ≤ (j : Int) := by omega
      have Hf2 : Hid (R = if l[j].1 ≤ E ∨ l[j].1 < 0 ∨ l[j].2 ≤ l[j].1 ∨ 4096 < l[j].2 then false else rightF l[j].2 (l.drop (j + 1))) := by
        show _ = _
        rw [Hf.out, List.drop_eq_getElem_cons hjl]
        rfl
      obtain ⟨bk, o, rfl, c0, c1⟩ := (hr.below Hb.out).span hjl
      generalize l[j] = s at *
      obtain ⟨a, b⟩ := s
      dsimp only at c0 c1 Hf2
      have hb0 : Below wr.heap.size wr (wr.alloc (.cells #[.int .i64 a, .int .i64 b] 40)) := (Below.refl _ _).alloc (Nat.le_refl _) _
      have Hb1 := Lib.hid (Hb.out.trans (hb0.mono Hb.out.size))
      clear Hf hjl hb0 hr
      by_cases h1 : a ≤ E
      · have hf : Hid (R = false) := by show _ = _; rw [Hf2.out, if_pos (.inl h1)]
        clear Hf2
        go_wp2_with fail
        go_ret
        rw [hf.out]
        exact ⟨rfl, Hb1.out⟩
      · by_cases h2 : a < 0
        · have hf : Hid (R = false) := by show _ = _; rw [Hf2.out, if_pos (.inr (.inl h2))]
          clear Hf2
          go_wp2_with fail
          go_ret
          rw [hf.out]
          exact ⟨rfl, Hb1.out⟩
        · by_cases h3 : b ≤ a
          · have hf : Hid (R = false) := by show _ = _; rw [Hf2.out, if_pos (.inr (.inr (.inl h3)))]
            clear Hf2
            go_wp2_with fail
            go_ret
            rw [hf.out]
            exact ⟨rfl, Hb1.out⟩
          · by_cases h4 : 4096 < b
            · have hf : Hid (R = false) := by show _ = _; rw [Hf2.out, if_pos (.inr (.inr (.inr h4)))]
              clear Hf2
              go_wp2_with fail
              go_ret
              rw [hf.out]
              exact ⟨rfl, Hb1.out⟩
            · have Hn : Hid (R = rightF b (l.drop (j + 1))) := by show _ = _; rw [Hf2.out, if_neg (by omega)]
              clear Hf2
              go_wp2_with fail
              go_roundw
              case rel => exact ⟨j + 1, b, rfl, by go_num, by omega, Hn, Hb1⟩
              case measure => simp only [intOf, Int.toNat_natCast]; omega
    · obtain rfl : j = n := by omega
      have hf : Hid (R = true) := by
        show _ = _
        rw [Hf.out, List.drop_eq_nil_of_le (by rw [Hl.out]; exact Nat.le_refl _)]
        rfl
      go_wp2_with fail
      go_ret
      rw [hf.out]
      exact ⟨rfl, Hb.out⟩

/-- A round of the reference's Right. -/
theorem rightF_at (l : List SpanM) (j : Nat) (hj : j < l.length) (E : Int) (hE : E = if j = 0 then -1 else (l.getD (j - 1) (0, 0)).2) :
    rightF E (l.drop j) = if l[j].1 ≤ E ∨ l[j].1 < 0 ∨ l[j].2 ≤ l[j].1 ∨ 4096 < l[j].2 then false else rightF l[j].2 (l.drop (j + 1)) := by
  rw [List.drop_eq_getElem_cons hj]
  rfl

set_option maxHeartbeats 8000000 in
set_option maxRecDepth 100000 in
theorem srright_any (l : List SpanM) (n c : Nat) (A : Option Addr) (w : World) (hl : l.length = n) (hr : Rd w A (spc l)) (hn : n ≤ 1000000) :
    Calls Try.prog 15 #[.slice A n c] w fun e w' => e = .returned (.bool (rightS l)) ∧ ∃ q, w' = w.drewN q := by
  have Hl := Lib.hid hl
  obtain ⟨R, hR⟩ : ∃ R, rightS l = R := ⟨_, rfl⟩
  rw [hR]
  have HR := Lib.hid hR
  clear hl hR
  go_enter Try.func15, Try.ntmps15
  go_wp2_with fail
  go_loopw [3] (fun vi wr => ∃ (j q : Nat) (E : Int), vi = .int .i64 (j : Int) ∧ j ≤ n ∧ wr = w.drewN q ∧ Hid (R = rightF E (l.drop j)) ∧ Hid (j = 0 → E = -1) ∧ Hid (∀ t, j = t + 1 → ∀ (h : t < l.length), l[t].2 = E)) (fun vi _ => n - (intOf vi).toNat)
  case atStart => exact ⟨0, 0, -1, rfl, by omega, rfl, by show _ = _; rw [← HR.out]; rfl, fun _ => rfl, fun t h => by omega⟩
  case round =>
    obtain ⟨j, q, E, rfl, hj, hw, Hf, Hz, Hp⟩ := hrel
    have Hw := Lib.hid hw
    have hrr : Rd wr A (spc l) := by rw [hw]; exact hr.drewN q
    clear hw hr
    by_cases hjn : j < n
    · have hjl : j < l.length := by rw [Hl.out]; exact hjn
      have hjI : (j : Int) < (n : Int) := by omega
      have hj0 : (0 : Int) ≤ (j : Int) := by omega
      have Hf2 : Hid (R = if l[j].1 ≤ E ∨ l[j].1 < 0 ∨ l[j].2 ≤ l[j].1 ∨ 4096 < l[j].2 then false else rightF l[j].2 (l.drop (j + 1))) := by
        show _ = _
        rw [Hf.out, List.drop_eq_getElem_cons hjl]
        rfl
      have Hnx : Hid (∀ t, j + 1 = t + 1 → ∀ (h : t < l.length), l[t].2 = l[j].2) := fun t ht h => by
        obtain rfl : j = t := by omega
        rfl
      have Hprev : Hid (0 < j → ∃ (t : Nat) (a' : Int) (bk o : Nat), A = some ⟨bk, o, none⟩ ∧ (j : Int) - 1 = (t : Int) ∧ t < n ∧ wr.cell? ⟨bk, o + t * 2 + 1, none⟩ = some (.int .i64 E) ∧ wr.cell? ⟨bk, o + t * 2, none⟩ = some (.int .i64 a')) := fun h => by
        obtain ⟨t, ht⟩ : ∃ t, j = t + 1 := ⟨j - 1, by omega⟩
        have htl : t < l.length := by omega
        obtain ⟨bk, o, e, d0, d1⟩ := hrr.span htl
        rw [Hp.out t ht htl] at d1
        exact ⟨t, l[t].1, bk, o, e, by omega, by omega, d1, d0⟩
      obtain ⟨bk, o, hA, c0, c1⟩ := hrr.span hjl
      generalize l[j] = s at *
      obtain ⟨a, b⟩ := s
      dsimp only at c0 c1 Hf2 Hnx
      clear Hf hjl Hp
      by_cases h2 : a < 0
      · have hf : Hid (R = false) := by show _ = _; rw [Hf2.out, if_pos (.inr (.inl h2))]
        subst hA
        clear Hf2 hrr Hprev
        go_wp2_with fail
        go_quiet (fail)
        go_wp2_with fail
        go_ret
        rw [hf.out]
        exact ⟨rfl, q + nq, by rw [Hw.out, World.drewN_drewN]⟩
      · have g2 : decide (a < 0) = false := decide_eq_false h2
        by_cases h3 : b ≤ a
        · have hf : Hid (R = false) := by show _ = _; rw [Hf2.out, if_pos (.inr (.inr (.inl h3)))]
          subst hA
          clear Hf2 hrr Hprev h2
          go_wp2_with fail
          go_quiet (fail)
          go_wp2_with fail
          go_ret
          rw [hf.out]
          exact ⟨rfl, q + nq, by rw [Hw.out, World.drewN_drewN]⟩
        · have g3 : decide (b ≤ a) = false := decide_eq_false h3
          by_cases h4 : 4096 < b
          · have hf : Hid (R = false) := by show _ = _; rw [Hf2.out, if_pos (.inr (.inr (.inr h4)))]
            subst hA
            clear Hf2 hrr Hprev h2 h3
            go_wp2_with fail
            go_quiet (fail)
            go_wp2_with fail
            go_ret
            rw [hf.out]
            exact ⟨rfl, q + nq, by rw [Hw.out, World.drewN_drewN]⟩
          · have g4 : decide (4096 < b) = false := decide_eq_false h4
            by_cases hz : 0 < j
            · have gz : decide (0 < j) = true := decide_eq_true hz
              obtain ⟨t, a', bk', o', e', htI, htn, d1, d0⟩ := Hprev.out hz
              rw [hA] at e'
              cases e'
              subst hA
              have ht0 : (0 : Int) ≤ (t : Int) := by omega
              have htnI : (t : Int) < (n : Int) := by omega
              by_cases h1 : a ≤ E
              · have hf : Hid (R = false) := by show _ = _; rw [Hf2.out, if_pos (.inl h1)]
                clear Hf2 hrr Hprev h2 h3 h4 hz
                go_wp2_with fail
                go_quiet (fail)
                go_wp2_with fail
                go_ret
                rw [hf.out]
                exact ⟨rfl, q + nq, by rw [Hw.out, World.drewN_drewN]⟩
              · have g1 : decide (a ≤ E) = false := decide_eq_false h1
                have Hn : Hid (R = rightF b (l.drop (j + 1))) := by show _ = _; rw [Hf2.out, if_neg (by omega)]
                clear Hf2 hrr Hprev h1 h2 h3 h4 hz
                go_wp2_with fail
                go_quiet (fail)
                go_wp2_with fail
                go_roundw
                case rel => exact ⟨j + 1, q + nq, b, by go_num, by omega, by rw [Hw.out, World.drewN_drewN], Hn, fun h => by omega, Hnx⟩
                case measure => simp only [intOf, Int.toNat_natCast]; omega
            · have gz : decide (0 < j) = false := decide_eq_false hz
              have hE := Hz.out (by omega)
              have Hn : Hid (R = rightF b (l.drop (j + 1))) := by show _ = _; rw [Hf2.out, if_neg (by omega)]
              subst hA
              clear Hf2 hrr Hprev h2 h3 h4 hz hE
              go_wp2_with fail
              go_quiet (fail)
              go_wp2_with fail
              go_roundw
              case rel => exact ⟨j + 1, q + nq, b, by go_num, by omega, by rw [Hw.out, World.drewN_drewN], Hn, fun h => by omega, Hnx⟩
              case measure => simp only [intOf, Int.toNat_natCast]; omega
    · obtain rfl : j = n := by omega
      have hf : Hid (R = true) := by
        show _ = _
        rw [Hf.out, List.drop_eq_nil_of_le (by rw [Hl.out]; exact Nat.le_refl _)]
        rfl
      go_wp2_with fail
      go_ret
      rw [hf.out]
      exact ⟨rfl, q, Hw.out⟩

end Go.Proofs.Ytjfpflnijkokaaa
