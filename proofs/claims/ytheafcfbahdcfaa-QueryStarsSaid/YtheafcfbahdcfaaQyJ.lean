/- Walks: whether a number is in a list; the tables that a query joins: the program's. -/
import Derived.Test.YtheafcfbahdcfaaQyT
namespace Go.Proofs.Ytheafcfbahdcfaa
open Go.RowKit

attribute [local go_sem ↓] Go.wp_at_zero Go.wp_at_succ

set_option maxHeartbeats 4000000 in
set_option maxRecDepth 100000 in
theorem inti_any (l : List Int) (x : Int) (L : Option Addr) (n c : Nat) (w : World) (hl : l.length = n) (hL : Rd w L (icl l)) (hn : n ≤ 1000000) :
    Calls Try.prog 41 #[.slice L n c, .int .i64 x] w fun e w' => (∃ i : Int, e = .returned (.int .i64 i) ∧ (0 ≤ i ↔ x ∈ l)) ∧ w = w' := by
  have Hl := Lib.hid hl
  have HL := Lib.hid hL
  clear hl hL
  go_enter Try.func41, Try.ntmps41
  go_wp2_with fail
  go_loopw [8] (fun vi wr => ∃ j : Nat, vi = .int .i64 j ∧ j ≤ n ∧ Hid (x ∉ l.take j) ∧ Hid (wr = w)) (fun vi _ => n - (intOf vi).toNat)
  case atStart => exact ⟨0, rfl, by omega, by show x ∉ _; simp, rfl⟩
  case round =>
    obtain ⟨j, rfl, hj, Hno, Hw⟩ := hrel
    obtain rfl := Hw.out.symm
    by_cases hjn : j < n
    · have hjI : (j : Int) < (n : Int) := by omega
      have hjI0 : (0 : Int) ≤ (j : Int) := by omega
      have hjl : j < l.length := by rw [Hl.out]; exact hjn
      obtain ⟨b, o, hLe, c0⟩ := HL.out.num hjl
      have Hin := Lib.hid (List.getElem_mem hjl)
      have Hnext : Hid (x ≠ l[j] → x ∉ l.take (j + 1)) := by
        show _ → _
        intro h h2
        rw [List.take_succ_eq_append_getElem hjl, List.mem_append, List.mem_singleton] at h2
        exact h2.elim Hno.out h
      subst hLe
      generalize l[j] = y at *
      clear hjl
      by_cases e : x = y
      · subst e
        go_wp2_with fail
        go_ret
        exact ⟨⟨_, rfl, fun _ => Hin.out, fun _ => hjI0⟩, rfl⟩
      · have e1 : (x == y) = false := by rw [beq_eq_false_iff_ne]; exact e
        have HN := Lib.hid (Hnext.out e)
        clear e Hnext
        go_wp2_with fail
        go_roundw
        case rel => exact ⟨j + 1, by go_num, by omega, HN, trivial⟩
        case measure => simp [intOf]; omega
    · have HN : Hid (x ∉ l) := by
        show x ∉ l
        have := Hno.out
        rwa [List.take_of_length_le (by rw [Hl.out]; omega)] at this
      go_wp2_with fail
      go_ret
      exact ⟨⟨-1, rfl, fun h => absurd h (by decide), fun h => absurd h HN.out⟩, rfl⟩

set_option maxRecDepth 100000 in
theorem intc_any (l : List Int) (x : Int) (L : Option Addr) (n c : Nat) (w : World) (hl : l.length = n) (hL : Rd w L (icl l)) (hn : n ≤ 1000000) :
    Calls Try.prog 27 #[.slice L n c, .int .i64 x] w fun e w' => e = .returned (.bool (decide (x ∈ l))) ∧ w = w' := by
  have hi := Lib.hid (inti_any l x L n c w hl hL hn)
  obtain ⟨R, hR⟩ : ∃ R, R = decide (x ∈ l) := ⟨_, rfl⟩
  rw [← hR]
  have HR := Lib.hid hR
  clear hl hL hR
  go_enter Try.func27, Try.ntmps27
  go_wp2_with fail
  refine hi.out.mono ?_
  rintro e w1 ⟨⟨i, rfl, h1⟩, rfl⟩
  by_cases h0 : 0 ≤ i
  · have H2 := Lib.hid (h1.1 h0)
    clear h1
    go_wp2_with fail
    go_ret
    exact ⟨by rw [HR.out, decide_eq_true H2.out]; rfl, rfl⟩
  · have H2 := Lib.hid (fun h => h0 (h1.2 h))
    have Hd := Lib.hid (decide_eq_false h0)
    clear h1
    go_wp2_with fail
    go_ret
    exact ⟨by rw [HR.out, decide_eq_false H2.out]; exact congrArg (fun b => Ending.returned (.bool b)) Hd.out, rfl⟩
end Go.Proofs.Ytheafcfbahdcfaa
