/- Walks: few, one, Same, Ints, and the examples of the statements on words. -/
import Derived.Test.YtojppmnmhdgnnaaGreatMDwFG
import Derived.Test.YtojppmnmhdgnnaaGreatMDwHJ
import Derived.Test.YtojppmnmhdgnnaaGreatMStRd
import Derived.Test.YtojppmnmhdgnnaaGreatMArIn
import Derived.Test.YtojppmnmhdgnnaaGreatMJoA
namespace Go.Proofs.YtojppmnmhdgnnaaGreat
set_option linter.unusedVariables false
set_option linter.unusedSimpArgs false
open Go.RowKit

attribute [local go_sem ↓] Go.wp_at_zero Go.wp_at_succ

theorem strs_of {w : World} {X : Option Addr} {n c : Nat} (h : Reads Tryz.prog w 27 [.slice X n c]) : ∃ l : List (List UInt8), l.length = n ∧ Rd w X (wcl l) ∧ (∀ x ∈ l, x.length ≤ maxLen) ∧ n ≤ c ∧ c ≤ maxLen := by
  obtain ⟨l, h1, h2, h3, h4, h5⟩ := Reads.list (fun x => [.string (St8 x)]) (fun x => x.length ≤ maxLen) 1 (by omega) (fun _ => rfl) Tryz.underlying27 (by kernel_rfl) (fun cs hcs => Reads.str Tryz.underlying9 hcs) h
  refine ⟨l, h1, ?_, h3, h4, h5⟩
  have e : l.flatMap (fun x => [Value.string (St8 x)]) = wcl l := by
    unfold wcl
    rw [List.map_eq_flatMap]
  rw [e] at h2
  exact h2

theorem few_rd {l : List (List UInt8)} {A : Option Addr} {w : World} (hr : Rd w A (wcl l)) : Rd w A (wcl (fewM l)) := by
  rw [fewM_take l]
  intro hne
  obtain ⟨b, o, e, h⟩ := hr (by
    intro e
    have e2 : l = [] := List.map_eq_nil_iff.1 e
    rw [e2] at hne
    simp [wcl] at hne)
  have := Rd.part h 0 (fewM l).length
  rw [List.drop_zero, Nat.add_zero] at this
  refine ⟨b, o, e, ?_⟩
  unfold wcl at this ⊢
  rw [List.map_take]
  exact this

set_option maxRecDepth 100000 in
theorem same_eq (l : List (List UInt8)) (n : Nat) (A A' : Option Addr) (c c' : Nat) (w : World) (hl : l.length = n) (hA : Rd w A (wcl l)) (hA' : Rd w A' (wcl l)) (hn : n ≤ 1000000) :
    Calls Tryz.prog 10 #[.slice A n c, .slice A' n c'] w fun e w' => e = .returned (.bool true) ∧ Below w.heap.size w w' := by
  have Hl := Lib.hid hl
  clear hl
  have hne : ((n : Int) != (n : Int)) = false := by simp
  go_enter Tryz.func10, Tryz.ntmps10
  go_wp2_with fail
  go_loopw [5] (fun i wr => ∃ (j q : Nat), j ≤ n ∧ i = .int .i64 j ∧ wr = w.drewN q) (fun i _ => n - (intOf i).toNat)
  case atStart => exact ⟨0, 0, by omega, rfl, rfl⟩
  case round =>
    obtain ⟨j, q, hj, rfl, rfl⟩ := hrel
    by_cases hlt : j < n
    · have hjl : j < l.length := by rw [Hl.out]; exact hlt
      obtain ⟨b, o, rfl, ca⟩ := hA.word hjl
      obtain ⟨b', o', rfl, ca'⟩ := hA'.word hjl
      clear hA hA'
      generalize l[j] = x at *
      have hc : ((St8 x).toList == (St8 x).toList) = true := by simp
      have hjI : (0 : Int) ≤ (j : Int) := by omega
      have hjI' : (j : Int) < (n : Int) := by omega
      go_wp2_with fail
      go_quiet (fail)
      go_wp2_with fail
      go_roundw
      case rel => exact ⟨j + 1, _, by omega, by go_num, rfl⟩
      case measure => simp [intOf]; omega
    · obtain rfl : j = n := by omega
      go_wp2_with fail
      go_ret
      exact ⟨rfl, below_drewN' (Below.refl _ _) _⟩
theorem icl_len' (l : List Int) : (icl l).length = l.length := List.length_map _
theorem OfOK.some {l W : List (List UInt8)} {p : List Int} {w w' : World} {e : Ending} (h : OfOK l w e w') (hW : ofM l = some (W, p)) :
    (∃ A c A2 c2, e = .returned (.tuple #[.slice A W.length c, .slice A2 p.length c2, .int .i64 0]) ∧ Rd w' A (wcl W) ∧ Rd w' A2 (icl p)) ∧ Below w.heap.size w w' := by
  obtain ⟨h1, hb⟩ := h
  refine ⟨?_, hb⟩
  rcases h1 with ⟨h1, _⟩ | ⟨W', p', A, c, A2, c2, h1, h2, h3, h4⟩
  · rw [hW] at h1; cases h1
  · rw [hW] at h1
    cases h1
    exact ⟨A, c, A2, c2, h2, h3, h4⟩
theorem OfOK.none {l : List (List UInt8)} {w w' : World} {e : Ending} (h : OfOK l w e w') (hW : ofM l = none) :
    e = .returned (.tuple #[.slice none 0 0, .slice none 0 0, .int .i64 3]) ∧ Below w.heap.size w w' := by
  obtain ⟨h1, hb⟩ := h
  refine ⟨?_, hb⟩
  rcases h1 with ⟨h1, h2⟩ | ⟨W', p', A, c, A2, c2, h1, h2, h3, h4⟩
  · exact h2
  · rw [hW] at h1; cases h1
theorem PutOK.some {l : List (List UInt8)} {b : List UInt8} {w w' : World} {e : Ending} (h : PutOK l w e w') (hb : putM l = some b) :
    (∃ A c, e = .returned (.tuple #[.slice A b.length c, .int .i64 0]) ∧ Rd w' A (Bs b)) ∧ Below w.heap.size w w' := by
  obtain ⟨h1, hb'⟩ := h
  refine ⟨?_, hb'⟩
  rcases h1 with ⟨h1, _⟩ | ⟨b', A, c, h1, h2, h3⟩
  · rw [hb] at h1; cases h1
  · rw [hb] at h1
    cases h1
    exact ⟨A, c, h2, h3.rd⟩
theorem PutOK.none {l : List (List UInt8)} {w w' : World} {e : Ending} (h : PutOK l w e w') (hb : putM l = none) :
    e = .returned (.tuple #[.slice none 0 0, .int .i64 1]) ∧ Below w.heap.size w w' := by
  obtain ⟨h1, hb'⟩ := h
  refine ⟨?_, hb'⟩
  rcases h1 with ⟨h1, h2⟩ | ⟨b', A, c, h1, h2, h3⟩
  · exact h2
  · rw [hb] at h1; cases h1

theorem ex_of : ofM [[98], [97], [98]] = some ([[97], [98]], [1, 0, 1]) := by rw [← rOf_ofM]; decide +kernel
theorem ex_put : putM [[97, 98], [97, 98, 99]] = some [2, 0, 2, 97, 98, 2, 1, 99] := by decide +kernel
theorem ex_from : fromM [[97], [98], [99]] [98, 98] = 2 := by decide +kernel
theorem ex_behind : behindM [[97], [97, 98], [98]] [97] = 2 := by decide +kernel

end Go.Proofs.YtojppmnmhdgnnaaGreat
