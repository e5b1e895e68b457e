/- Walks: few, one, Same, Ints, and the examples of the statements on words. -/
import Derived.Test.YtphoccjeakdkeaaDwG
import Derived.Test.YtphoccjeakdkeaaDwI
import Derived.Test.YtphoccjeakdkeaaDwJ
import Derived.Test.YtphoccjeakdkeaaStr
import Derived.Test.YtphoccjeakdkeaaIn
import Derived.Test.YtphoccjeakdkeaaLst
import Derived.Test.YtphoccjeakdkeaaJoA
namespace Go.Proofs.Ytphoccjeakdkeaa
open Go.RowKit

attribute [local go_sem ↓] Go.wp_at_zero Go.wp_at_succ

theorem strs_of {w : World} {X : Option Addr} {n c : Nat} (h : Reads Try.prog w 22 [.slice X n c]) : ∃ l : List (List UInt8), l.length = n ∧ Rd w X (wcl l) ∧ (∀ x ∈ l, x.length ≤ maxLen) ∧ n ≤ c ∧ c ≤ maxLen := by
  obtain ⟨l, h1, h2, h3, h4, h5⟩ := Reads.list (fun x => [.string (St8 x)]) (fun x => x.length ≤ maxLen) 1 (by omega) (fun _ => rfl) Try.underlying22 (by kernel_rfl) (fun cs hcs => Reads.str Try.underlying9 hcs) h
  refine ⟨l, h1, ?_, h3, h4, h5⟩
  have e : l.flatMap (fun x => [Value.string (St8 x)]) = wcl l := by
    unfold wcl
    rw [List.map_eq_flatMap]
  rw [e] at h2
  exact h2

set_option maxHeartbeats 4000000 in
set_option maxRecDepth 100000 in
theorem few_any (l : List (List UInt8)) (n c : Nat) (A : Option Addr) (w : World) (hl : l.length = n) (hr : Rd w A (wcl l)) (hx : ∀ x ∈ l, x.length ≤ 9223372036854775807) (hnc : n ≤ c) (hc : c ≤ 9223372036854775807) :
    Calls Try.prog 10 #[.slice A n c] w fun e w' => e = .returned (.slice A (fewM l).length c) ∧ w = w' := by
  have Hl := Lib.hid hl
  obtain ⟨F, hF⟩ : ∃ F, (fewM l).length = F := ⟨_, rfl⟩
  rw [hF]
  have HF := Lib.hid hF
  have Hx := Lib.hid hx
  clear hl hF hx
  go_enter Try.func10, Try.ntmps10
  go_wp2_with fail
  go_loop [3, 7] (fun v3 v7 => ∃ (j L : Nat), v3 = .int .i64 (L : Int) ∧ v7 = .int .i64 (j : Int) ∧ j ≤ n ∧ L ≤ 30000 ∧ Hid (fewM l = l.take j ++ fewF j L (l.drop j))) (fun _ v7 => n - (intOf v7).toNat)
  case atStart => exact ⟨0, 30000, rfl, rfl, by omega, by omega, by show _ = _; rw [List.take_zero, List.drop_zero]; rfl⟩
  case round =>
    obtain ⟨j, L, rfl, rfl, hj, hL, Hf⟩ := hrel
    by_cases hjn : j < n
    · have hjl : j < l.length := by rw [Hl.out]; exact hjn
      have hjI : (j : Int) < (n : Int) := by omega
      have hj0 : (0 : Int) ≤ (j : Int) := by omega
      obtain ⟨b, o, rfl, c0⟩ := hr.word hjl
      have hjc : (j : Int) ≤ (c : Int) := by omega
      have hst := few_step (l := l) (j := j) L hjl
      have hsz := St8_size l[j]
      have hxm := Hx.out _ (List.getElem_mem hjl)
      have htk := Lib.hid (List.take_succ_eq_append_getElem hjl)
      generalize l[j] = x at *
      obtain ⟨X, hX⟩ : ∃ X, x.length = X := ⟨_, rfl⟩
      rw [hX] at hst hsz hxm
      have Hst := Lib.hid hst
      clear hst hX hr hjl
      have Hstop : Hid ((300 ≤ j ∨ 1100 < X ∨ L < X) → F = j) := fun h => by
        rw [← HF.out, Hf.out, Hst.out, if_pos h, List.append_nil, List.length_take, Hl.out]
        omega
      by_cases h3 : 300 ≤ j
      · have hf := Lib.hid (Hstop.out (.inl h3))
        have h3I : (300 : Int) ≤ (j : Int) := by omega
        clear Hstop
        go_wp2_with fail
        go_ret
        rw [hf.out]
        exact ⟨rfl, rfl⟩
      · have h3I : ¬ (300 : Int) ≤ (j : Int) := by omega
        by_cases h11 : 1100 < X
        · have hf := Lib.hid (Hstop.out (.inr (.inl h11)))
          have h11I : (1100 : Int) < (X : Int) := by omega
          clear Hstop
          go_wp2_with fail
          go_ret
          rw [hf.out]
          exact ⟨rfl, rfl⟩
        · have h11I : ¬ (1100 : Int) < (X : Int) := by omega
          by_cases hLX : L < X
          · have hf := Lib.hid (Hstop.out (.inr (.inr hLX)))
            have hLI : (L : Int) < (X : Int) := by omega
            clear Hstop
            go_wp2_with fail
            go_ret
            rw [hf.out]
            exact ⟨rfl, rfl⟩
          · have hLI : ¬ (L : Int) < (X : Int) := by omega
            have Hn : Hid (fewM l = l.take (j + 1) ++ fewF (j + 1) (L - X) (l.drop (j + 1))) := by
              show _ = _
              rw [Hf.out, Hst.out, if_neg (by omega), htk.out, List.append_assoc]
              rfl
            clear Hstop
            go_wp2_with fail
            go_round
            case rel => exact ⟨j + 1, L - X, by go_num, by go_num, by omega, by omega, Hn⟩
            case measure => simp only [intOf, Int.toNat_natCast]; omega
    · obtain rfl : j = n := by omega
      have hf : Hid (F = j) := by
        show _ = _
        rw [← HF.out, Hf.out, List.drop_eq_nil_of_le (by rw [Hl.out]; exact Nat.le_refl _), List.take_of_length_le (by rw [Hl.out]; exact Nat.le_refl _), List.length_append, Hl.out]
        rfl
      go_wp2_with fail
      go_ret
      rw [hf.out]
      exact ⟨rfl, rfl⟩
theorem few_rd {l : List (List UInt8)} {A : Option Addr} {w : World} (hr : Rd w A (wcl l)) : Rd w A (wcl (fewM l)) := by
  rw [fewM_take l]
  intro hne
  obtain ⟨b, o, e, h⟩ := hr (by
    intro e
    have e2 : l = [] := List.map_eq_nil_iff.1 e
    rw [e2] at hne
    simp [wcl] at hne)
  have := Rd.part h 0 (fewM l).length
  rw [List.drop_zero, Nat.add_zero] at this
  refine ⟨b, o, e, ?_⟩
  unfold wcl at this ⊢
  rw [List.map_take]
  exact this

theorem one_any (s : List UInt8) (w : World) (hs : s.length ≤ 9223372036854775807) : Calls Try.prog 15 #[.string (St8 s)] w fun e w' => e = .returned (.string (St8 (s.take 1100))) ∧ w = w' := by
  have hz := St8_size s
  have htk : Hid ((St8 s).extract 0 (min s.length 1100) = St8 (s.take 1100)) := by
    show _ = _
    rw [St8_take]
    by_cases h : s.length ≤ 1100
    · rw [Nat.min_eq_left h, List.take_of_length_le (Nat.le_refl _), List.take_of_length_le h]
    · rw [Nat.min_eq_right (by omega)]
  generalize s.length = n at *
  obtain ⟨m, hm⟩ : ∃ m, min n 1100 = m := ⟨_, rfl⟩
  have hmI : min (n : Int) 1100 = (m : Int) := by omega
  have hmn : m ≤ n := by omega
  have hm0 : (0 : Int) ≤ (m : Int) := by omega
  have hmnI : (m : Int) ≤ (n : Int) := by omega
  rw [hm] at htk
  have htk' := htk.out
  clear hm htk
  go_enter Try.func15, Try.ntmps15
  go_wp2_with fail
  go_ret
  exact ⟨rfl, rfl⟩

set_option maxRecDepth 100000 in
theorem same_eq (l : List (List UInt8)) (n : Nat) (A A' : Option Addr) (c c' : Nat) (w : World) (hl : l.length = n) (hA : Rd w A (wcl l)) (hA' : Rd w A' (wcl l)) (hn : n ≤ 1000000) :
    Calls Try.prog 13 #[.slice A n c, .slice A' n c'] w fun e w' => e = .returned (.bool true) ∧ Below w.heap.size w w' := by
  have Hl := Lib.hid hl
  clear hl
  have hne : ((n : Int) != (n : Int)) = false := by simp
  go_enter Try.func13, Try.ntmps13
  go_wp2_with fail
  go_loopw [5] (fun i wr => ∃ (j q : Nat), j ≤ n ∧ i = .int .i64 j ∧ wr = w.drewN q) (fun i _ => n - (intOf i).toNat)
  case atStart => exact ⟨0, 0, by omega, rfl, rfl⟩
  case round =>
    obtain ⟨j, q, hj, rfl, rfl⟩ := hrel
    by_cases hlt : j < n
    · have hjl : j < l.length := by rw [Hl.out]; exact hlt
      obtain ⟨b, o, rfl, ca⟩ := hA.word hjl
      obtain ⟨b', o', rfl, ca'⟩ := hA'.word hjl
      clear hA hA'
      generalize l[j] = x at *
      have hc : ((St8 x).toList == (St8 x).toList) = true := by simp
      have hjI : (0 : Int) ≤ (j : Int) := by omega
      have hjI' : (j : Int) < (n : Int) := by omega
      go_wp2_with fail
      go_quiet (fail)
      go_wp2_with fail
      go_roundw
      case rel => exact ⟨j + 1, _, by omega, by go_num, rfl⟩
      case measure => simp [intOf]; omega
    · obtain rfl : j = n := by omega
      go_wp2_with fail
      go_ret
      exact ⟨rfl, below_drewN' (Below.refl _ _) _⟩
theorem icl_len' (l : List Int) : (icl l).length = l.length := List.length_map _
set_option maxRecDepth 100000 in
theorem ints_same (l : List Int) (n : Nat) (A A' : Option Addr) (c c' : Nat) (w : World) (hl : l.length = n) (hA : Rd w A (icl l)) (hA' : Rd w A' (icl l)) (hn : n ≤ 140737488355328) :
    Calls Try.prog 14 #[.slice A n c, .slice A' n c'] w fun e w' => e = .returned (.bool true) ∧ Below w.heap.size w w' := by
  have Hl := Lib.hid hl
  clear hl
  have hne : ((n : Int) != (n : Int)) = false := by simp
  go_enter Try.func14, Try.ntmps14
  go_wp2_with fail
  go_loopw [5] (fun i wr => ∃ (j q : Nat), j ≤ n ∧ i = .int .i64 j ∧ wr = w.drewN q) (fun i _ => n - (intOf i).toNat)
  case atStart => exact ⟨0, 0, by omega, rfl, rfl⟩
  case round =>
    obtain ⟨j, q, hj, rfl, rfl⟩ := hrel
    by_cases hlt : j < n
    · obtain ⟨b, o, rfl, hb, _, hca⟩ := hA.get (k := j) (by rw [icl_len, Hl.out]; exact hlt)
      obtain ⟨b', o', rfl, hb', _, hca'⟩ := hA'.get (k := j) (by rw [icl_len, Hl.out]; exact hlt)
      clear hA hA'
      have hx : (icl l)[j]'(by rw [icl_len, Hl.out]; exact hlt) = .int .i64 (l[j]'(by rw [Hl.out]; exact hlt)) := by unfold icl; rw [List.getElem_map]
      rw [hx] at hca hca'
      clear hx
      generalize l[j]'(by rw [Hl.out]; exact hlt) = x at *
      have hjI : (0 : Int) ≤ (j : Int) := by omega
      have hjI' : (j : Int) < (n : Int) := by omega
      go_wp2_with fail
      go_quiet (fail)
      go_wp2_with fail
      go_roundw
      case rel => exact ⟨j + 1, _, by omega, by go_num, rfl⟩
      case measure => simp [intOf]; omega
    · obtain rfl : j = n := by omega
      go_wp2_with fail
      go_ret
      exact ⟨rfl, below_drewN' (Below.refl _ _) _⟩

theorem OfOK.some {l W : List (List UInt8)} {p : List Int} {w w' : World} {e : Ending} (h : OfOK l w e w') (hW : ofM l = some (W, p)) :
    (∃ A c A2 c2, e = .returned (.tuple #[.slice A W.length c, .slice A2 p.length c2, .int .i64 0]) ∧ Rd w' A (wcl W) ∧ Rd w' A2 (icl p)) ∧ Below w.heap.size w w' := by
  obtain ⟨h1, hb⟩ := h
  refine ⟨?_, hb⟩
  rcases h1 with ⟨h1, _⟩ | ⟨W', p', A, c, A2, c2, h1, h2, h3, h4⟩
  · rw [hW] at h1; cases h1
  · rw [hW] at h1
    cases h1
    exact ⟨A, c, A2, c2, h2, h3, h4⟩
theorem OfOK.none {l : List (List UInt8)} {w w' : World} {e : Ending} (h : OfOK l w e w') (hW : ofM l = none) :
    e = .returned (.tuple #[.slice none 0 0, .slice none 0 0, .int .i64 3]) ∧ Below w.heap.size w w' := by
  obtain ⟨h1, hb⟩ := h
  refine ⟨?_, hb⟩
  rcases h1 with ⟨h1, h2⟩ | ⟨W', p', A, c, A2, c2, h1, h2, h3, h4⟩
  · exact h2
  · rw [hW] at h1; cases h1
theorem PutOK.some {l : List (List UInt8)} {b : List UInt8} {w w' : World} {e : Ending} (h : PutOK l w e w') (hb : putM l = some b) :
    (∃ A c, e = .returned (.tuple #[.slice A b.length c, .int .i64 0]) ∧ Rd w' A (Bs b)) ∧ Below w.heap.size w w' := by
  obtain ⟨h1, hb'⟩ := h
  refine ⟨?_, hb'⟩
  rcases h1 with ⟨h1, _⟩ | ⟨b', A, c, h1, h2, h3⟩
  · rw [hb] at h1; cases h1
  · rw [hb] at h1
    cases h1
    exact ⟨A, c, h2, h3⟩
theorem PutOK.none {l : List (List UInt8)} {w w' : World} {e : Ending} (h : PutOK l w e w') (hb : putM l = none) :
    e = .returned (.tuple #[.slice none 0 0, .int .i64 1]) ∧ Below w.heap.size w w' := by
  obtain ⟨h1, hb'⟩ := h
  refine ⟨?_, hb'⟩
  rcases h1 with ⟨h1, h2⟩ | ⟨b', A, c, h1, h2, h3⟩
  · exact h2
  · rw [hb] at h1; cases h1

theorem ex_of : ofM [[98], [97], [98]] = some ([[97], [98]], [1, 0, 1]) := by rw [← rOf_ofM]; decide +kernel
theorem ex_put : putM [[97, 98], [97, 98, 99]] = some [2, 0, 2, 97, 98, 2, 1, 99] := by decide +kernel
theorem ex_from : fromM [[97], [98], [99]] [98, 98] = 2 := by decide +kernel
theorem ex_behind : behindM [[97], [97, 98], [98]] [97] = 2 := by decide +kernel

set_option maxHeartbeats 8000000 in
set_option maxRecDepth 100000 in
theorem shown_any (w : World) : Calls Try.prog 12 #[] w fun e w' => e = .returned (.bool true) ∧ Below w.heap.size w w' := by
  go_enter Try.func12, Try.ntmps12
  go_wp2_with fail
  refine (dof_any [[98], [97], [98]] 3 3 (some ⟨w.heap.size, 0, none⟩) _ rfl (Rd.new w [.string ⟨#[98]⟩, .string ⟨#[97]⟩, .string ⟨#[98]⟩] 9) (by omega)).mono ?_
  intro e w1 h1
  obtain ⟨⟨A1, c1, A2, c2, rfl, hA1, hA2⟩, hb1⟩ := h1.some ex_of
  have Hb1 : Hid (Below w.heap.size w w1) := by
    have h0 : Below w.heap.size w (w.alloc (.cells #[.string ⟨#[98]⟩, .string ⟨#[97]⟩, .string ⟨#[98]⟩] 9)) := (Below.refl _ _).alloc (Nat.le_refl _) _
    exact h0.trans (hb1.mono h0.size)
  have HA1 := Lib.hid hA1
  have HA2 := Lib.hid hA2
  clear h1 hb1 hA1 hA2
  go_wp2_with fail
  refine (dput_any [[97, 98], [97, 98, 99]] 2 2 (some ⟨w1.heap.size, 0, none⟩) _ rfl (Rd.new w1 [.string ⟨#[97, 98]⟩, .string ⟨#[97, 98, 99]⟩] 9) (by omega)).mono ?_
  intro e w2 h2
  obtain ⟨⟨A3, c3, rfl, hA3⟩, hb2⟩ := h2.some ex_put
  have Hb2 : Hid (Below w1.heap.size w1 w2) := by
    have h0 : Below w1.heap.size w1 (w1.alloc (.cells #[.string ⟨#[97, 98]⟩, .string ⟨#[97, 98, 99]⟩] 9)) := (Below.refl _ _).alloc (Nat.le_refl _) _
    exact h0.trans (hb2.mono h0.size)
  have HA3 := Lib.hid hA3
  clear h2 hb2 hA3
  go_wp2_with fail
  have HA1' := Lib.hid (HA1.out.below Hb2.out)
  have HA2' := Lib.hid (HA2.out.below Hb2.out)
  have hb3 : Below w2.heap.size w2 (w2.alloc (.cells #[.string ⟨#[97]⟩, .string ⟨#[98]⟩] 9)) := (Below.refl _ _).alloc (Nat.le_refl _) _
  refine (same_eq [[97], [98]] 2 A1 (some ⟨w2.heap.size, 0, none⟩) c1 2 _ rfl (HA1'.out.below hb3) (Rd.new w2 [.string ⟨#[97]⟩, .string ⟨#[98]⟩] 9) (by omega)).mono ?_
  rintro e w3 ⟨rfl, hb4⟩
  have Hb3 := Lib.hid (hb3.trans (hb4.mono hb3.size))
  clear hb3 hb4
  go_wp2_with fail
  have hb5 : Below w3.heap.size w3 (w3.alloc (.cells #[.int .i64 1, .int .i64 0, .int .i64 1] 3)) := (Below.refl _ _).alloc (Nat.le_refl _) _
  refine (ints_same [1, 0, 1] 3 A2 (some ⟨w3.heap.size, 0, none⟩) c2 3 _ rfl ((HA2'.out.below Hb3.out).below hb5) (Rd.new w3 [.int .i64 1, .int .i64 0, .int .i64 1] 3) (by omega)).mono ?_
  rintro e w4 ⟨rfl, hb6⟩
  have Hb4 := Lib.hid (hb5.trans (hb6.mono hb5.size))
  clear hb5 hb6
  go_wp2_with fail
  have hb7 : Below w4.heap.size w4 (w4.alloc (.cells #[.string ⟨#[97]⟩, .string ⟨#[98]⟩, .string ⟨#[99]⟩] 9)) := (Below.refl _ _).alloc (Nat.le_refl _) _
  have hfr := dfrom_any [[97], [98], [99]] [98, 98] 3 3 (some ⟨w4.heap.size, 0, none⟩) _ rfl (Rd.new w4 [.string ⟨#[97]⟩, .string ⟨#[98]⟩, .string ⟨#[99]⟩] 9) (by omega)
  rw [ex_from] at hfr
  refine hfr.mono ?_
  rintro e w5 ⟨rfl, hb8⟩
  have Hb5 := Lib.hid (hb7.trans (hb8.mono hb7.size))
  clear hb7 hb8 hfr
  go_wp2_with fail
  have hb9 : Below w5.heap.size w5 (w5.alloc (.cells #[.string ⟨#[97]⟩, .string ⟨#[97, 98]⟩, .string ⟨#[98]⟩] 9)) := (Below.refl _ _).alloc (Nat.le_refl _) _
  have hbe := dbehind_any [[97], [97, 98], [98]] [97] 3 3 (some ⟨w5.heap.size, 0, none⟩) _ rfl (Rd.new w5 [.string ⟨#[97]⟩, .string ⟨#[97, 98]⟩, .string ⟨#[98]⟩] 9) (by omega)
  rw [ex_behind] at hbe
  refine hbe.mono ?_
  rintro e w6 ⟨rfl, hb10⟩
  have Hb6 := Lib.hid (hb9.trans (hb10.mono hb9.size))
  clear hb9 hb10 hbe
  have Hb16 := Lib.hid (((Hb3.out.trans (Hb4.out.mono Hb3.out.size)).trans (Hb5.out.mono (Nat.le_trans Hb3.out.size Hb4.out.size))).trans (Hb6.out.mono (Nat.le_trans (Nat.le_trans Hb3.out.size Hb4.out.size) Hb5.out.size)))
  have hcv := run_str w6 A3 [2, 0, 2, 97, 98, 2, 1, 99] 8 c3 rfl (HA3.out.below Hb16.out)
  have hcq : ((St8 [2, 0, 2, 97, 98, 2, 1, 99]).toList == [2, 0, 2, 97, 98, 2, 1, 99]) = true := by
    rw [St8_list]
    exact beq_self_eq_true _
  go_wp2_with fail
  go_ret
  have h12 := Hb1.out.trans (Hb2.out.mono Hb1.out.size)
  exact ⟨rfl, h12.trans (Hb16.out.mono h12.size)⟩
end Go.Proofs.Ytphoccjeakdkeaa
