/- What the column's laws share: few, num, the examples. -/
import Derived.Test.YtojppmnmhdgnnaaMColQ
import Derived.Test.YtojppmnmhdgnnaaMStSt
import Derived.Test.YtojppmnmhdgnnaaMJoA
namespace Go.Proofs.Ytojppmnmhdgnnaa
set_option linter.unusedVariables false
set_option linter.unusedSimpArgs false
open Go.RowKit

attribute [local go_sem ↓] Go.wp_at_zero Go.wp_at_succ

theorem rd_take {l : RowM} {A : Option Addr} {w : World} (hr : Rd w A (rcells l)) (k : Nat) : Rd w A (rcells (l.take k)) := by
  have h : rcells l = rcells (l.take k) ++ rcells (l.drop k) := by
    unfold rcells
    rw [← List.flatMap_append, List.take_append_drop]
  rw [h] at hr
  intro hne
  obtain ⟨b, o, e, hr'⟩ := hr (fun e => hne (List.append_eq_nil_iff.1 e).1)
  exact ⟨b, o, e, fun j v hj => hr' j v (by rw [List.getElem?_append_left (List.getElem?_eq_some_iff.1 hj).1]; exact hj)⟩

set_option maxHeartbeats 8000000 in
set_option maxRecDepth 100000 in
theorem few_any (l : RowM) (n c : Nat) (A : Option Addr) (w : World) (hl : l.length = n) (hr : Rd w A (rcells l)) (hok : ∀ v ∈ l, v.ok) (hnc : n ≤ c) (hc : c ≤ 9223372036854775807) :
    Calls Try.prog 17 #[.slice A n c] w fun e w' => (∃ K, e = .returned (.slice A K c) ∧ K ≤ n ∧ K ≤ 300) ∧ w = w' := by
  have Hl := Lib.hid hl
  have Hr := Lib.hid hr
  have Hok := Lib.hid hok
  clear hl hr hok
  go_enter Try.func17, Try.ntmps17
  go_wp2_with fail
  go_loop [3, 7] (fun v3 v7 => ∃ (j L : Nat), v3 = .int .i64 (L : Int) ∧ v7 = .int .i64 (j : Int) ∧ j ≤ n ∧ L ≤ 20000 ∧ j ≤ 300) (fun _ v7 => n - (intOf v7).toNat)
  case atStart => exact ⟨0, 20000, rfl, rfl, by omega, by omega, by omega⟩
  case round =>
    obtain ⟨j, L, rfl, rfl, hj, hL, hj3⟩ := hrel
    by_cases hjn : j < n
    · have hjl : j < l.length := by rw [Hl.out]; exact hjn
      have hjI : (j : Int) < (n : Int) := by omega
      have hj0 : (0 : Int) ≤ (j : Int) := by omega
      obtain ⟨b, o, rfl, c0, c1, c2⟩ := row_cells Hr.out hjl
      have hjc : (j : Int) ≤ (c : Int) := by omega
      have hjcN : j ≤ c := by omega
      have hvs := (Hok.out _ (List.getElem_mem hjl)).s
      generalize l[j] = v at *
      obtain ⟨vk, vn, x⟩ := v
      dsimp only at c0 c1 c2 hvs
      have hsz := St8_size x
      obtain ⟨X, hX⟩ : ∃ X, x.length = X := ⟨_, rfl⟩
      rw [hX] at hsz hvs
      clear hX hjl
      by_cases h3 : 300 ≤ j
      · have h3I : (300 : Int) ≤ (j : Int) := by omega
        have hd : decide ((300 : Int) ≤ (j : Int)) = true := decide_eq_true h3I
        have hd2 : decide (300 ≤ j) = true := decide_eq_true h3
        go_wp2_with fail
        go_ret
        exact ⟨⟨j, rfl, by omega, by omega⟩, rfl⟩
      · have h3I : ¬ (300 : Int) ≤ (j : Int) := by omega
        have hd : decide ((300 : Int) ≤ (j : Int)) = false := decide_eq_false h3I
        have hd2 : decide (300 ≤ j) = false := decide_eq_false h3
        by_cases h11 : 1100 < X
        · have e1 : decide ((1100 : Int) < (X : Int)) = true := decide_eq_true (by omega)
          have e2 : decide (1100 < X) = true := decide_eq_true h11
          go_wp2_with fail
          go_ret
          exact ⟨⟨j, rfl, by omega, by omega⟩, rfl⟩
        · have e1 : decide ((1100 : Int) < (X : Int)) = false := decide_eq_false (by omega)
          have e2 : decide (1100 < X) = false := decide_eq_false h11
          by_cases hLX : L < X
          · have e3 : decide ((L : Int) < (X : Int)) = true := decide_eq_true (by omega)
            have e4 : decide (L < X) = true := decide_eq_true hLX
            go_wp2_with fail
            go_ret
            exact ⟨⟨j, rfl, by omega, by omega⟩, rfl⟩
          · have e3 : decide ((L : Int) < (X : Int)) = false := decide_eq_false (by omega)
            have e4 : decide (L < X) = false := decide_eq_false hLX
            go_wp2_with fail
            go_round
            case rel => exact ⟨j + 1, L - X, congrArg _ (by omega), by go_num, by omega, by omega, by omega⟩
            case measure => simp [intOf]; omega
    · obtain rfl : j = n := by omega
      go_wp2_with fail
      go_ret
      exact ⟨⟨j, rfl, by omega, by omega⟩, rfl⟩

set_option maxRecDepth 100000 in
theorem num12_any (x : Int) (w : World) : Calls Try.prog 45 #[.int .i64 x] w fun e w' => e = .returned (.agg #[.int .u8 2, .int .i64 x, .string ⟨#[]⟩]) ∧ Below w.heap.size w w' := by
  have hb3 : Hid (Below w.heap.size w (w.alloc (.cells #[.int .u8 2, .int .i64 x, .string ⟨#[]⟩] 30))) := (Below.refl _ _).alloc (Nat.le_refl _) _
  have hk3 : Hid (Blk (w.alloc (.cells #[.int .u8 2, .int .i64 x, .string ⟨#[]⟩] 30)) w.heap.size 30 [.int .u8 2, .int .i64 x, .string ⟨#[]⟩]) := Blk.new w 30 #[.int .u8 2, .int .i64 x, .string ⟨#[]⟩]
  go_enter Try.func45, Try.ntmps45
  go_wp2_with fail
  (try simp only [Exit.inBlock, Exit.then]); refine bodyPost_ret (results_cell_row rfl _ _ w.heap.size 30 #[.int .u8 2, .int .i64 x, .string ⟨#[]⟩] (0, 0) _ rfl hk3.out Try.underlying30 rfl (by kernel_rfl)) rfl ?_
  exact ⟨rfl, hb3.out⟩

theorem ex_runs : cputM 2 2 [⟨2, 5, []⟩, ⟨0, 0, []⟩, ⟨2, 5, []⟩] = ([2, 7, 3, 2, 1, 0, 1, 2, 1, 1, 10, 2], 2, 0) := by decide +kernel
theorem ex_dict : (cputM 2 3 [⟨2, 5, []⟩, ⟨0, 0, []⟩, ⟨2, 5, []⟩]).2 = (1, 0) := by decide +kernel

set_option maxHeartbeats 8000000 in
set_option maxRecDepth 100000 in
theorem shown_any (w : World) : Calls Try.prog 16 #[] w fun e w' => e = .returned (.bool true) ∧ Below w.heap.size w w' := by
  have hok : ∀ v ∈ ([⟨2, 5, []⟩, ⟨0, 0, []⟩, ⟨2, 5, []⟩] : RowM), v.ok := by
    intro v hv
    rcases List.mem_cons.1 hv with rfl | hv
    · exact ⟨by decide, by decide, by decide⟩
    rcases List.mem_cons.1 hv with rfl | hv
    · exact ⟨by decide, by decide, by decide⟩
    rcases List.mem_cons.1 hv with rfl | hv
    · exact ⟨by decide, by decide, by decide⟩
    · simp at hv
  have Hok := Lib.hid hok
  clear hok
  go_enter Try.func16, Try.ntmps16
  go_wp2_with fail
  refine (num12_any 5 w).mono ?_
  rintro e w1 ⟨rfl, hb1⟩
  have Hb1 := Lib.hid hb1
  clear hb1
  go_wp2_with fail
  refine (num12_any 5 w1).mono ?_
  rintro e w2 ⟨rfl, hb2⟩
  have Hb2 := Lib.hid (Hb1.out.trans (hb2.mono Hb1.out.size))
  clear hb2
  go_wp2_with fail
  have hbA : Below w2.heap.size w2 (w2.alloc (.cells #[.int .u8 2, .int .i64 5, .string ⟨#[]⟩, .int .u8 0, .int .i64 0, .string ⟨#[]⟩, .int .u8 2, .int .i64 5, .string ⟨#[]⟩] 30)) := (Below.refl _ _).alloc (Nat.le_refl _) _
  have Hr3 : Hid (Rd (w2.alloc (.cells #[.int .u8 2, .int .i64 5, .string ⟨#[]⟩, .int .u8 0, .int .i64 0, .string ⟨#[]⟩, .int .u8 2, .int .i64 5, .string ⟨#[]⟩] 30)) (some ⟨w2.heap.size, 0, none⟩) (rcells [⟨2, 5, []⟩, ⟨0, 0, []⟩, ⟨2, 5, []⟩])) := Rd.new w2 [.int .u8 2, .int .i64 5, .string ⟨#[]⟩, .int .u8 0, .int .i64 0, .string ⟨#[]⟩, .int .u8 2, .int .i64 5, .string ⟨#[]⟩] 30
  have Hb3 := Lib.hid (Hb2.out.trans (hbA.mono Hb2.out.size))
  clear hbA
  refine (cputc_any 2 2 [⟨2, 5, []⟩, ⟨0, 0, []⟩, ⟨2, 5, []⟩] 3 3 (some ⟨w2.heap.size, 0, none⟩) _ rfl Hr3.out (by omega) Hok.out (by omega) (by omega)).mono ?_
  intro e w4 h4
  unfold CPutOK at h4
  rw [ex_runs] at h4
  obtain ⟨⟨A4, c4, rfl, ho4⟩, hb4⟩ := h4
  dsimp only [List.length_cons, List.length_nil] at ho4 ⊢
  have Hb4 := Lib.hid (Hb3.out.trans (hb4.mono Hb3.out.size))
  have Hr4 := Lib.hid (Hr3.out.below hb4)
  have Ho4 := Lib.hid ho4.rd
  clear hb4 ho4
  go_wp2_with fail
  refine (cputc_any 2 3 [⟨2, 5, []⟩, ⟨0, 0, []⟩, ⟨2, 5, []⟩] 3 3 (some ⟨w2.heap.size, 0, none⟩) w4 rfl Hr4.out (by omega) Hok.out (by omega) (by omega)).mono ?_
  intro e w5 h5
  unfold CPutOK at h5
  rw [ex_dict] at h5
  obtain ⟨⟨A5, c5, rfl, _⟩, hb5⟩ := h5
  have Hb5 := Lib.hid (Hb4.out.trans (hb5.mono Hb4.out.size))
  have Ho5 := Lib.hid (Ho4.out.below hb5)
  clear hb5
  generalize (cputM 2 3 [⟨2, 5, []⟩, ⟨0, 0, []⟩, ⟨2, 5, []⟩]).1.length = L5 at *
  have hcv := run_str w5 A4 [2, 7, 3, 2, 1, 0, 1, 2, 1, 1, 10, 2] 12 c4 rfl Ho5.out
  have hcq : ((St8 [2, 7, 3, 2, 1, 0, 1, 2, 1, 1, 10, 2]).toList == [2, 7, 3, 2, 1, 0, 1, 2, 1, 1, 10, 2]) = true := by
    rw [St8_list]
    exact beq_self_eq_true _
  go_wp2_with fail
  go_ret
  exact ⟨rfl, Hb5.out⟩
end Go.Proofs.Ytojppmnmhdgnnaa
