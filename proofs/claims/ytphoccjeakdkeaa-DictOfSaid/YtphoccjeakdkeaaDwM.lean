/- The walks of DictOf and DictFinds. -/
import Derived.Test.YtphoccjeakdkeaaDwK
namespace Go.Proofs.Ytphoccjeakdkeaa
open Go.RowKit

attribute [local go_sem ↓] Go.wp_at_zero Go.wp_at_succ

set_option maxHeartbeats 8000000 in
set_option maxRecDepth 100000 in
theorem dictof_walk (l : List (List UInt8)) (n c : Nat) (A : Option Addr) (w : World) (hl : l.length = n) (hr : Rd w A (wcl l)) (hx : ∀ x ∈ l, x.length ≤ 9223372036854775807) (hnc : n ≤ c) (hc : c ≤ 9223372036854775807) :
    Calls Try.prog 3 #[.slice A n c] w fun e w' => e = .returned (.bool true) ∧ Below w.heap.size w w' := by
  have hfw := Lib.hid (few_any l n c A w hl hr hx hnc hc)
  have hfw2 := Lib.hid (fun w' (hb : Below w.heap.size w w') => few_any l n c A w' hl (hr.below hb) hx hnc hc)
  have hR := Lib.hid (few_rd hr)
  have hle := (fewM_le l).1
  generalize fewM l = L at *
  obtain ⟨F, hF⟩ : ∃ F, L.length = F := ⟨_, rfl⟩
  rw [hF] at hfw hfw2 hle
  have HF := Lib.hid hF
  clear hl hr hx hF
  cases hof : ofM L with
  | none =>
    have Hof := Lib.hid hof
    clear hof
    go_enter Try.func3, Try.ntmps3
    go_wp2_with fail
    refine hfw.out.mono ?_
    rintro e w1 ⟨rfl, rfl⟩
    go_wp2_with fail
    refine (dof_any L F c A _ HF.out hR.out (by omega)).mono ?_
    intro e w1 h1
    obtain ⟨rfl, hb1⟩ := h1.none Hof.out
    have Hb1 := Lib.hid hb1
    clear h1 hb1
    go_wp2_with fail
    refine (hfw2.out w1 Hb1.out).mono ?_
    rintro e w2 ⟨rfl, rfl⟩
    go_wp2_with fail
    refine (drof_any L F c A _ HF.out (hR.out.below Hb1.out) (by omega)).mono ?_
    intro e w2 h2
    obtain ⟨rfl, hb2⟩ := h2.none Hof.out
    have Hb2 := Lib.hid (Hb1.out.trans (hb2.mono Hb1.out.size))
    clear h2 hb2
    go_wp2_with fail
    refine (shown_any w2).mono ?_
    rintro e w3 ⟨rfl, hb3⟩
    have Hb3 := Lib.hid (Hb2.out.trans (hb3.mono Hb2.out.size))
    clear hb3
    go_wp2_with fail
    refine (same_eq [] 0 none none 0 0 w3 rfl (Rd.nil _ _) (Rd.nil _ _) (by omega)).mono ?_
    rintro e w4 ⟨rfl, hb4⟩
    have Hb4 := Lib.hid (Hb3.out.trans (hb4.mono Hb3.out.size))
    clear hb4
    go_wp2_with fail
    refine (ints_same [] 0 none none 0 0 w4 rfl (Rd.nil _ _) (Rd.nil _ _) (by omega)).mono ?_
    rintro e w5 ⟨rfl, hb5⟩
    have Hb5 := Lib.hid (Hb4.out.trans (hb5.mono Hb4.out.size))
    clear hb5
    go_wp2_with fail
    go_ret
    exact ⟨rfl, Hb5.out⟩
  | some Wp =>
    obtain ⟨W, p⟩ := Wp
    have Hof := Lib.hid hof
    have hback := back_len hof
    have hW2 := (rightW_le (ofM_right hof).1).2
    rw [HF.out] at hback
    obtain ⟨K, hK⟩ : ∃ K, W.length = K := ⟨_, rfl⟩
    have HK := Lib.hid hK
    have Hp := Lib.hid hback
    rw [hK] at hW2
    clear hof hback hK
    go_enter Try.func3, Try.ntmps3
    go_wp2_with fail
    refine hfw.out.mono ?_
    rintro e w1 ⟨rfl, rfl⟩
    go_wp2_with fail
    refine (dof_any L F c A _ HF.out hR.out (by omega)).mono ?_
    intro e w1 h1
    obtain ⟨⟨A1, c1, A2, c2, rfl, hA1, hA2⟩, hb1⟩ := h1.some Hof.out
    rw [HK.out, Hp.out]
    have Hb1 := Lib.hid hb1
    have HA1 := Lib.hid hA1
    have HA2 := Lib.hid hA2
    clear h1 hb1 hA1 hA2
    go_wp2_with fail
    refine (hfw2.out w1 Hb1.out).mono ?_
    rintro e w2 ⟨rfl, rfl⟩
    go_wp2_with fail
    refine (drof_any L F c A _ HF.out (hR.out.below Hb1.out) (by omega)).mono ?_
    intro e w2 h2
    obtain ⟨⟨A3, c3, A4, c4, rfl, hA3, hA4⟩, hb2⟩ := h2.some Hof.out
    rw [HK.out, Hp.out]
    have Hb2 := Lib.hid (Hb1.out.trans (hb2.mono Hb1.out.size))
    have HA1' := Lib.hid (HA1.out.below hb2)
    have HA2' := Lib.hid (HA2.out.below hb2)
    have HA3 := Lib.hid hA3
    have HA4 := Lib.hid hA4
    clear h2 hb2 hA3 hA4
    go_wp2_with fail
    refine (shown_any w2).mono ?_
    rintro e w3 ⟨rfl, hb3⟩
    have Hb3 := Lib.hid (Hb2.out.trans (hb3.mono Hb2.out.size))
    have Hb23 := Lib.hid hb3
    clear hb3
    go_wp2_with fail
    refine (same_eq W K A1 A3 c1 c3 w3 HK.out (HA1'.out.below Hb23.out) (HA3.out.below Hb23.out) (by omega)).mono ?_
    rintro e w4 ⟨rfl, hb4⟩
    have Hb4 := Lib.hid (Hb3.out.trans (hb4.mono Hb3.out.size))
    have Hb24 := Lib.hid (Hb23.out.trans (hb4.mono Hb23.out.size))
    clear hb4
    go_wp2_with fail
    refine (ints_same p F A2 A4 c2 c4 w4 Hp.out (HA2'.out.below Hb24.out) (HA4.out.below Hb24.out) (by omega)).mono ?_
    rintro e w5 ⟨rfl, hb5⟩
    have Hb5 := Lib.hid (Hb4.out.trans (hb5.mono Hb4.out.size))
    clear hb5
    go_wp2_with fail
    go_ret
    exact ⟨rfl, Hb5.out⟩

set_option maxHeartbeats 8000000 in
set_option maxRecDepth 100000 in
theorem dictfinds_walk (l : List (List UInt8)) (s : List UInt8) (n c : Nat) (A : Option Addr) (w : World) (hl : l.length = n) (hr : Rd w A (wcl l)) (hx : ∀ x ∈ l, x.length ≤ 9223372036854775807) (hnc : n ≤ c) (hc : c ≤ 9223372036854775807) (hs : s.length ≤ 9223372036854775807) :
    Calls Try.prog 4 #[.slice A n c, .string (St8 s)] w fun e w' => e = .returned (.bool true) ∧ Below w.heap.size w w' := by
  have hfw := Lib.hid (few_any l n c A w hl hr hx hnc hc)
  have hon := Lib.hid (one_any s w hs)
  have hR := Lib.hid (few_rd hr)
  have hle := (fewM_le l).1
  generalize fewM l = L at *
  generalize s.take 1100 = t at *
  obtain ⟨F, hF⟩ : ∃ F, L.length = F := ⟨_, rfl⟩
  rw [hF] at hfw hle
  have HF := Lib.hid hF
  have h1 := Lib.hid (dfind_any L t F c A w HF.out hR.out (by omega))
  have h2 := Lib.hid (fun q => drfind_any L t F c A (w.drewN q) HF.out (hR.out.drewN q) (by omega))
  have h3 := Lib.hid (fun w' (hb : Below w.heap.size w w') => dright_any L F c A w' HF.out (hR.out.below hb) (by omega))
  have h4 := Lib.hid (fun w' (hb : Below w.heap.size w w') => drright_any L F c A w' HF.out (hR.out.below hb) (by omega))
  have h5 := Lib.hid (fun w' (hb : Below w.heap.size w w') => dfrom_any L t F c A w' HF.out (hR.out.below hb) (by omega))
  have h6 := Lib.hid (fun w' (hb : Below w.heap.size w w') => drfrom_any L t F c A w' HF.out (hR.out.below hb) (by omega))
  have h7 := Lib.hid (fun w' (hb : Below w.heap.size w w') => dbehind_any L t F c A w' HF.out (hR.out.below hb) (by omega))
  have h8 := Lib.hid (fun w' (hb : Below w.heap.size w w') => drbehind_any L t F c A w' HF.out (hR.out.below hb) (by omega))
  generalize (findM L t).getD 0 = X1 at *
  generalize (findM L t).isSome = X2 at *
  generalize rightW L = X3 at *
  generalize fromM L t = X4 at *
  generalize behindM L t = X5 at *
  have g1 : ((X1 : Int) == (X1 : Int)) = true := by simp
  have g2 : (X2 == X2) = true := by simp
  have g3 : (X3 == X3) = true := by simp
  have g4 : ((X4 : Int) == (X4 : Int)) = true := by simp
  have g5 : ((X5 : Int) == (X5 : Int)) = true := by simp
  clear hl hr hx hF hle
  go_enter Try.func4, Try.ntmps4
  go_wp2_with fail
  refine hfw.out.mono ?_
  rintro e w1 ⟨rfl, rfl⟩
  go_wp2_with fail
  refine hon.out.mono ?_
  rintro e w1 ⟨rfl, rfl⟩
  go_wp2_with fail
  refine h1.out.mono ?_
  rintro e w1 ⟨rfl, q1, rfl⟩
  go_wp2_with fail
  refine (h2.out q1).mono ?_
  rintro e w1 ⟨rfl, q2, hw1⟩
  have Hb1 : Hid (Below w.heap.size w w1) := by
    rw [hw1]
    exact below_drewN' (below_drewN' (Below.refl _ _) q1) q2
  clear hw1
  try rw [World.drewN_drewN]
  go_wp2_with fail
  refine (shown_any _).mono ?_
  rintro e w3 ⟨rfl, hb3⟩
  have Hb3 := Lib.hid (Hb1.out.trans (hb3.mono Hb1.out.size))
  clear hb3
  go_wp2_with fail
  refine (h3.out w3 Hb3.out).mono ?_
  rintro e w4 ⟨rfl, q4, hw4⟩
  have Hb4 : Hid (Below w.heap.size w w4) := by
    rw [hw4]
    exact below_drewN' Hb3.out q4
  clear hw4
  go_wp2_with fail
  refine (h4.out w4 Hb4.out).mono ?_
  rintro e w5 ⟨rfl, q5, hw5⟩
  have Hb5 : Hid (Below w.heap.size w w5) := by
    rw [hw5]
    exact below_drewN' Hb4.out q5
  clear hw5
  go_wp2_with fail
  refine (h5.out w5 Hb5.out).mono ?_
  rintro e w6 ⟨rfl, hb6⟩
  have Hb6 := Lib.hid (Hb5.out.trans (hb6.mono Hb5.out.size))
  clear hb6
  go_wp2_with fail
  refine (h6.out w6 Hb6.out).mono ?_
  rintro e w7 ⟨rfl, q7, hw7⟩
  have Hb7 : Hid (Below w.heap.size w w7) := by
    rw [hw7]
    exact below_drewN' Hb6.out q7
  clear hw7
  go_wp2_with fail
  refine (h7.out w7 Hb7.out).mono ?_
  rintro e w8 ⟨rfl, hb8⟩
  have Hb8 := Lib.hid (Hb7.out.trans (hb8.mono Hb7.out.size))
  clear hb8
  go_wp2_with fail
  refine (h8.out w8 Hb8.out).mono ?_
  rintro e w9 ⟨rfl, q9, hw9⟩
  have Hb9 : Hid (Below w.heap.size w w9) := by
    rw [hw9]
    exact below_drewN' Hb8.out q9
  clear hw9
  go_wp2_with fail
  go_ret
  exact ⟨rfl, Hb9.out⟩
end Go.Proofs.Ytphoccjeakdkeaa
