/- The walk of DictBack. -/
import Derived.Test.YtphoccjeakdkeaaDwK
namespace Go.Proofs.Ytphoccjeakdkeaa
open Go.RowKit

attribute [local go_sem ↓] Go.wp_at_zero Go.wp_at_succ

theorem Rd.num {w : World} {A : Option Addr} {l : List Int} (h : Rd w A (icl l)) {j : Nat} (hj : j < l.length) : ∃ b o, A = some ⟨b, o, none⟩ ∧ w.cell? ⟨b, o + j, none⟩ = some (.int .i64 l[j]) := by
  obtain ⟨b, o, e, _, _, c⟩ := h.get (k := j) (by rw [icl_len]; exact hj)
  refine ⟨b, o, e, ?_⟩
  rw [c]
  unfold icl
  rw [List.getElem_map]
theorem getI_of {l : List Int} {j : Nat} (h : j < l.length) : l.getD j 0 = l[j] := by
  rw [List.getD_eq_getElem?_getD, List.getElem?_eq_getElem h]
  rfl

set_option maxHeartbeats 16000000 in
set_option maxRecDepth 100000 in
theorem dictback_walk (l : List (List UInt8)) (n c : Nat) (A : Option Addr) (w : World) (hl : l.length = n) (hr : Rd w A (wcl l)) (hx : ∀ x ∈ l, x.length ≤ 9223372036854775807) (hnc : n ≤ c) (hc : c ≤ 9223372036854775807) :
    Calls Try.prog 5 #[.slice A n c] w fun e w' => e = .returned (.bool true) ∧ Below w.heap.size w w' := by
  have hsh := Lib.hid (shown_any w)
  have hfw2 := Lib.hid (fun w' (hb : Below w.heap.size w w') => few_any l n c A w' hl (hr.below hb) hx hnc hc)
  have hR := Lib.hid (few_rd hr)
  have hle := (fewM_le l).1
  generalize fewM l = L at *
  obtain ⟨F, hF⟩ : ∃ F, L.length = F := ⟨_, rfl⟩
  rw [hF] at hfw2 hle
  have HF := Lib.hid hF
  clear hl hr hx hF
  cases hof : ofM L with
  | none =>
    have Hof := Lib.hid hof
    clear hof
    go_enter Try.func5, Try.ntmps5
    go_wp2_with fail
    refine hsh.out.mono ?_
    rintro e w1 ⟨rfl, hb1⟩
    have Hb1 := Lib.hid hb1
    clear hb1
    go_wp2_with fail
    refine (hfw2.out w1 Hb1.out).mono ?_
    rintro e w2 ⟨rfl, rfl⟩
    go_wp2_with fail
    refine (dof_any L F c A _ HF.out (hR.out.below Hb1.out) (by omega)).mono ?_
    intro e w2 h2
    obtain ⟨rfl, hb2⟩ := h2.none Hof.out
    have Hb2 := Lib.hid (Hb1.out.trans (hb2.mono Hb1.out.size))
    clear h2 hb2
    go_wp2_with fail
    go_ret
    exact ⟨rfl, Hb2.out⟩
  | some Wp =>
    obtain ⟨W, p⟩ := Wp
    have Hof := Lib.hid hof
    have hback := back_len hof
    have hrW := (ofM_right hof).1
    have hW2 := (rightW_le hrW).2
    rw [HF.out] at hback
    obtain ⟨K, hK⟩ : ∃ K, W.length = K := ⟨_, rfl⟩
    have HK := Lib.hid hK
    have Hp := Lib.hid hback
    have HrW := Lib.hid hrW
    rw [hK] at hW2
    have hFF : ((F : Int) != (F : Int)) = false := by simp
    clear hof hback hK hrW
    go_enter Try.func5, Try.ntmps5
    go_wp2_with fail
    refine hsh.out.mono ?_
    rintro e w1 ⟨rfl, hb1⟩
    have Hb1 := Lib.hid hb1
    clear hb1
    go_wp2_with fail
    refine (hfw2.out w1 Hb1.out).mono ?_
    rintro e w2 ⟨rfl, rfl⟩
    go_wp2_with fail
    refine (dof_any L F c A _ HF.out (hR.out.below Hb1.out) (by omega)).mono ?_
    intro e w2 h2
    obtain ⟨⟨A1, c1, A2, c2, rfl, hA1, hA2⟩, hb2⟩ := h2.some Hof.out
    rw [HK.out, Hp.out]
    have Hb2 := Lib.hid (Hb1.out.trans (hb2.mono Hb1.out.size))
    have HA1 := Lib.hid hA1
    have HA2 := Lib.hid hA2
    clear h2 hb2 hA1 hA2 hsh hfw2
    have hri := dright_any W K c1 A1 w2 HK.out HA1.out (by omega)
    rw [HrW.out] at hri
    have Hri := Lib.hid hri
    clear hri
    go_wp2_with fail
    refine Hri.out.mono ?_
    rintro e w3 ⟨rfl, q3, hw3⟩
    have Hb23 : Hid (Below w2.heap.size w2 w3) := by
      rw [hw3]
      exact below_drewN' (Below.refl _ _) q3
    clear hw3 Hri
    go_wp2_with fail
    go_loopw [49] (fun vi wr => ∃ (j : Nat), vi = .int .i64 (j : Int) ∧ j ≤ F ∧ Hid (Below w2.heap.size w2 wr)) (fun vi _ => F - (intOf vi).toNat)
    case atStart => exact ⟨0, rfl, by omega, Hb23⟩
    case round =>
      obtain ⟨j, rfl, hj, Hb⟩ := hrel
      by_cases hjn : j < F
      · have hjl : j < L.length := by rw [HF.out]; exact hjn
        have hjp : j < p.length := by rw [Hp.out]; exact hjn
        have hjI : (j : Int) < (F : Int) := by omega
        have hj0 : (0 : Int) ≤ (j : Int) := by omega
        have hRr := (hR.out.below Hb2.out).below Hb.out
        have hW := HA1.out.below Hb.out
        have hP := HA2.out.below Hb.out
        obtain ⟨k, hk, hkW, hkx, hfi, hfr⟩ := back_at Hof.out hjl
        rw [getD_of hkW] at hkx
        rw [getD_of hjl] at hkx hfi hfr
        rw [getI_of hjp] at hk
        have hkK : k < K := by rw [← HK.out]; exact hkW
        have hkI : (k : Int) < (K : Int) := by omega
        have hk0 : (0 : Int) ≤ (k : Int) := by omega
        obtain ⟨b, o, rfl, cx⟩ := hRr.word hjl
        obtain ⟨bp, op, rfl, cp⟩ := hP.num hjp
        obtain ⟨bw, ow, rfl, cw⟩ := hW.word hkW
        rw [hkx] at cw
        rw [hk] at cp
        have hfd := fun q => dfind_any W L[j] K c1 (some ⟨bw, ow, none⟩) (wr.drewN q) HK.out (hW.drewN q) (by omega)
        rw [hfi] at hfd
        simp only [Option.getD_some, Option.isSome_some] at hfd
        have hfm := fun q => dfrom_any W L[j] K c1 (some ⟨bw, ow, none⟩) (wr.drewN q) HK.out (hW.drewN q) (by omega)
        rw [hfr] at hfm
        have Hfd := Lib.hid hfd
        have Hfm := Lib.hid hfm
        have hor := fun (t : Nat) (ht : t < L.length) => back_order Hof.out ht hjl
        have Hor := Lib.hid (fun (t : Nat) (ht : t < F) => hor t (by rw [HF.out]; exact ht))
        have Hgx : Hid (L.getD j [] = L[j]) := getD_of hjl
        have Hgp : Hid (p.getD j 0 = (k : Int)) := by show _ = _; rw [getI_of hjp]; exact hk
        have hcc := St8_cmp L[j] L[j]
        rw [decide_eq_true rfl] at hcc
        have hkk : ((k : Int) != (k : Int)) = false := by simp
        have hcells : Hid (∀ t, t < F → ∃ (kt : Nat) (y : List UInt8), wr.cell? ⟨bp, op + t, none⟩ = some (.int .i64 (kt : Int)) ∧ wr.cell? ⟨b, o + t, none⟩ = some (.string (St8 y)) ∧ L.getD t [] = y ∧ p.getD t 0 = (kt : Int)) := fun t ht => by
          have htl : t < L.length := by rw [HF.out]; exact ht
          have htp : t < p.length := by rw [Hp.out]; exact ht
          obtain ⟨kt, hkt, _, _, _, _⟩ := back_at Hof.out htl
          obtain ⟨b', o', e', cx'⟩ := hRr.word htl
          obtain ⟨bp', op', ep', cp'⟩ := hP.num htp
          cases e'
          cases ep'
          rw [getI_of htp] at hkt
          rw [hkt] at cp'
          exact ⟨kt, L[t], cp', cx', getD_of htl, by rw [getI_of htp]; exact hkt⟩
        generalize L[j] = x at *
        clear hRr hW hP hfi hfr hk hkx hjl hjp hkW hfd hfm hor
        have g1 : decide ((k : Int) < 0) = false := decide_eq_false (by omega)
        have g2 : decide ((K : Int) ≤ (k : Int)) = false := decide_eq_false (by omega)
        have g3 : decide (K ≤ k) = false := decide_eq_false (by omega)
        by_cases hz : j = 0
        · have hzd : decide (0 < j) = false := decide_eq_false (by omega)
          have Hz : Hid (j = 0) := hz
          clear hz hcells Hor
          go_wp2_with fail
          go_quiet (fail)
          go_wp2_with fail
          refine (Hfd.out _).mono ?_
          rintro e w4 ⟨rfl, q4, hw4⟩
          have Hb4 : Hid (Below w2.heap.size w2 w4) := by
            rw [hw4]
            exact below_drewN' (below_drewN' Hb.out _) _
          have cp4 : w4.cell? ⟨bp, op + j, none⟩ = some (.int .i64 (k : Int)) := by rw [hw4]; exact cp
          have cx4 : w4.cell? ⟨b, o + j, none⟩ = some (.string (St8 x)) := by rw [hw4]; exact cx
          have hfm4 : Calls Try.prog 20 #[.slice (some ⟨bw, ow, none⟩) K c1, .string (St8 x)] w4 fun e w' => e = .returned (.int .i64 ((k : Nat) : Int)) ∧ Below w4.heap.size w4 w' := by
            rw [hw4, World.drewN_drewN]
            exact Hfm.out _
          have Hfm4 := Lib.hid hfm4
          clear hw4 cp cx cw hfm4 Hfm Hfd
          go_wp2_with fail
          refine Hfm4.out.mono ?_
          rintro e w5 ⟨rfl, hb5⟩
          have Hb5 := Lib.hid (Hb4.out.trans (hb5.mono Hb4.out.size))
          clear hb5
          go_wp2_with fail
          go_roundw
          case rel => exact ⟨j + 1, by go_num, by omega, Hb5⟩
          case measure => simp only [intOf, Int.toNat_natCast]; omega
        · obtain ⟨t, ht⟩ : ∃ t, j = t + 1 := ⟨j - 1, by omega⟩
          have hsub : (j : Int) - 1 = (t : Int) := by omega
          have htn : (t : Int) < (F : Int) := by omega
          have ht0 : (0 : Int) ≤ (t : Int) := by omega
          have htF : t < F := by omega
          obtain ⟨kt, y, ct1, ct2, hy, hkt⟩ := hcells.out t htF
          have hord := Hor.out t htF
          rw [hy, hkt, Hgx.out, Hgp.out] at hord
          have hls := less_St8 y x
          have hzd : decide (0 < j) = true := decide_eq_true (by omega)
          have Ht := Lib.hid ht
          by_cases hyx : y < x
          · have hd1 : decide ((kt : Int) < (k : Int)) = true := decide_eq_true (hord.2 hyx)
            have hd2 : decide (kt < k) = true := decide_eq_true (by have := hord.2 hyx; omega)
            rw [decide_eq_true hyx] at hls
            clear hz hcells Hor ht hyx hord hy hkt
            go_wp2_with fail
            go_quiet (fail)
            go_wp2_with fail
            refine (Hfd.out _).mono ?_
            rintro e w4 ⟨rfl, q4, hw4⟩
            have Hb4 : Hid (Below w2.heap.size w2 w4) := by
              rw [hw4]
              exact below_drewN' (below_drewN' Hb.out _) _
            have cp4 : w4.cell? ⟨bp, op + j, none⟩ = some (.int .i64 (k : Int)) := by rw [hw4]; exact cp
            have cx4 : w4.cell? ⟨b, o + j, none⟩ = some (.string (St8 x)) := by rw [hw4]; exact cx
            have hfm4 : Calls Try.prog 20 #[.slice (some ⟨bw, ow, none⟩) K c1, .string (St8 x)] w4 fun e w' => e = .returned (.int .i64 ((k : Nat) : Int)) ∧ Below w4.heap.size w4 w' := by
              rw [hw4, World.drewN_drewN]
              exact Hfm.out _
            have Hfm4 := Lib.hid hfm4
            clear hw4 cp cx cw hfm4 Hfm Hfd
            go_wp2_with fail
            refine Hfm4.out.mono ?_
            rintro e w5 ⟨rfl, hb5⟩
            have Hb5 := Lib.hid (Hb4.out.trans (hb5.mono Hb4.out.size))
            clear hb5
            go_wp2_with fail
            go_roundw
            case rel => exact ⟨j + 1, by go_num, by omega, Hb5⟩
            case measure => simp only [intOf, Int.toNat_natCast]; omega
          · have hd1 : decide ((kt : Int) < (k : Int)) = false := decide_eq_false (fun h => hyx (hord.1 h))
            have hd2 : decide (kt < k) = false := decide_eq_false (fun h => hyx (hord.1 (by omega)))
            rw [decide_eq_false hyx] at hls
            clear hz hcells Hor ht hyx hord hy hkt
            go_wp2_with fail
            go_quiet (fail)
            go_wp2_with fail
            refine (Hfd.out _).mono ?_
            rintro e w4 ⟨rfl, q4, hw4⟩
            have Hb4 : Hid (Below w2.heap.size w2 w4) := by
              rw [hw4]
              exact below_drewN' (below_drewN' Hb.out _) _
            have cp4 : w4.cell? ⟨bp, op + j, none⟩ = some (.int .i64 (k : Int)) := by rw [hw4]; exact cp
            have cx4 : w4.cell? ⟨b, o + j, none⟩ = some (.string (St8 x)) := by rw [hw4]; exact cx
            have hfm4 : Calls Try.prog 20 #[.slice (some ⟨bw, ow, none⟩) K c1, .string (St8 x)] w4 fun e w' => e = .returned (.int .i64 ((k : Nat) : Int)) ∧ Below w4.heap.size w4 w' := by
              rw [hw4, World.drewN_drewN]
              exact Hfm.out _
            have Hfm4 := Lib.hid hfm4
            clear hw4 cp cx cw hfm4 Hfm Hfd
            go_wp2_with fail
            refine Hfm4.out.mono ?_
            rintro e w5 ⟨rfl, hb5⟩
            have Hb5 := Lib.hid (Hb4.out.trans (hb5.mono Hb4.out.size))
            clear hb5
            go_wp2_with fail
            go_roundw
            case rel => exact ⟨j + 1, by go_num, by omega, Hb5⟩
            case measure => simp only [intOf, Int.toNat_natCast]; omega
      · obtain rfl : j = F := by omega
        go_wp2_with fail
        go_ret
        exact ⟨rfl, Hb2.out.trans (Hb.out.mono Hb2.out.size)⟩
end Go.Proofs.Ytphoccjeakdkeaa
