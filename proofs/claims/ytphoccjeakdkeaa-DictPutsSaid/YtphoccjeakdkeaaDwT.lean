/- The walk of DictPuts. -/
import Derived.Test.YtphoccjeakdkeaaDwS
import Derived.Test.YtphoccjeakdkeaaDwQ
namespace Go.Proofs.Ytphoccjeakdkeaa
open Go.RowKit

attribute [local go_sem ↓] Go.wp_at_zero Go.wp_at_succ

/-- What Put, Take, Turn tell, both ways in one. -/
theorem PutOK.uni {l : List (List UInt8)} {w w' : World} {e : Ending} (h : PutOK l w e w') :
    (∃ A c, e = .returned (.tuple #[.slice A ((putM l).getD []).length c, .int .i64 (if (putM l).isSome = true then 0 else 1)]) ∧ Rd w' A (Bs ((putM l).getD []))) ∧ Below w.heap.size w w' := by
  obtain ⟨h1, hb⟩ := h
  refine ⟨?_, hb⟩
  rcases h1 with ⟨h1, h2⟩ | ⟨b', A, c, h1, h2, h3⟩
  · rw [h1]
    exact ⟨Option.none, 0, h2, Rd.nil _ _⟩
  · rw [h1]
    exact ⟨A, c, h2, h3⟩
theorem TakeOK.uni {b : List UInt8} {w w' : World} {e : Ending} (h : TakeOK b w e w') :
    (∃ A c A2 c2, e = .returned (.tuple #[.slice A ((takeM b).getD ([], [])).1.length c, .slice A2 ((takeM b).getD ([], [])).2.length c2, .int .i64 (if (takeM b).isSome = true then 0 else 6)]) ∧ Rd w' A (wcl ((takeM b).getD ([], [])).1) ∧ Rd w' A2 (Bs ((takeM b).getD ([], [])).2)) ∧ Below w.heap.size w w' := by
  obtain ⟨h1, hb⟩ := h
  refine ⟨?_, hb⟩
  rcases h1 with ⟨h1, h2⟩ | ⟨W', r', A, c, A2, c2, h1, h2, h3, h4⟩
  · rw [h1]
    exact ⟨Option.none, 0, Option.none, 0, h2, Rd.nil _ _, Rd.nil _ _⟩
  · rw [h1]
    exact ⟨A, c, A2, c2, h2, h3, h4⟩
theorem TurnOK.uni {f t : List (List UInt8)} {w w' : World} {e : Ending} (h : TurnOK f t w e w') :
    (∃ A c, e = .returned (.tuple #[.slice A ((turnM f t).getD []).length c, .int .i64 (if (turnM f t).isSome = true then 0 else 1)]) ∧ Rd w' A (icl ((turnM f t).getD []))) ∧ Below w.heap.size w w' := by
  obtain ⟨h1, hb⟩ := h
  refine ⟨?_, hb⟩
  rcases h1 with ⟨h1, h2⟩ | ⟨b', A, c, h1, h2, h3⟩
  · rw [h1]
    exact ⟨Option.none, 0, h2, Rd.nil _ _⟩
  · rw [h1]
    exact ⟨A, c, h2, h3⟩
theorem takeM_len {b : List UInt8} : ((takeM b).getD ([], [])).1.length ≤ 200 := by
  cases h : takeM b with
  | none => simp
  | some x =>
    obtain ⟨W, r⟩ := x
    exact (rightW_le (takeM_put h).1).2
theorem turnM_len {f t : List (List UInt8)} : ((turnM f t).getD []).length ≤ f.length := by
  unfold turnM
  split
  · show (f.map (placeM t)).length ≤ _
    rw [List.length_map]
    exact Nat.le_refl _
  · simp

set_option maxHeartbeats 16000000 in
set_option maxRecDepth 100000 in
theorem dictputs_walk (l1 l2 : List (List UInt8)) (b : List UInt8) (n1 c1 n2 c2 n3 c3 : Nat) (A1 A2 A3 : Option Addr) (w : World)
    (hl1 : l1.length = n1) (hr1 : Rd w A1 (wcl l1)) (hx1 : ∀ x ∈ l1, x.length ≤ 9223372036854775807) (hnc1 : n1 ≤ c1) (hc1 : c1 ≤ 9223372036854775807)
    (hl2 : l2.length = n2) (hr2 : Rd w A2 (wcl l2)) (hx2 : ∀ x ∈ l2, x.length ≤ 9223372036854775807) (hnc2 : n2 ≤ c2) (hc2 : c2 ≤ 9223372036854775807)
    (hb : b.length = n3) (hrb : Rd w A3 (Bs b)) (hnc3 : n3 ≤ c3) (hc3 : c3 ≤ 9223372036854775807) :
    Calls Try.prog 8 #[.slice A1 n1 c1, .slice A2 n2 c2, .slice A3 n3 c3] w fun e w' => e = .returned (.bool true) ∧ Below w.heap.size w w' := by
  have hsh := Lib.hid (shown_any w)
  have hfw1 := Lib.hid (fun w' (hb : Below w.heap.size w w') => few_any l1 n1 c1 A1 w' hl1 (hr1.below hb) hx1 hnc1 hc1)
  have hR1 := Lib.hid (few_rd hr1)
  have hle1 := (fewM_le l1).1
  generalize fewM l1 = L1 at *
  obtain ⟨F1, hF1⟩ : ∃ F, L1.length = F := ⟨_, rfl⟩
  rw [hF1] at hfw1 hle1
  have HF1 := Lib.hid hF1
  clear hl1 hr1 hx1 hF1 hnc1 hc1
  have hfw2 := Lib.hid (fun w' (hb : Below w.heap.size w w') => few_any l2 n2 c2 A2 w' hl2 (hr2.below hb) hx2 hnc2 hc2)
  have hR2 := Lib.hid (few_rd hr2)
  have hle2 := (fewM_le l2).1
  generalize fewM l2 = L2 at *
  obtain ⟨F2, hF2⟩ : ∃ F, L2.length = F := ⟨_, rfl⟩
  rw [hF2] at hfw2 hle2
  have HF2 := Lib.hid hF2
  clear hl2 hr2 hx2 hF2 hnc2 hc2
  obtain ⟨m, hm⟩ : ∃ m, min n3 3000 = m := ⟨_, rfl⟩
  have hmI : min (n3 : Int) 3000 = (m : Int) := by omega
  have hm3 : m ≤ 3000 := by omega
  have hmn : m ≤ n3 := by omega
  have hm0 : (0 : Int) ≤ (m : Int) := by omega
  have hmc : (m : Int) ≤ (c3 : Int) := by omega
  have hmcN : m ≤ c3 := by omega
  have HX := Lib.hid (rdTake8 hrb m)
  have Hxl : Hid ((b.take m).length = m) := by show _ = _; rw [List.length_take, hb]; omega
  generalize b.take m = X at *
  have hput := Lib.hid (fun v hv => dput_any L1 F1 c1 A1 v HF1.out (hR1.out.below hv) (by omega))
  have hput' := Lib.hid (fun v hv => drput_any L1 F1 c1 A1 v HF1.out (hR1.out.below hv) (by omega))
  have htak := Lib.hid (fun v hv => dtake_any X m c3 A3 v Hxl.out (HX.out.below hv) (by omega) hmcN hc3)
  have htak' := Lib.hid (fun v hv => drtake_any X m c3 A3 v Hxl.out (HX.out.below hv) (by omega) hmcN hc3)
  have htrn := Lib.hid (fun v hv => dturn_any L1 L2 F1 F2 c1 c2 A1 A2 v HF1.out (hR1.out.below hv) (by omega) HF2.out (hR2.out.below hv) (by omega))
  have htrn' := Lib.hid (fun v hv => drturn_any L1 L2 F1 F2 c1 c2 A1 A2 v HF1.out (hR1.out.below hv) (by omega) HF2.out (hR2.out.below hv) (by omega))
  have htl := takeM_len (b := X)
  have hul := turnM_len (f := L1) (t := L2)
  rw [HF1.out] at hul
  have hputu := Lib.hid (fun v hv => (hput.out v hv).mono (fun e w' h => PutOK.uni h))
  have hputu' := Lib.hid (fun v hv => (hput'.out v hv).mono (fun e w' h => PutOK.uni h))
  have htaku := Lib.hid (fun v hv => (htak.out v hv).mono (fun e w' h => TakeOK.uni h))
  have htaku' := Lib.hid (fun v hv => (htak'.out v hv).mono (fun e w' h => TakeOK.uni h))
  have htrnu := Lib.hid (fun v hv => (htrn.out v hv).mono (fun e w' h => TurnOK.uni h))
  have htrnu' := Lib.hid (fun v hv => (htrn'.out v hv).mono (fun e w' h => TurnOK.uni h))
  clear hb hrb hm hnc3 hput hput' htak htak' htrn htrn'
  generalize (putM L1).getD [] = PB at *
  generalize (if (putM L1).isSome = true then (0 : Int) else 1) = PE at *
  generalize ((takeM X).getD ([], [])).1 = TW at *
  generalize ((takeM X).getD ([], [])).2 = TR at *
  generalize (if (takeM X).isSome = true then (0 : Int) else 6) = TE at *
  generalize (turnM L1 L2).getD [] = UP at *
  generalize (if (turnM L1 L2).isSome = true then (0 : Int) else 1) = UE at *
  obtain ⟨PL, hPL⟩ : ∃ PL, PB.length = PL := ⟨_, rfl⟩
  obtain ⟨TL, hTL⟩ : ∃ TL, TW.length = TL := ⟨_, rfl⟩
  obtain ⟨RL, hRL⟩ : ∃ RL, TR.length = RL := ⟨_, rfl⟩
  obtain ⟨UL, hUL⟩ : ∃ UL, UP.length = UL := ⟨_, rfl⟩
  simp only [hPL] at hputu hputu'
  simp only [hTL, hRL] at htaku htaku'
  simp only [hUL] at htrnu htrnu'
  rw [hTL] at htl
  rw [hUL] at hul
  have HPL := Lib.hid hPL
  have HTL := Lib.hid hTL
  have HRL := Lib.hid hRL
  have HUL := Lib.hid hUL
  have g1 : (PE == PE) = true := by simp
  have g2 : (TE == TE) = true := by simp
  have g3 : (UE == UE) = true := by simp
  have hp1 := St8_cmp PB PB
  have hp2 := St8_cmp TR TR
  rw [decide_eq_true rfl] at hp1 hp2
  clear hPL hTL hRL hUL
  go_enter Try.func8, Try.ntmps8
  go_wp2_with fail
  refine hsh.out.mono ?_
  rintro e v1 ⟨rfl, hb1⟩
  have Hb1 := Lib.hid hb1
  clear hb1 hsh
  go_wp2_with fail
  refine (hfw1.out v1 Hb1.out).mono ?_
  rintro e u1 ⟨rfl, rfl⟩
  go_wp2_with fail
  refine (hfw2.out v1 Hb1.out).mono ?_
  rintro e u1 ⟨rfl, rfl⟩
  clear hfw1 hfw2
  go_wp2_with fail
  refine (hputu.out v1 Hb1.out).mono ?_
  rintro e v2 ⟨⟨P1, q1, rfl, rp1⟩, hb2⟩
  have Hb2 := Lib.hid (Hb1.out.trans (hb2.mono Hb1.out.size))
  have Hrp1 := Lib.hid rp1
  clear hb2 rp1 hputu
  go_wp2_with fail
  refine (hputu'.out v2 Hb2.out).mono ?_
  rintro e v3 ⟨⟨P2, q2, rfl, rp2⟩, hb2⟩
  have Hb3 := Lib.hid (Hb2.out.trans (hb2.mono Hb2.out.size))
  replace Hrp1 := Lib.hid (Hrp1.out.below hb2)
  have Hrp2 := Lib.hid rp2
  clear hb2 rp2 hputu'
  go_wp2_with fail
  refine (htaku.out v3 Hb3.out).mono ?_
  rintro e v4 ⟨⟨T1, t1, S1, s1, rfl, rt1, rs1⟩, hb2⟩
  have Hb4 := Lib.hid (Hb3.out.trans (hb2.mono Hb3.out.size))
  replace Hrp1 := Lib.hid (Hrp1.out.below hb2)
  replace Hrp2 := Lib.hid (Hrp2.out.below hb2)
  have Hrt1 := Lib.hid rt1
  have Hrs1 := Lib.hid rs1
  clear hb2 rt1 rs1 htaku
  go_wp2_with fail
  refine (htaku'.out v4 Hb4.out).mono ?_
  rintro e v5 ⟨⟨T2, t2, S2, s2, rfl, rt2, rs2⟩, hb2⟩
  have Hb5 := Lib.hid (Hb4.out.trans (hb2.mono Hb4.out.size))
  replace Hrp1 := Lib.hid (Hrp1.out.below hb2)
  replace Hrp2 := Lib.hid (Hrp2.out.below hb2)
  replace Hrt1 := Lib.hid (Hrt1.out.below hb2)
  replace Hrs1 := Lib.hid (Hrs1.out.below hb2)
  have Hrt2 := Lib.hid rt2
  have Hrs2 := Lib.hid rs2
  clear hb2 rt2 rs2 htaku'
  go_wp2_with fail
  refine (htrnu.out v5 Hb5.out).mono ?_
  rintro e v6 ⟨⟨U1, x1, rfl, ru1⟩, hb2⟩
  have Hb6 := Lib.hid (Hb5.out.trans (hb2.mono Hb5.out.size))
  replace Hrp1 := Lib.hid (Hrp1.out.below hb2)
  replace Hrp2 := Lib.hid (Hrp2.out.below hb2)
  replace Hrt1 := Lib.hid (Hrt1.out.below hb2)
  replace Hrs1 := Lib.hid (Hrs1.out.below hb2)
  replace Hrt2 := Lib.hid (Hrt2.out.below hb2)
  replace Hrs2 := Lib.hid (Hrs2.out.below hb2)
  have Hru1 := Lib.hid ru1
  clear hb2 ru1 htrnu
  go_wp2_with fail
  refine (htrnu'.out v6 Hb6.out).mono ?_
  rintro e v7 ⟨⟨U2, x2, rfl, ru2⟩, hb2⟩
  have Hb7 := Lib.hid (Hb6.out.trans (hb2.mono Hb6.out.size))
  replace Hrp1 := Lib.hid (Hrp1.out.below hb2)
  replace Hrp2 := Lib.hid (Hrp2.out.below hb2)
  replace Hrt1 := Lib.hid (Hrt1.out.below hb2)
  replace Hrs1 := Lib.hid (Hrs1.out.below hb2)
  replace Hrt2 := Lib.hid (Hrt2.out.below hb2)
  replace Hrs2 := Lib.hid (Hrs2.out.below hb2)
  replace Hru1 := Lib.hid (Hru1.out.below hb2)
  have Hru2 := Lib.hid ru2
  clear hb2 ru2 htrnu'
  have hcv1 := run_str v7 P1 PB PL q1 HPL.out Hrp1.out
  have hcv2 := run_str v7 P2 PB PL q2 HPL.out Hrp2.out
  go_wp2_with fail
  clear hcv1 hcv2
  refine (same_eq TW TL T1 T2 t1 t2 v7 HTL.out Hrt1.out Hrt2.out (by omega)).mono ?_
  rintro e v8 ⟨rfl, hb2⟩
  have Hb8 := Lib.hid (Hb7.out.trans (hb2.mono Hb7.out.size))
  replace Hru1 := Lib.hid (Hru1.out.below hb2)
  replace Hru2 := Lib.hid (Hru2.out.below hb2)
  have hcv1 := run_str v8 S1 TR RL s1 HRL.out (Hrs1.out.below hb2)
  have hcv2 := run_str v8 S2 TR RL s2 HRL.out (Hrs2.out.below hb2)
  clear hb2
  go_wp2_with fail
  refine (ints_same UP UL U1 U2 x1 x2 v8 HUL.out Hru1.out Hru2.out (by omega)).mono ?_
  rintro e v9 ⟨rfl, hb2⟩
  have Hb9 := Lib.hid (Hb8.out.trans (hb2.mono Hb8.out.size))
  clear hb2 hcv1 hcv2
  go_wp2_with fail
  go_ret
  exact ⟨rfl, Hb9.out⟩
end Go.Proofs.Ytphoccjeakdkeaa
