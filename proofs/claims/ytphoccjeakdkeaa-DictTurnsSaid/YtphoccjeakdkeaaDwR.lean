/- The walk of DictTurns. -/
import Derived.Test.YtphoccjeakdkeaaDwN
namespace Go.Proofs.Ytphoccjeakdkeaa
open Go.RowKit

attribute [local go_sem ↓] Go.wp_at_zero Go.wp_at_succ

/-- What Of tells, both ways in one. -/
theorem OfOK.uni {l : List (List UInt8)} {w w' : World} {e : Ending} (h : OfOK l w e w') :
    (∃ (W : List (List UInt8)) (p : List Int) (A : Option Addr) (c : Nat) (A2 : Option Addr) (c2 : Nat) (E : Int), e = .returned (.tuple #[.slice A W.length c, .slice A2 p.length c2, .int .i64 E]) ∧ Rd w' A (wcl W) ∧ ((E = 3 ∧ ofM l = Option.none) ∨ (E = 0 ∧ ofM l = Option.some (W, p)))) ∧ Below w.heap.size w w' := by
  obtain ⟨h1, hb⟩ := h
  refine ⟨?_, hb⟩
  rcases h1 with ⟨h1, h2⟩ | ⟨W', p', A, c, A2, c2, h1, h2, h3, h4⟩
  · exact ⟨[], [], Option.none, 0, Option.none, 0, 3, h2, Rd.nil _ _, .inl ⟨rfl, h1⟩⟩
  · exact ⟨W', p', A, c, A2, c2, 0, h2, h3, .inr ⟨rfl, h1⟩⟩
theorem TurnOK.some {f t : List (List UInt8)} {w w' : World} {e : Ending} (h : TurnOK f t w e w') (hf : rightW f = true) (ht : rightW t = true) :
    (∃ A c, e = .returned (.tuple #[.slice A f.length c, .int .i64 0]) ∧ Rd w' A (icl (f.map (placeM t)))) ∧ Below w.heap.size w w' := by
  have hb : turnM f t = Option.some (f.map (placeM t)) := by unfold turnM; rw [if_pos ⟨hf, ht⟩]
  obtain ⟨h1, hb'⟩ := h
  refine ⟨?_, hb'⟩
  rcases h1 with ⟨h1, _⟩ | ⟨p, A, c, h1, h2, h3⟩
  · rw [hb] at h1; cases h1
  · rw [hb] at h1
    cases h1
    rw [List.length_map] at h2
    exact ⟨A, c, h2, h3⟩

set_option maxHeartbeats 16000000 in
set_option maxRecDepth 100000 in
theorem dictturns_walk (l1 l2 l3 : List (List UInt8)) (n1 n2 n3 c1 c2 c3 : Nat) (A1 A2 A3 : Option Addr) (w : World)
    (hl1 : l1.length = n1) (hr1 : Rd w A1 (wcl l1)) (hx1 : ∀ x ∈ l1, x.length ≤ 9223372036854775807) (hnc1 : n1 ≤ c1) (hc1 : c1 ≤ 9223372036854775807)
    (hl2 : l2.length = n2) (hr2 : Rd w A2 (wcl l2)) (hx2 : ∀ x ∈ l2, x.length ≤ 9223372036854775807) (hnc2 : n2 ≤ c2) (hc2 : c2 ≤ 9223372036854775807)
    (hl3 : l3.length = n3) (hr3 : Rd w A3 (wcl l3)) (hx3 : ∀ x ∈ l3, x.length ≤ 9223372036854775807) (hnc3 : n3 ≤ c3) (hc3 : c3 ≤ 9223372036854775807) :
    Calls Try.prog 6 #[.slice A1 n1 c1, .slice A2 n2 c2, .slice A3 n3 c3] w fun e w' => e = .returned (.bool true) ∧ Below w.heap.size w w' := by
  have hsh := Lib.hid (shown_any w)
  have hfw1 := Lib.hid (fun w' (hb : Below w.heap.size w w') => few_any l1 n1 c1 A1 w' hl1 (hr1.below hb) hx1 hnc1 hc1)
  have hR1 := Lib.hid (few_rd hr1)
  have hle1 := (fewM_le l1).1
  generalize fewM l1 = L1 at *
  obtain ⟨F1, hF1⟩ : ∃ F, L1.length = F := ⟨_, rfl⟩
  rw [hF1] at hfw1 hle1
  have HF1 := Lib.hid hF1
  clear hl1 hr1 hx1 hF1 hnc1 hc1
  have hfw2 := Lib.hid (fun w' (hb : Below w.heap.size w w') => few_any l2 n2 c2 A2 w' hl2 (hr2.below hb) hx2 hnc2 hc2)
  have hR2 := Lib.hid (few_rd hr2)
  have hle2 := (fewM_le l2).1
  generalize fewM l2 = L2 at *
  obtain ⟨F2, hF2⟩ : ∃ F, L2.length = F := ⟨_, rfl⟩
  rw [hF2] at hfw2 hle2
  have HF2 := Lib.hid hF2
  clear hl2 hr2 hx2 hF2 hnc2 hc2
  have hfw3 := Lib.hid (fun w' (hb : Below w.heap.size w w') => few_any l3 n3 c3 A3 w' hl3 (hr3.below hb) hx3 hnc3 hc3)
  have hR3 := Lib.hid (few_rd hr3)
  have hle3 := (fewM_le l3).1
  generalize fewM l3 = L3 at *
  obtain ⟨F3, hF3⟩ : ∃ F, L3.length = F := ⟨_, rfl⟩
  rw [hF3] at hfw3 hle3
  have HF3 := Lib.hid hF3
  clear hl3 hr3 hx3 hF3 hnc3 hc3
  go_enter Try.func6, Try.ntmps6
  go_wp2_with fail
  refine hsh.out.mono ?_
  rintro e v1 ⟨rfl, hb1⟩
  have Hb0 := Lib.hid hb1
  clear hb1 hsh
  go_wp2_with fail
  refine (hfw1.out v1 Hb0.out).mono ?_
  rintro e u1 ⟨rfl, rfl⟩
  go_wp2_with fail
  refine (dof_any L1 F1 c1 A1 _ HF1.out (hR1.out.below Hb0.out) (by omega)).mono ?_
  intro e v2 h1
  obtain ⟨⟨W1, p1, B1, d1, B1', d1', E1, rfl, hW1, hE1⟩, hb1⟩ := h1.uni
  have HW1 := Lib.hid hW1
  have Hs1 := Lib.hid hb1
  have Hb1 := Lib.hid (Hb0.out.trans (hb1.mono Hb0.out.size))
  have HE1 := Lib.hid hE1
  generalize hp1 : p1.length = P1 at *
  obtain ⟨K1, hK1⟩ : ∃ K, W1.length = K := ⟨_, rfl⟩
  rw [hK1]
  have HK1 := Lib.hid hK1
  clear h1 hW1 hb1 hE1 hp1 hK1 hfw1
  rcases HE1.out with ⟨rfl, _⟩ | ⟨rfl, ho1⟩
  · go_wp2_with fail
    refine (hfw2.out v2 Hb1.out).mono ?_
    rintro e u2 ⟨rfl, rfl⟩
    go_wp2_with fail
    refine (dof_any L2 F2 c2 A2 _ HF2.out (hR2.out.below Hb1.out) (by omega)).mono ?_
    intro e v3 h2
    obtain ⟨⟨W2, p2, B2, d2, B2', d2', E2, rfl, hW2, hE2⟩, hb2⟩ := h2.uni
    have HW2 := Lib.hid hW2
    have Hs2 := Lib.hid hb2
    have Hb2 := Lib.hid (Hb1.out.trans (hb2.mono Hb1.out.size))
    have HE2 := Lib.hid hE2
    generalize hp2 : p2.length = P2 at *
    obtain ⟨K2, hK2⟩ : ∃ K, W2.length = K := ⟨_, rfl⟩
    rw [hK2]
    have HK2 := Lib.hid hK2
    clear h2 hW2 hb2 hE2 hp2 hK2 hfw2
    go_wp2_with fail
    refine (hfw3.out v3 Hb2.out).mono ?_
    rintro e u3 ⟨rfl, rfl⟩
    go_wp2_with fail
    refine (dof_any L3 F3 c3 A3 _ HF3.out (hR3.out.below Hb2.out) (by omega)).mono ?_
    intro e v4 h3
    obtain ⟨⟨W3, p3, B3, d3, B3', d3', E3, rfl, hW3, hE3⟩, hb3⟩ := h3.uni
    have HW3 := Lib.hid hW3
    have Hs3 := Lib.hid hb3
    have Hb3 := Lib.hid (Hb2.out.trans (hb3.mono Hb2.out.size))
    have HE3 := Lib.hid hE3
    generalize hp3 : p3.length = P3 at *
    obtain ⟨K3, hK3⟩ : ∃ K, W3.length = K := ⟨_, rfl⟩
    rw [hK3]
    have HK3 := Lib.hid hK3
    clear h3 hW3 hb3 hE3 hp3 hK3 hfw3
    go_wp2_with fail
    go_ret
    exact ⟨rfl, Hb3.out⟩
  · have Ho1 := Lib.hid ho1
    clear ho1
    go_wp2_with fail
    refine (hfw2.out v2 Hb1.out).mono ?_
    rintro e u2 ⟨rfl, rfl⟩
    go_wp2_with fail
    refine (dof_any L2 F2 c2 A2 _ HF2.out (hR2.out.below Hb1.out) (by omega)).mono ?_
    intro e v3 h2
    obtain ⟨⟨W2, p2, B2, d2, B2', d2', E2, rfl, hW2, hE2⟩, hb2⟩ := h2.uni
    have HW2 := Lib.hid hW2
    have Hs2 := Lib.hid hb2
    have Hb2 := Lib.hid (Hb1.out.trans (hb2.mono Hb1.out.size))
    have HE2 := Lib.hid hE2
    generalize hp2 : p2.length = P2 at *
    obtain ⟨K2, hK2⟩ : ∃ K, W2.length = K := ⟨_, rfl⟩
    rw [hK2]
    have HK2 := Lib.hid hK2
    clear h2 hW2 hb2 hE2 hp2 hK2 hfw2
    rcases HE2.out with ⟨rfl, _⟩ | ⟨rfl, ho2⟩
    · go_wp2_with fail
      refine (hfw3.out v3 Hb2.out).mono ?_
      rintro e u3 ⟨rfl, rfl⟩
      go_wp2_with fail
      refine (dof_any L3 F3 c3 A3 _ HF3.out (hR3.out.below Hb2.out) (by omega)).mono ?_
      intro e v4 h3
      obtain ⟨⟨W3, p3, B3, d3, B3', d3', E3, rfl, hW3, hE3⟩, hb3⟩ := h3.uni
      have HW3 := Lib.hid hW3
      have Hs3 := Lib.hid hb3
      have Hb3 := Lib.hid (Hb2.out.trans (hb3.mono Hb2.out.size))
      have HE3 := Lib.hid hE3
      generalize hp3 : p3.length = P3 at *
      obtain ⟨K3, hK3⟩ : ∃ K, W3.length = K := ⟨_, rfl⟩
      rw [hK3]
      have HK3 := Lib.hid hK3
      clear h3 hW3 hb3 hE3 hp3 hK3 hfw3
      go_wp2_with fail
      go_ret
      exact ⟨rfl, Hb3.out⟩
    · have Ho2 := Lib.hid ho2
      clear ho2
      go_wp2_with fail
      refine (hfw3.out v3 Hb2.out).mono ?_
      rintro e u3 ⟨rfl, rfl⟩
      go_wp2_with fail
      refine (dof_any L3 F3 c3 A3 _ HF3.out (hR3.out.below Hb2.out) (by omega)).mono ?_
      intro e v4 h3
      obtain ⟨⟨W3, p3, B3, d3, B3', d3', E3, rfl, hW3, hE3⟩, hb3⟩ := h3.uni
      have HW3 := Lib.hid hW3
      have Hs3 := Lib.hid hb3
      have Hb3 := Lib.hid (Hb2.out.trans (hb3.mono Hb2.out.size))
      have HE3 := Lib.hid hE3
      generalize hp3 : p3.length = P3 at *
      obtain ⟨K3, hK3⟩ : ∃ K, W3.length = K := ⟨_, rfl⟩
      rw [hK3]
      have HK3 := Lib.hid hK3
      clear h3 hW3 hb3 hE3 hp3 hK3 hfw3
      rcases HE3.out with ⟨rfl, _⟩ | ⟨rfl, ho3⟩
      · go_wp2_with fail
        go_ret
        exact ⟨rfl, Hb3.out⟩
      · have Ho3 := Lib.hid ho3
        clear ho3
        have hr1 := (ofM_right Ho1.out).1
        have hr2 := (ofM_right Ho2.out).1
        have hr3 := (ofM_right Ho3.out).1
        have hk1 : K1 ≤ 200 := by rw [← HK1.out]; exact (rightW_le hr1).2
        have hk2 : K2 ≤ 200 := by rw [← HK2.out]; exact (rightW_le hr2).2
        have hk3 : K3 ≤ 200 := by rw [← HK3.out]; exact (rightW_le hr3).2
        have hWa := (HW1.out.below Hs2.out).below Hs3.out
        have hWb := HW2.out.below Hs3.out
        have HWa := Lib.hid hWa
        have HWb := Lib.hid hWb
        have HWc := Lib.hid HW3.out
        have Hr1 := Lib.hid hr1
        have Hr2 := Lib.hid hr2
        have Hr3 := Lib.hid hr3
        clear hr1 hr2 hr3 hWa hWb HW1 HW2 HW3 Ho1 Ho2 Ho3 HE1 HE2 HE3 Hs1 Hs2 Hs3
        have n1 : ((K1 : Int) != (K1 : Int)) = false := by simp
        have n2 : ((K2 : Int) != (K2 : Int)) = false := by simp
        go_wp2_with fail
        refine (dturn_any W1 W2 K1 K2 d1 d2 B1 B2 v4 HK1.out HWa.out (by omega) HK2.out HWb.out (by omega)).mono ?_
        intro e v5 t1
        obtain ⟨⟨T1, e1, rfl, hT1⟩, hb5⟩ := t1.some Hr1.out Hr2.out
        rw [HK1.out]
        have HT1 := Lib.hid hT1
        have Hv5 := Lib.hid hb5
        clear t1 hT1 hb5
        go_wp2_with fail
        refine (dturn_any W2 W3 K2 K3 d2 d3 B2 B3 v5 HK2.out (HWb.out.below Hv5.out) (by omega) HK3.out (HWc.out.below Hv5.out) (by omega)).mono ?_
        intro e v6 t1
        obtain ⟨⟨T2, e2, rfl, hT2⟩, hb6⟩ := t1.some Hr2.out Hr3.out
        rw [HK2.out]
        have HT2 := Lib.hid hT2
        have HT1a := Lib.hid (HT1.out.below hb6)
        have Hv6 := Lib.hid (Hv5.out.trans (hb6.mono Hv5.out.size))
        clear t1 hT2 hb6 HT1
        go_wp2_with fail
        refine (dturn_any W1 W3 K1 K3 d1 d3 B1 B3 v6 HK1.out (HWa.out.below Hv6.out) (by omega) HK3.out (HWc.out.below Hv6.out) (by omega)).mono ?_
        intro e v7 t1
        obtain ⟨⟨T3, e3, rfl, hT3⟩, hb7⟩ := t1.some Hr1.out Hr3.out
        rw [HK1.out]
        have HT3 := Lib.hid hT3
        have HT1b := Lib.hid (HT1a.out.below hb7)
        have HT2b := Lib.hid (HT2.out.below hb7)
        have Hv7 := Lib.hid (Hv6.out.trans (hb7.mono Hv6.out.size))
        clear t1 hT3 hb7 HT1a HT2
        go_wp2_with fail
        refine (dturn_any W1 W1 K1 K1 d1 d1 B1 B1 v7 HK1.out (HWa.out.below Hv7.out) (by omega) HK1.out (HWa.out.below Hv7.out) (by omega)).mono ?_
        intro e v8 t1
        obtain ⟨⟨T4, e4, rfl, hT4⟩, hb8⟩ := t1.some Hr1.out Hr1.out
        rw [HK1.out]
        have HT4 := Lib.hid hT4
        have HT1c := Lib.hid (HT1b.out.below hb8)
        have HT2c := Lib.hid (HT2b.out.below hb8)
        have HT3c := Lib.hid (HT3.out.below hb8)
        have Hv8 := Lib.hid (Hv7.out.trans (hb8.mono Hv7.out.size))
        have HA8 := Lib.hid (HWa.out.below Hv8.out)
        have HB8 := Lib.hid (HWb.out.below Hv8.out)
        have Hw8 := Lib.hid (Hb3.out.trans (Hv8.out.mono Hb3.out.size))
        clear t1 hT4 hb8 HT1b HT2b HT3 HWa HWb HWc Hv5 Hv6 Hv7 Hv8
        go_wp2_with fail
        go_loopw [127] (fun vi wr => ∃ (j : Nat), vi = .int .i64 (j : Int) ∧ j ≤ K1 ∧ Hid (Below v8.heap.size v8 wr)) (fun vi _ => K1 - (intOf vi).toNat)
        case atStart => exact ⟨0, rfl, by omega, Below.refl _ _⟩
        case round =>
          obtain ⟨j, rfl, hj, Hb⟩ := hrel
          by_cases hjn : j < K1
          · have hja : j < W1.length := by rw [HK1.out]; exact hjn
            have hjI : (j : Int) < (K1 : Int) := by omega
            have hj0 : (0 : Int) ≤ (j : Int) := by omega
            have hA := HA8.out.below Hb.out
            have hB := HB8.out.below Hb.out
            have t1 := HT1c.out.below Hb.out
            have t2 := HT2c.out.below Hb.out
            have t3 := HT3c.out.below Hb.out
            have t4 := HT4.out.below Hb.out
            have hm1 : j < (W1.map (placeM W2)).length := by rw [List.length_map]; exact hja
            have hm3 : j < (W1.map (placeM W3)).length := by rw [List.length_map]; exact hja
            have hm4 : j < (W1.map (placeM W1)).length := by rw [List.length_map]; exact hja
            obtain ⟨ba, oa, rfl, ca⟩ := hA.word hja
            obtain ⟨b1, o1, rfl, q1⟩ := t1.num hm1
            obtain ⟨b3, o3, rfl, q3⟩ := t3.num hm3
            obtain ⟨b4, o4, rfl, q4⟩ := t4.num hm4
            have hself := turn_self Hr1.out hja
            rw [getD_of hja] at hself
            rw [List.getElem_map] at q1 q3 q4
            rw [hself] at q4
            have hlt := turn_lt Hr2.out W1[j]
            have hat := fun (h : 0 ≤ placeM W2 W1[j]) => turn_at Hr2.out h
            have hkin := placeM_kinds W2 W1[j]
            generalize W1[j] = x at *
            clear hA t1 t3 t4 hm1 hm3 hm4 hself hlt
            rcases hkin with hV | ⟨k, hV, hkb⟩
            · rw [hV] at q1
              have g2 : decide ((K2 : Int) ≤ -1) = false := decide_eq_false (by omega)
              clear hV hat hB t2 hja
              go_wp2_with fail
              go_quiet (fail)
              go_wp2_with fail
              go_roundw
              case rel => exact ⟨j + 1, by go_num, by omega, below_drewN' Hb.out _⟩
              case measure => simp only [intOf, Int.toNat_natCast]; omega
            · rw [hV] at q1
              have hk2' : k < K2 := by rw [← HK2.out]; exact hkb
              obtain ⟨_, hbx⟩ := hat (by omega)
              rw [hV, Int.toNat_natCast, getD_of hkb] at hbx
              obtain ⟨bb, ob, rfl, cb⟩ := hB.word hkb
              rw [hbx] at cb
              obtain ⟨b2, o2, rfl, q2⟩ := t2.num (j := k) (by rw [List.length_map]; exact hkb)
              rw [List.getElem_map, hbx] at q2
              generalize placeM W3 x = U at *
              have g2 : decide ((K2 : Int) ≤ (k : Int)) = false := decide_eq_false (by omega)
              have g3 : decide (K2 ≤ k) = false := decide_eq_false (by omega)
              have hkI : (k : Int) < (K2 : Int) := by omega
              have hk0 : (0 : Int) ≤ (k : Int) := by omega
              have gU : (U != U) = false := by simp
              clear hV hat hB t2 hja hbx hkb
              go_wp2_with fail
              go_quiet (fail)
              go_wp2_with fail
              go_roundw
              case rel => exact ⟨j + 1, by go_num, by omega, below_drewN' Hb.out _⟩
              case measure => simp only [intOf, Int.toNat_natCast]; omega
          · obtain rfl : j = K1 := by omega
            go_wp2_with fail
            go_ret
            exact ⟨rfl, Hw8.out.trans (Hb.out.mono Hw8.out.size)⟩
end Go.Proofs.Ytphoccjeakdkeaa
