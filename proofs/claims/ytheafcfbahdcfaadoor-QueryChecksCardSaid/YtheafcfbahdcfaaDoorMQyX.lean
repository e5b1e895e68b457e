/- Walks: why a query may not be asked, and the kinds of what it tells: the program's. (Printed by gen_qyx.py.) -/
import Derived.Test.YtheafcfbahdcfaaDoorMGrW
import Derived.Test.YtheafcfbahdcfaaDoorMQyS
import Derived.Test.YtheafcfbahdcfaaDoorMAkR
namespace Go.Proofs.YtheafcfbahdcfaaDoor
set_option linter.unusedVariables false
set_option linter.unusedSimpArgs false
open Go.RowKit

attribute [local go_sem ↓] Go.wp_at_zero Go.wp_at_succ

theorem groupK_len (kinds by_ : List Int) (l : List Ag) : (groupK kinds by_ l).1.length ≤ by_.length + l.length := by
  unfold groupK
  split
  · exact Nat.zero_le _
  · split
    · exact Nat.zero_le _
    · split
      · exact Nat.zero_le _
      · split
        · exact Nat.zero_le _
        · rw [List.length_append, List.length_map, List.length_map]
          exact Nat.le_refl _
theorem toldM_len (kinds : List Int) (q : Qy) : (toldM kinds q).1.length ≤ q.by_.length + q.aggs.length + q.want.length := by
  unfold toldM
  split
  · split
    · exact Nat.zero_le _
    · have := groupK_len kinds q.by_ q.aggs
      omega
  · split
    · exact Nat.zero_le _
    · split
      · rw [List.length_map]
        exact Nat.le_add_left _ _
      · exact Nat.zero_le _

set_option maxHeartbeats 16000000 in
set_option maxRecDepth 100000 in
theorem qcheck_any (l : List Th) (L : Option Addr) (n c : Nat) (q : Qy) (a1 : Option Addr) (n1 c1 : Nat) (a2 : Option Addr) (n2 c2 : Nat) (a3 : Option Addr) (n3 c3 : Nat) (a4 : Option Addr) (n4 c4 : Nat) (a5 : Option Addr) (n5 c5 : Nat) (a6 : Option Addr) (n6 c6 : Nat) (w : World) (hl : l.length = n) (hL : Tin w L l) (hf : FewT (l.map Th.t)) (hq : Qi w q a1 n1 a2 n2 a3 n3 a4 n4 a5 n5 a6 n6) (hqf : q.Few) (hc3 : n3 ≤ c3 ∧ c3 ≤ maxLen) :
    Calls Tryd.prog 11 #[.slice L n c, .agg #[.string (St8 q.frm), .slice a1 n1 c1, .slice a2 n2 c2, .slice a3 n3 c3, .slice a4 n4 c4, .slice a5 n5 c5, .slice a6 n6 c6]] w fun e w' => (∃ A d, e = .returned (.tuple #[.slice A (checkM (l.map Th.t) q).1.length d, .int .i64 (checkM (l.map Th.t) q).2]) ∧ Own w' w.heap.size 5 1 A (checkM (l.map Th.t) q).1.length d (kcells (checkM (l.map Th.t) q).1)) ∧ Below w.heap.size w w' := by
  obtain ⟨lt, hlt⟩ : ∃ lt, lt = l.map Th.t := ⟨_, rfl⟩
  have Hjd := Lib.hid (fun w' (hw : Below w.heap.size w w') => joined_any l L n c q a1 n1 c1 a2 n2 c2 a3 n3 c3 a4 n4 c4 a5 n5 c5 a6 n6 c6 w' hl (hL.below hw) hf (hq.below hw) hqf)
  have Hkd := Lib.hid (fun w' (hw : Below w.heap.size w w') => kinds_any l L n c q a1 n1 c1 a2 n2 c2 a3 n3 c3 a4 n4 c4 a5 n5 c5 a6 n6 c6 w' hl (hL.below hw) hf (hq.below hw) hqf)
  rw [← hlt] at Hjd Hkd hf ⊢
  obtain ⟨P, hP⟩ : ∃ P, P = joinedP lt q := ⟨_, rfl⟩
  obtain ⟨E, hE⟩ : ∃ E, E = joinedE lt q := ⟨_, rfl⟩
  obtain ⟨ks, hks⟩ : ∃ ks, ks = ktabs lt q := ⟨_, rfl⟩
  have hksP : ks = P.map (tabK lt) := by rw [hks, hP]; rfl
  rw [← hP, ← hE, ← hksP] at Hjd
  rw [← hks, ← hE] at Hkd
  obtain ⟨R, hR⟩ : ∃ R, R = checkM lt q := ⟨_, rfl⟩
  rw [← hR]
  have hklP : ks.length = P.length := by rw [hksP, List.length_map]
  have hpn : P.length ≤ q.joins.length + 1 := by rw [hP]; exact joinedP_le lt q
  have hkfl : ks.flatten.length ≤ 160 := by
    have h1 := tabs_le hf.kinds P
    rw [← hksP] at h1
    have h2 := hqf.joins
    omega
  have HRa : Hid (¬ E = 0 → R = ([], E)) := Lib.hid fun h => by
    rw [hR]; unfold checkM
    rw [← hE, if_pos h]
  have Hkl : Hid (E = 0 → ks.length = n1 + 1) := Lib.hid fun h => by
    rw [hklP, hP, joinedP_len (by rw [← hE]; exact h), hq.l1]
  have HRb : Hid (E = 0 → R = checkK ks q) := Lib.hid fun h => by
    rw [hR]; unfold checkM
    rw [← hE, if_neg (fun h2 => h2 h), hks]
  obtain ⟨kn, hkn⟩ : ∃ kn, ks.flatten.length = kn := ⟨_, rfl⟩
  obtain ⟨pn, hpl⟩ : ∃ pn, P.length = pn := ⟨_, rfl⟩
  rw [hkn] at Hkd hkfl
  rw [hpl] at Hjd hklP
  have Hjo := Lib.hid (fun (h : ks.length = n1 + 1) K kc F fc w' (hw : Below w.heap.size w w') (hK : Rd w' K (kcells ks.flatten)) (hF : Rd w' F (icl (ints (offs 0 ks)))) (hfc : pn ≤ fc ∧ fc ≤ maxLen) => joins_any ks K kn kc F pn fc q a1 n1 c1 a2 n2 c2 a3 n3 c3 a4 n4 c4 a5 n5 c5 a6 n6 c6 w' h hkn (by omega) hK hklP hF hfc (hq.below hw) hqf)
  have Har := Lib.hid (fun K kc w' (hw : Below w.heap.size w w') (hK : Rd w' K (kcells ks.flatten)) => aright_any ks.flatten K kn kc q.asked a2 n2 c2 w' hK hkn (fun x hx => by have := hqf.texts x hx; omega) hq.l2 (hq.below hw).r2 (by have := hqf.asked; rw [hq.l2] at this; omega))
  have Htd := Lib.hid (fun K kc w' (hw : Below w.heap.size w w') (hK : Rd w' K (kcells ks.flatten)) => told_any ks.flatten K kn kc q a1 n1 c1 a2 n2 c2 a3 n3 c3 a4 n4 c4 a5 n5 c5 a6 n6 c6 w' hkn hK (by omega) (hq.below hw) hqf hc3)
  obtain ⟨J, hJ⟩ : ∃ J, J = joinsM ks q := ⟨_, rfl⟩
  obtain ⟨G, hG⟩ : ∃ G, G = toldM ks.flatten q := ⟨_, rfl⟩
  have hgl : G.1.length ≤ 40 := by
    rw [hG]
    have h1 := toldM_len ks.flatten q
    have h2 := hqf.by_
    have h3 := hqf.aggs
    have h4 := hqf.want
    omega
  obtain ⟨O, hO⟩ : ∃ O, O = orderE G.1.length q.keys := ⟨_, rfl⟩
  have Hor := Lib.hid (fun w' (hw : Below w.heap.size w w') => oright_any G.1.length q.keys a6 n6 c6 w' hq.l6 (hq.below hw).r6 (by omega) (by have := hqf.keys; rw [hq.l6] at this; omega))
  rw [← hJ] at Hjo
  rw [← hG] at Htd
  rw [← hO] at Hor
  have HRc : Hid (R = checkK ks q → ¬ J = 0 → R = ([], J)) := Lib.hid fun h h2 => by
    rw [h]; unfold checkK
    rw [← hJ, if_pos h2]
  have HRd : Hid (R = checkK ks q → J = 0 → ¬ rightN ks.flatten q.asked = true → R = ([], 140)) := Lib.hid fun h h2 h3 => by
    rw [h]; unfold checkK
    rw [← hJ, if_neg (fun h9 => h9 h2), if_pos (Bool.eq_false_iff.2 h3)]
  have HRe : Hid (R = checkK ks q → J = 0 → rightN ks.flatten q.asked = true → ¬ G.2 = 0 → R = ([], G.2)) := Lib.hid fun h h2 h3 h4 => by
    rw [h]; unfold checkK
    rw [← hJ, ← hG, if_neg (fun h9 => h9 h2), if_neg (by rw [h3]; decide), if_pos h4]
  have HRf : Hid (R = checkK ks q → J = 0 → rightN ks.flatten q.asked = true → G.2 = 0 → ¬ O = 0 → R = ([], O)) := Lib.hid fun h h2 h3 h4 h5 => by
    rw [h]; unfold checkK
    rw [← hJ, ← hG, ← hO, if_neg (fun h9 => h9 h2), if_neg (by rw [h3]; decide), if_neg (fun h9 => h9 h4), if_pos h5]
  have HRg : Hid (R = checkK ks q → J = 0 → rightN ks.flatten q.asked = true → G.2 = 0 → O = 0 → R = (G.1, 0)) := Lib.hid fun h h2 h3 h4 h5 => by
    rw [h]; unfold checkK
    rw [← hJ, ← hG, ← hO, if_neg (fun h9 => h9 h2), if_neg (by rw [h3]; decide), if_neg (fun h9 => h9 h4), if_neg (fun h9 => h9 h5)]
  obtain ⟨wb, hwb⟩ : ∃ x, x = w.alloc (.cells #[.string (St8 q.frm), .slice a1 n1 c1, .slice a2 n2 c2, .slice a3 n3 c3, .slice a4 n4 c4, .slice a5 n5 c5, .slice a6 n6 c6] 29) := ⟨_, rfl⟩
  have Hbb : Hid (Below w.heap.size w wb) := by
    show Below _ _ _
    rw [hwb]
    exact (Below.refl _ _).alloc (Nat.le_refl _) _
  have hbx : Blk wb w.heap.size 29 (#[.string (St8 q.frm), .slice a1 n1 c1, .slice a2 n2 c2, .slice a3 n3 c3, .slice a4 n4 c4, .slice a5 n5 c5, .slice a6 n6 c6]).toList := by
    rw [hwb]
    exact Blk.new w _ _
  have Hce := Lib.hid (fun w' (hw : Below wb.heap.size wb w') => (⟨(hbx.below hw).cell 0, (hbx.below hw).cell 1, (hbx.below hw).cell 2, (hbx.below hw).cell 3, (hbx.below hw).cell 4, (hbx.below hw).cell 5, (hbx.below hw).cell 6⟩ : w'.cell? ⟨w.heap.size, 0, none⟩ = some (.string (St8 q.frm)) ∧ w'.cell? ⟨w.heap.size, 1, none⟩ = some (.slice a1 n1 c1) ∧ w'.cell? ⟨w.heap.size, 2, none⟩ = some (.slice a2 n2 c2) ∧ w'.cell? ⟨w.heap.size, 3, none⟩ = some (.slice a3 n3 c3) ∧ w'.cell? ⟨w.heap.size, 4, none⟩ = some (.slice a4 n4 c4) ∧ w'.cell? ⟨w.heap.size, 5, none⟩ = some (.slice a5 n5 c5) ∧ w'.cell? ⟨w.heap.size, 6, none⟩ = some (.slice a6 n6 c6)))
  have HksP := Lib.hid hksP
  have hpm : pn ≤ 200 := by
    have h2 := hqf.joins
    omega
  clear hlt hl hL hf hq hqf hP hE hks hksP hR hklP hpn hkn hpl hJ hG hO hbx hc3
  go_enter Tryd.func11, Tryd.ntmps11
  go_wp2_with fail
  rw [← hwb]
  refine (Hjd.out wb Hbb.out).mono ?_
  rintro e w1 ⟨⟨A, F, d, fc, rfl, -, hoF⟩, hb1⟩
  have Hw1 := Lib.hid hb1
  have Hb1 := Lib.hid (Hbb.out.trans (hb1.mono Hbb.out.size))
  have HoF := Lib.hid hoF
  clear Hjd hb1 hwb hoF
  by_cases hE : E = 0
  · have Hk1 := Lib.hid (Hkl.out hE)
    have HR1 := Lib.hid (HRb.out hE)
    subst hE
    clear Hkl HRb HRa
    obtain ⟨k0, k1, k2, k3, k4, k5, k6⟩ := Hce.out w1 Hw1.out
    go_wp2_with fail
    refine (Hkd.out w1 Hb1.out).mono ?_
    rintro e w2 ⟨⟨K, kc, rfl, hoK⟩, hb2⟩
    have Hw2 := Lib.hid (Hw1.out.trans (hb2.mono Hw1.out.size))
    have Hb2 := Lib.hid (Hb1.out.trans (hb2.mono Hb1.out.size))
    have HoF2 := Lib.hid (HoF.out.below hb2)
    have HoK := Lib.hid hoK
    clear Hkd hb2 hoK k0 k1 k2 k3 k4 k5 k6
    obtain ⟨k0, k1, k2, k3, k4, k5, k6⟩ := Hce.out w2 Hw2.out
    have Hjo2 := Lib.hid (Hjo.out Hk1.out K kc F fc w2 Hb2.out HoK.out.rd HoF2.out.rd HoF2.out.cap)
    clear Hjo
    go_wp2_with fail
    refine Hjo2.out.mono ?_
    rintro e w3 ⟨rfl, hb3⟩
    have Hw3 := Lib.hid (Hw2.out.trans (hb3.mono Hw2.out.size))
    have Hb3 := Lib.hid (Hb2.out.trans (hb3.mono Hb2.out.size))
    have HK3 := Lib.hid (HoK.out.rd.below hb3)
    clear hb3 Hjo2 k0 k1 k2 k3 k4 k5 k6
    by_cases hJ : J = 0
    · have HRd2 := Lib.hid (HRd.out HR1.out hJ)
      have HRe2 := Lib.hid (HRe.out HR1.out hJ)
      have HRf2 := Lib.hid (HRf.out HR1.out hJ)
      have HRg2 := Lib.hid (HRg.out HR1.out hJ)
      subst hJ
      clear HRc HRd HRe HRf HRg
      obtain ⟨k0, k1, k2, k3, k4, k5, k6⟩ := Hce.out w3 Hw3.out
      have har := Har.out K kc w3 Hb3.out HK3.out
      clear Har
      by_cases hrn : rightN ks.flatten q.asked = true
      · rw [if_pos hrn] at har
        have Har2 := Lib.hid har
        have HRe3 := Lib.hid (HRe2.out hrn)
        have HRf3 := Lib.hid (HRf2.out hrn)
        have HRg3 := Lib.hid (HRg2.out hrn)
        clear HRd2 HRe2 HRf2 HRg2 har hrn
        go_wp2_with fail
        refine Har2.out.mono ?_
        rintro e w4 ⟨rfl, hb4⟩
        have Hw4 := Lib.hid (Hw3.out.trans (hb4.mono Hw3.out.size))
        have Hb4 := Lib.hid (Hb3.out.trans (hb4.mono Hb3.out.size))
        have HK4 := Lib.hid (HK3.out.below hb4)
        clear hb4 Har2 k0 k1 k2 k3 k4 k5 k6
        obtain ⟨k0, k1, k2, k3, k4, k5, k6⟩ := Hce.out w4 Hw4.out
        obtain ⟨gl, ge⟩ := G
        dsimp only at Htd Hor HRe3 HRf3 HRg3 hgl
        obtain ⟨gn, hgn⟩ : ∃ gn, gl.length = gn := ⟨_, rfl⟩
        rw [hgn] at Htd Hor hgl
        have Hgn := Lib.hid hgn
        clear hgn
        go_wp2_with fail
        refine (Htd.out K kc w4 Hb4.out HK4.out).mono ?_
        rintro e w5 ⟨⟨B, d5, rfl, hoB⟩, hb5⟩
        have Hw5 := Lib.hid (Hw4.out.trans (hb5.mono Hw4.out.size))
        have Hb5 := Lib.hid (Hb4.out.trans (hb5.mono Hb4.out.size))
        have HoB := Lib.hid hoB
        clear hb5 hoB Htd k0 k1 k2 k3 k4 k5 k6
        by_cases hge : ge = 0
        · have HRf4 := Lib.hid (HRf3.out hge)
          have HRg4 := Lib.hid (HRg3.out hge)
          subst hge
          clear HRe3 HRf3 HRg3
          obtain ⟨k0, k1, k2, k3, k4, k5, k6⟩ := Hce.out w5 Hw5.out
          go_wp2_with fail
          refine (Hor.out w5 Hb5.out).mono ?_
          rintro e w6 ⟨rfl, hb6⟩
          have Hb6 := Lib.hid (Hb5.out.trans (hb6.mono Hb5.out.size))
          have HoB6 := Lib.hid ((HoB.out.below hb6).lower Hb4.out.size)
          clear hb6 Hor k0 k1 k2 k3 k4 k5 k6
          by_cases hO : O = 0
          · have HR2 := Lib.hid (HRg4.out hO)
            subst hO
            clear HRf4 HRg4
            go_wp2_with fail
            go_ret2
            exact ⟨⟨B, d5, by rw [HR2.out]; show Ending.returned (.tuple #[.slice B _ d5, _]) = Ending.returned (.tuple #[.slice B gl.length d5, _]); rw [Hgn.out]; rfl, by rw [HR2.out]; show Own _ _ _ _ _ gl.length _ _; rw [Hgn.out]; exact HoB6.out⟩, Hb6.out⟩
          · have HR2 := Lib.hid (HRf4.out hO)
            have e1 : (O == 0) = false := by rw [beq_eq_false_iff_ne]; exact hO
            have e2 : (O != 0) = true := by simpa using hO
            clear HRf4 HRg4
            go_wp2_with fail
            go_ret2
            exact ⟨⟨none, 0, by rw [HR2.out]; rfl, by rw [HR2.out]; exact Own.nil _ _ _ _⟩, Hb6.out⟩
        · have HR2 := Lib.hid (HRe3.out hge)
          have e1 : (ge == 0) = false := by rw [beq_eq_false_iff_ne]; exact hge
          have e2 : (ge != 0) = true := by simpa using hge
          clear HRe3 HRf3 HRg3
          go_wp2_with fail
          go_ret2
          exact ⟨⟨none, 0, by rw [HR2.out]; rfl, by rw [HR2.out]; exact Own.nil _ _ _ _⟩, Hb5.out⟩
      · rw [if_neg hrn] at har
        have Har2 := Lib.hid har
        have HR2 := Lib.hid (HRd2.out hrn)
        clear HRd2 HRe2 HRf2 HRg2 har hrn
        go_wp2_with fail
        refine Har2.out.mono ?_
        rintro e w4 ⟨rfl, hb4⟩
        have Hb4 := Lib.hid (Hb3.out.trans (hb4.mono Hb3.out.size))
        go_wp2_with fail
        go_ret2
        exact ⟨⟨none, 0, by rw [HR2.out]; rfl, by rw [HR2.out]; exact Own.nil _ _ _ _⟩, Hb4.out⟩
    · have HR2 := Lib.hid (HRc.out HR1.out hJ)
      have e1 : (J == 0) = false := by rw [beq_eq_false_iff_ne]; exact hJ
      have e2 : (J != 0) = true := by simpa using hJ
      clear HRc HRd HRe HRf HRg
      go_wp2_with fail
      go_ret2
      exact ⟨⟨none, 0, by rw [HR2.out]; rfl, by rw [HR2.out]; exact Own.nil _ _ _ _⟩, Hb3.out⟩
  · have HR2 := Lib.hid (HRa.out hE)
    have e1 : (E == 0) = false := by rw [beq_eq_false_iff_ne]; exact hE
    have e2 : (E != 0) = true := by simpa using hE
    clear HRa HRb HRc HRd HRe HRf HRg
    go_wp2_with fail
    go_ret2
    exact ⟨⟨none, 0, by rw [HR2.out]; rfl, by rw [HR2.out]; exact Own.nil _ _ _ _⟩, Hb1.out⟩
end Go.Proofs.YtheafcfbahdcfaaDoor
