/- The walk of AskAll: it returns true, and turns nothing that was there. -/
import Derived.Test.YtipnglidepfkbaaAkQ
import Derived.Test.YtipnglidepfkbaaAkY
namespace Go.Proofs.Ytipnglidepfkbaa
open Go.RowKit

attribute [local go_sem ↓] Go.wp_at_zero Go.wp_at_succ

set_option maxHeartbeats 8000000 in
set_option maxRecDepth 100000 in
theorem all_walk (kinds : List Int) (a b : List Nd) (r : RowM) (K A B X : Option Addr) (kn kc n c m d rn rc : Nat) (w : World) (hk : kinds.length = kn) (ha : a.length = n) (hb : b.length = m) (hr : r.length = rn) (hK : Rd w K (kcells kinds)) (hA : Rd w A (ncells a)) (hB : Rd w B (ncells b)) (hX : Rd w X (rcells r)) (hkc : kn ≤ 9223372036854775807) (hn : n ≤ 9223372036854775807) (hm : m ≤ 9223372036854775807) (hrn : rn ≤ 9223372036854775807) :
    Calls Try.prog 3 #[.slice K kn kc, .slice A n c, .slice B m d, .slice X rn rc] w fun e w' => e = .returned (.bool true) ∧ Below w.heap.size w w' := by
  have HK := Lib.hid hK
  have HA := Lib.hid hA
  have HB := Lib.hid hB
  have HX := Lib.hid hX
  have Hk := Lib.hid hk
  have Ha := Lib.hid ha
  have Hb := Lib.hid hb
  have Hr := Lib.hid hr
  clear hK hA hB hX hk ha hb hr
  go_enter Try.func3, Try.ntmps3
  go_wp2_with fail
  refine (shown_c w).mono ?_
  rintro e w1 ⟨rfl, hb1⟩
  have Hb1 := Lib.hid hb1
  clear hb1
  go_wp2_with fail
  refine (small_c a A n c w1 Ha.out (HA.out.below Hb1.out) hn).mono ?_
  rintro e w2 ⟨⟨b2, rfl, h2⟩, hb2⟩
  have Hb2 := Lib.hid (Hb1.out.trans (hb2.mono Hb1.out.size))
  have H2 := Lib.hid h2
  clear hb2 h2 Hb1
  cases b2
  · go_wp2_with fail
    go_ret
    exact ⟨rfl, Hb2.out⟩
  · obtain ⟨hn60, hsa⟩ := H2.out rfl
    have Hsa := Lib.hid hsa
    clear H2 hsa
    go_wp2_with fail
    refine (small_c b B m d w2 Hb.out (HB.out.below Hb2.out) hm).mono ?_
    rintro e w3 ⟨⟨b3, rfl, h3⟩, hb3⟩
    have Hb3 := Lib.hid (Hb2.out.trans (hb3.mono Hb2.out.size))
    have H3 := Lib.hid h3
    clear hb3 h3 Hb2
    cases b3
    · go_wp2_with fail
      go_ret
      exact ⟨rfl, Hb3.out⟩
    · obtain ⟨hm60, hsb⟩ := H3.out rfl
      have Hsb := Lib.hid hsb
      clear H3 hsb
      by_cases h20 : 20 < kn
      · have h20I : (20 : Int) < (kn : Int) := by omega
        go_wp2_with fail
        go_ret
        exact ⟨rfl, Hb3.out⟩
      · have h20I : ¬ (20 : Int) < (kn : Int) := by omega
        have hLl := allM_len a b
        rw [Ha.out, Hb.out] at hLl
        have HLs := Lib.hid (allM_small Hsa.out Hsb.out)
        have Hc1 := Lib.hid (all_c a b A B n m c d w3 Ha.out Hb.out (HA.out.below Hb3.out) (HB.out.below Hb3.out) (by omega) (by omega))
        have Hc2 := Lib.hid (fun w' (hb : Below w.heap.size w w') => rall_c a b A B n m c d w' Ha.out Hb.out (HA.out.below hb) (HB.out.below hb) (by omega) (by omega))
        have HSa := Lib.hid (fun (w' : World) (hb : Below w.heap.size w w') => aright_any kinds K kn kc a A n c w' (HK.out.below hb) Hk.out (fun x hx => by have := Hsa.out x hx; omega) Ha.out (HA.out.below hb) (by omega))
        have HSb := Lib.hid (fun (w' : World) (hb : Below w.heap.size w w') => aright_any kinds K kn kc b B m d w' (HK.out.below hb) Hk.out (fun x hx => by have := Hsb.out x hx; omega) Hb.out (HB.out.below hb) (by omega))
        have HLr := Lib.hid (fun (ha : rightN kinds a = true) (hb : rightN kinds b = true) => allM_right (kinds := kinds) (a := a) (b := b) ha hb)
        have HLe := Lib.hid (fun (hr : r.length = kinds.length) (ha : rightN kinds a = true) (hb : rightN kinds b = true) => allM_eval (r := r) hr ha hb)
        generalize hLg : allM a b = L at *
        generalize hll : L.length = ln at *
        have HLl := Lib.hid hll
        clear hLg hll
        go_wp2_with fail
        refine Hc1.out.mono ?_
        rintro e w4 ⟨⟨Y, yc, rfl, hY⟩, hb4⟩
        have Hb4 := Lib.hid (Hb3.out.trans (hb4.mono Hb3.out.size))
        have HY := Lib.hid hY
        clear hb4 hY Hb3 Hc1
        go_wp2_with fail
        refine (Hc2.out _ Hb4.out).mono ?_
        rintro e w5 ⟨⟨Z, zc, rfl, hZ⟩, hb5⟩
        have Hb5 := Lib.hid (Hb4.out.trans (hb5.mono Hb4.out.size))
        have HY5 := Lib.hid (HY.out.below hb5)
        have hsame := same_c L L ln ln Y Z yc zc w5 HLl.out HLl.out HY5.out hZ (by omega) (by omega) rfl
        have Hsame := Lib.hid hsame
        clear hb5 HY Hb4 hZ hsame Hc2
        go_wp2_with fail
        refine Hsame.out.mono ?_
        rintro e w6 ⟨rfl, hb6⟩
        have Hb6 := Lib.hid (Hb5.out.trans (hb6.mono Hb5.out.size))
        have HY6 := Lib.hid (HY5.out.below hb6)
        clear hb6 HY5 Hb5 Hsame
        have hSa := HSa.out _ Hb6.out
        cases hRa : rightN kinds a
        · rw [hRa, if_neg (by decide)] at hSa
          have HSa6 := Lib.hid hSa
          clear hSa HSa HSb HLr HLe hRa
          go_wp2_with fail
          refine HSa6.out.mono ?_
          rintro e w7 ⟨rfl, hb7⟩
          have Hb7 := Lib.hid (Hb6.out.trans (hb7.mono Hb6.out.size))
          go_wp2_with fail
          go_ret
          exact ⟨rfl, Hb7.out⟩
        · rw [hRa, if_pos rfl] at hSa
          have HSa6 := Lib.hid hSa
          have HRa := Lib.hid hRa
          clear hSa HSa hRa
          go_wp2_with fail
          refine HSa6.out.mono ?_
          rintro e w7 ⟨rfl, hb7⟩
          have Hb7 := Lib.hid (Hb6.out.trans (hb7.mono Hb6.out.size))
          have HY7 := Lib.hid (HY6.out.below hb7)
          clear hb7 HY6 Hb6 HSa6
          have hSb := HSb.out _ Hb7.out
          cases hRb : rightN kinds b
          · rw [hRb, if_neg (by decide)] at hSb
            have HSb6 := Lib.hid hSb
            clear hSb HSb HLr HLe hRb
            go_wp2_with fail
            refine HSb6.out.mono ?_
            rintro e w8 ⟨rfl, hb8⟩
            have Hb8 := Lib.hid (Hb7.out.trans (hb8.mono Hb7.out.size))
            go_wp2_with fail
            go_ret
            exact ⟨rfl, Hb8.out⟩
          · rw [hRb, if_pos rfl] at hSb
            have HSb6 := Lib.hid hSb
            have HRb := Lib.hid hRb
            clear hSb HSb hRb
            go_wp2_with fail
            refine HSb6.out.mono ?_
            rintro e w8 ⟨rfl, hb8⟩
            have Hb8 := Lib.hid (Hb7.out.trans (hb8.mono Hb7.out.size))
            have HY8 := Lib.hid (HY7.out.below hb8)
            clear hb8 HY7 Hb7 HSb6
            by_cases h40 : 40 < ln
            · have h40I : (40 : Int) < (ln : Int) := by omega
              clear HLr HLe
              go_wp2_with fail
              go_ret
              exact ⟨rfl, Hb8.out⟩
            · have h40I : ¬ (40 : Int) < (ln : Int) := by omega
              have hRL := HLr.out HRa.out HRb.out (by omega)
              have hrL := aright_any kinds K kn kc L Y ln yc w8 (HK.out.below Hb8.out) Hk.out HLs.out HLl.out HY8.out (by omega)
              rw [hRL, if_pos rfl] at hrL
              have HrL := Lib.hid hrL
              clear hrL hRL HLr
              go_wp2_with fail
              refine HrL.out.mono ?_
              rintro e w9 ⟨rfl, hb9⟩
              have Hb9 := Lib.hid (Hb8.out.trans (hb9.mono Hb8.out.size))
              have HY9 := Lib.hid (HY8.out.below hb9)
              clear hb9 HY8 Hb8 HrL
              go_wp2_with fail
              refine (fits_c kinds r K X kn kc rn rc w9 Hk.out Hr.out (HK.out.below Hb9.out) (HX.out.below Hb9.out) hrn hkc).mono ?_
              rintro e w10 ⟨⟨b10, rfl, h10⟩, hb10⟩
              have Hb10 := Lib.hid (Hb9.out.trans (hb10.mono Hb9.out.size))
              have HY10 := Lib.hid (HY9.out.below hb10)
              have H10 := Lib.hid h10
              clear h10 hb10 HY9 Hb9
              cases b10
              · clear HLe
                go_wp2_with fail
                go_ret
                exact ⟨rfl, Hb10.out⟩
              · obtain ⟨_, hrk, hrs⟩ := H10.out rfl
                have Hrs : Hid (∀ x ∈ r, x.s.length ≤ 1000000) := fun x hx => by have := hrs x hx; omega
                have hev := HLe.out (by rw [Hr.out, Hk.out]; exact hrk) HRa.out HRb.out (by omega)
                have hrn2 : rn ≤ 1000000 := by omega
                have HcL := Lib.hid (aeval_c L r Y X ln yc rn rc w10 HLl.out Hr.out HY10.out (HX.out.below Hb10.out) (by omega) hrn2 HLs.out Hrs.out)
                have HcA := Lib.hid (fun w' (hb : Below w.heap.size w w') => aeval_c a r A X n c rn rc w' Ha.out Hr.out (HA.out.below hb) (HX.out.below hb) (by omega) hrn2 (fun x hx => by have := Hsa.out x hx; omega) Hrs.out)
                have HcB := Lib.hid (fun w' (hb : Below w.heap.size w w') => aeval_c b r B X m d rn rc w' Hb.out Hr.out (HB.out.below hb) (HX.out.below hb) (by omega) hrn2 (fun x hx => by have := Hsb.out x hx; omega) Hrs.out)
                have HcT := Lib.hid (fun x y w' => andT_c x y w')
                generalize evalM L r = vL at *
                generalize evalM a r = vA at *
                generalize evalM b r = vB at *
                have Hev := Lib.hid hev
                clear hev HLe hrs hrk H10
                go_wp2_with fail
                refine HcL.out.mono ?_
                rintro e w11 ⟨rfl, hb11⟩
                have Hb11 := Lib.hid (Hb10.out.trans (hb11.mono Hb10.out.size))
                clear hb11 HcL Hb10
                go_wp2_with fail
                refine (HcA.out _ Hb11.out).mono ?_
                rintro e w12 ⟨rfl, hb12⟩
                have Hb12 := Lib.hid (Hb11.out.trans (hb12.mono Hb11.out.size))
                clear hb12 HcA Hb11
                go_wp2_with fail
                refine (HcB.out _ Hb12.out).mono ?_
                rintro e w13 ⟨rfl, hb13⟩
                have Hb13 := Lib.hid (Hb12.out.trans (hb13.mono Hb12.out.size))
                clear hb13 HcB Hb12
                go_wp2_with fail
                refine (HcT.out _ _ _).mono ?_
                rintro e w14 ⟨rfl, rfl⟩
                rw [Hev.out]
                generalize andT vA vB = vT at *
                go_wp2_with fail
                go_ret
                exact ⟨rfl, Hb13.out⟩
end Go.Proofs.Ytipnglidepfkbaa
