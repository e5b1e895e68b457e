/- The walk of AskEval: it returns true, and turns nothing that was there. -/
import Derived.Test.YtipnglidepfkbaaDoorGlV
import Derived.Test.YtipnglidepfkbaaDoorAkQ
import Derived.Test.YtipnglidepfkbaaDoorJoX
namespace Go.Proofs.YtipnglidepfkbaaDoor
open Go.RowKit

attribute [local go_sem ↓] Go.wp_at_zero Go.wp_at_succ

set_option maxHeartbeats 8000000 in
set_option maxRecDepth 100000 in
theorem eval_walk (kinds : List Int) (l : List Nd) (rs : List RowM) (hs : List Value) (K L X : Option Addr) (kn kc n c m d : Nat) (w : World) (hk : kinds.length = kn) (hl : l.length = n) (hm : rs.length = m) (hK : Rd w K (kcells kinds)) (hL : Rd w L (ncells l)) (hX : Rd w X hs) (hR : Rows w hs rs) (hkn : kn ≤ 9223372036854775807) (hn : n ≤ 9223372036854775807) (hmm : m ≤ 9223372036854775807) (hT : Lib.Utf8Tabs 0 1 w) :
    Calls Tryd.prog 3 #[.slice K kn kc, .slice L n c, .slice X m d] w fun e w' => e = .returned (.bool true) ∧ Below w.heap.size w w' := by
  have HK := Lib.hid hK
  have HL := Lib.hid hL
  have HX := Lib.hid hX
  have HR := Lib.hid hR
  have Hk := Lib.hid hk
  have Hl := Lib.hid hl
  have Hm := Lib.hid hm
  have HT := Lib.hid hT
  clear hK hL hX hR hk hl hm hT
  go_enter Tryd.func3, Tryd.ntmps3
  go_wp2_with fail
  refine (shown_c w).mono ?_
  rintro e w1 ⟨rfl, hb1⟩
  have Hb1 := Lib.hid hb1
  clear hb1
  go_wp2_with fail
  refine (small_c l L n c w1 Hl.out (HL.out.below Hb1.out) hn).mono ?_
  rintro e w2 ⟨⟨b2, rfl, h2⟩, hb2⟩
  have Hb2 := Lib.hid (Hb1.out.trans (hb2.mono Hb1.out.size))
  have H2 := Lib.hid h2
  clear hb2 h2 Hb1
  cases b2
  · go_wp2_with fail
    go_ret
    exact ⟨rfl, Hb2.out⟩
  · obtain ⟨hn60, hsa⟩ := H2.out rfl
    have Hsa : Hid (∀ x ∈ l, x.v.s.length ≤ 1000000) := fun x hx => by have := hsa x hx; omega
    clear H2 hsa
    by_cases h20 : 20 < kn
    · have h20I : (20 : Int) < (kn : Int) := by omega
      go_wp2_with fail
      go_ret
      exact ⟨rfl, Hb2.out⟩
    · have h20I : ¬ (20 : Int) < (kn : Int) := by omega
      have hc1 := aright_any kinds K kn kc l L n c w2 (HK.out.below Hb2.out) Hk.out Hsa.out Hl.out (HL.out.below Hb2.out) (by omega)
      have hc2 := fun w' (hb : Below w.heap.size w w') => rright_c kinds K kn kc l L n c w' (HK.out.below hb) Hk.out Hsa.out Hl.out (HL.out.below hb) (by omega) (Utf8Tabs_below HT.out hb)
      cases hRa : rightN kinds l
      · rw [hRa, if_neg (by decide)] at hc1
        have Hc1 := Lib.hid hc1
        clear hc1 hc2 hRa
        go_wp2_with fail
        refine Hc1.out.mono ?_
        rintro e w3 ⟨rfl, hb3⟩
        have Hb3 := Lib.hid (Hb2.out.trans (hb3.mono Hb2.out.size))
        go_wp2_with fail
        go_ret
        exact ⟨rfl, Hb3.out⟩
      · rw [hRa, if_pos rfl] at hc1
        rw [hRa, if_pos rfl] at hc2
        have Hc1 := Lib.hid hc1
        have Hc2 := Lib.hid hc2
        have HRa := Lib.hid hRa
        clear hc1 hc2 hRa
        go_wp2_with fail
        refine Hc1.out.mono ?_
        rintro e w3 ⟨rfl, hb3⟩
        have Hb3 := Lib.hid (Hb2.out.trans (hb3.mono Hb2.out.size))
        clear hb3 Hc1 Hb2
        go_wp2_with fail
        refine (Hc2.out _ Hb3.out).mono ?_
        rintro e w4 ⟨rfl, hb4⟩
        have Hb4 := Lib.hid (Hb3.out.trans (hb4.mono Hb3.out.size))
        clear hb4 Hc2 Hb3
        go_wp2_with fail
        go_loopw [32] (fun vi wr => ∃ j : Nat, vi = .int .i64 (j : Int) ∧ j ≤ m ∧ Hid (Below w.heap.size w wr)) (fun vi _ => m - (intOf vi).toNat)
        case atStart => exact ⟨0, rfl, by omega, Hb4⟩
        case round =>
          clear Hb4
          obtain ⟨j, rfl, hj, Hb⟩ := hrel
          by_cases hjm : j < m
          · have hjI : (j : Int) < (m : Int) := by omega
            have hjI0 : (0 : Int) ≤ (j : Int) := by omega
            have hjl : j < rs.length := by rw [Hm.out]; exact hjm
            obtain ⟨b, o, A, cc, rfl, c0, hrc, hrm, hrd⟩ := head_cell (HX.out.below Hb.out) (HR.out.below Hb.out) hjl
            by_cases hj20 : 20 ≤ j
            · have hjI2 : (20 : Int) ≤ (j : Int) := by omega
              clear hrd
              go_wp2_with fail
              go_ret
              exact ⟨rfl, Hb.out⟩
            · have hjI2 : ¬ (20 : Int) ≤ (j : Int) := by omega
              generalize rs[j] = r at *
              obtain ⟨rn, hrn⟩ : ∃ rn, r.length = rn := ⟨_, rfl⟩
              rw [hrn] at c0 hrc
              have Hrn := Lib.hid hrn
              have Hrd := Lib.hid hrd
              have hrn1 : rn ≤ 9223372036854775807 := by unfold maxLen at hrm; omega
              have hft := fits_c kinds r K A kn kc rn cc wr Hk.out Hrn.out (HK.out.below Hb.out) Hrd.out hrn1 hkn
              have Hft := Lib.hid hft
              clear hrn hrd hft hjl
              go_wp2_with fail
              refine Hft.out.mono ?_
              rintro e w5 ⟨⟨b5, rfl, h5⟩, hb5⟩
              have Hb5 := Lib.hid (Hb.out.trans (hb5.mono Hb.out.size))
              have Hrd5 := Lib.hid (Hrd.out.below hb5)
              have H5 := Lib.hid h5
              clear h5 hb5 Hft
              cases b5
              · go_wp2_with fail
                go_roundw
                case rel => exact ⟨j + 1, by go_num, by omega, Hb5⟩
                case measure => simp [intOf]; omega
              · obtain ⟨_, hrk, hrs⟩ := H5.out rfl
                have Hrs : Hid (∀ x ∈ r, x.s.length ≤ 1000000) := fun x hx => by have := hrs x hx; omega
                have hrn2 : rn ≤ 1000000 := by omega
                have hc6 := aeval_c l r L A n c rn cc w5 Hl.out Hrn.out (HL.out.below Hb5.out) Hrd5.out (by omega) hrn2 Hsa.out Hrs.out
                have hc7 := fun w' (hb : Below w.heap.size w w') (hbr : Below w5.heap.size w5 w') => reval_c kinds l r L A n c rn cc w' Hl.out Hrn.out (by rw [Hrn.out, Hk.out]; exact hrk) HRa.out (HL.out.below hb) (Hrd5.out.below hbr) (by omega) hrn2 Hsa.out Hrs.out (Utf8Tabs_below HT.out hb)
                generalize evalM l r = V at *
                have Hc6 := Lib.hid hc6
                have Hc7 := Lib.hid hc7
                have hVV : (V != V) = false := by simp
                clear hc6 hc7 hrs hrk H5
                go_wp2_with fail
                refine Hc6.out.mono ?_
                rintro e w6 ⟨rfl, hb6⟩
                have Hb6 := Lib.hid (Hb5.out.trans (hb6.mono Hb5.out.size))
                have Hbr := Lib.hid hb6
                clear hb6
                go_wp2_with fail
                refine (Hc7.out _ Hb6.out Hbr.out).mono ?_
                rintro e w7 ⟨rfl, hb7⟩
                have Hb7 := Lib.hid (Hb6.out.trans (hb7.mono Hb6.out.size))
                clear hb7
                go_wp2_with fail
                go_roundw
                case rel => exact ⟨j + 1, by go_num, by omega, Hb7⟩
                case measure => simp [intOf]; omega
          · obtain rfl : j = m := by omega
            go_wp2_with fail
            go_ret
            exact ⟨rfl, Hb.out⟩
end Go.Proofs.YtipnglidepfkbaaDoor
