/- The walk of AskMay: it returns true, and turns nothing that was there. -/
import Derived.Test.YtipnglidepfkbaaDoorMMyS
import Derived.Test.YtipnglidepfkbaaDoorMMyT
import Derived.Test.YtipnglidepfkbaaDoorMMyX
import Derived.Test.YtipnglidepfkbaaDoorMAkQ
import Derived.Test.YtipnglidepfkbaaDoorMGrW
import Derived.ChangeKeysEq
namespace Go.Proofs.YtipnglidepfkbaaDoor
set_option linter.unusedVariables false
set_option linter.unusedSimpArgs false
open Go.RowKit

attribute [local go_sem ↓] Go.wp_at_zero Go.wp_at_succ

theorem right_like {kinds : List Int} {l : List Nd} (h : rightN kinds l = true) : ∀ x ∈ l, x.op = 7 → (partsM x.v.s).2 = true := by
  unfold rightN at h
  have ha := List.all_eq_true.1 (Bool.and_eq_true_iff.1 (Bool.and_eq_true_iff.1 h).1).2
  intro x hx h7
  have hm := ha x hx
  unfold mayN at hm
  split at hm
  · cases hm
  · split at hm
    · cases hm
    · rw [if_neg (by omega), if_neg (by omega), if_neg (by omega)] at hm
      exact (Bool.and_eq_true_iff.1 hm).2

set_option maxRecDepth 100000 in
theorem t3_equal (a b c : Bool) (w : World) : (Op.equalIn 10000 37 (.agg #[.bool a, .bool b, .bool c]) (.agg #[.bool a, .bool b, .bool c])).run Tryd.prog w = .ok true w := by
  obtain ⟨i, hi⟩ : ∃ i, Tryd.prog.info? 4 = some i := Option.isSome_iff_exists.1 (by kernel_rfl)
  rw [run_equalIn_array w 9999 _ _ Tryd.underlying37 hi]
  cases a <;> cases b <;> cases c <;> kernel_rfl
set_option maxHeartbeats 8000000 in
set_option maxRecDepth 100000 in
theorem may_walk (kinds : List Int) (l : List Nd) (rs : List RowM) (hs : List Value) (K L X : Option Addr) (kn kc n c m d : Nat) (w : World) (hk : kinds.length = kn) (hl : l.length = n) (hm : rs.length = m) (hK : Rd w K (kcells kinds)) (hL : Rd w L (ncells l)) (hX : Rd w X hs) (hR : Rows w hs rs) (hkn : kn ≤ 9223372036854775807) (hn : n ≤ 9223372036854775807) (hmm : m ≤ 9223372036854775807) (hmd : m ≤ d) (hdd : d ≤ 9223372036854775807) (hT : Lib.Utf8Tabs 0 1 w) :
    Calls Tryd.prog 4 #[.slice K kn kc, .slice L n c, .slice X m d] w fun e w' => e = .returned (.bool true) ∧ Below w.heap.size w w' := by
  have HK := Lib.hid hK
  have HL := Lib.hid hL
  have HX := Lib.hid hX
  have HR := Lib.hid hR
  have Hk := Lib.hid hk
  have Hl := Lib.hid hl
  have Hm := Lib.hid hm
  have HT := Lib.hid hT
  clear hK hL hX hR hk hl hm hT
  go_enter Tryd.func4, Tryd.ntmps4
  go_wp2_with fail
  refine (shown_c w).mono ?_
  rintro e w1 ⟨rfl, hb1⟩
  have Hb1 := Lib.hid hb1
  clear hb1
  go_wp2_with fail
  refine (small_c l L n c w1 Hl.out (HL.out.below Hb1.out) hn).mono ?_
  rintro e w2 ⟨⟨b2, rfl, h2⟩, hb2⟩
  have Hb2 := Lib.hid (Hb1.out.trans (hb2.mono Hb1.out.size))
  have H2 := Lib.hid h2
  clear hb2 h2 Hb1
  cases b2
  · go_wp2_with fail
    go_ret
    exact ⟨rfl, Hb2.out⟩
  · obtain ⟨hn60, hsa⟩ := H2.out rfl
    have Hsa : Hid (∀ x ∈ l, x.v.s.length ≤ 1000000) := fun x hx => by have := hsa x hx; omega
    clear H2 hsa
    by_cases h20 : 20 < kn
    · have h20I : (20 : Int) < (kn : Int) := by omega
      have h20D : decide ((20 : Int) < (kn : Int)) = true := decide_eq_true h20I
      go_wp2_with fail
      go_ret
      exact ⟨rfl, Hb2.out⟩
    · have h20I : ¬ (20 : Int) < (kn : Int) := by omega
      have h20D : decide ((20 : Int) < (kn : Int)) = false := decide_eq_false h20I
      have hc2 := rright_c kinds K kn kc l L n c w2 (HK.out.below Hb2.out) Hk.out Hsa.out Hl.out (HL.out.below Hb2.out) (by omega) (Utf8Tabs_below HT.out Hb2.out)
      cases hRa : rightN kinds l
      · rw [hRa, if_neg (by decide)] at hc2
        have Hc2 := Lib.hid hc2
        clear hc2 hRa
        go_wp2_with fail
        refine Hc2.out.mono ?_
        rintro e w3 ⟨rfl, hb3⟩
        have Hb3 := Lib.hid (Hb2.out.trans (hb3.mono Hb2.out.size))
        go_wp2_with fail
        go_ret
        exact ⟨rfl, Hb3.out⟩
      · rw [hRa, if_pos rfl] at hc2
        have Hlk := Lib.hid (right_like hRa)
        have Hc2 := Lib.hid hc2
        have HRa := Lib.hid hRa
        clear hc2 hRa
        go_wp2_with fail
        refine Hc2.out.mono ?_
        rintro e w3 ⟨rfl, hb3⟩
        have Hb3 := Lib.hid (Hb2.out.trans (hb3.mono Hb2.out.size))
        clear hb3 Hc2 Hb2
        obtain ⟨M, hM, hM1, hM2, hMI⟩ : ∃ M : Nat, M ≤ 20 ∧ M ≤ m ∧ M ≤ d ∧ min (m : Int) 20 = (M : Int) := ⟨min m 20, by omega, by omega, by omega, by omega⟩
        have hzc := Lib.hid (zones_c kinds rs hs K X kn kc M d w3 Hk.out (HK.out.below Hb3.out) (HX.out.below Hb3.out) (HR.out.below Hb3.out) (by rw [Hm.out]; exact hM1) (by omega) (by omega))
        have hMI0 : (0 : Int) ≤ (M : Int) := by omega
        have hMId : (M : Int) ≤ (d : Int) := by omega
        go_wp2_with fail
        refine hzc.out.mono ?_
        rintro e w4 ⟨⟨Z, zn, zc, b4, zs, rfl, h4⟩, hb4⟩
        have Hb4 := Lib.hid (Hb3.out.trans (hb4.mono Hb3.out.size))
        have H4 := Lib.hid h4
        clear hb4 h4 hzc
        cases b4
        · go_wp2_with fail
          go_ret
          exact ⟨rfl, Hb4.out⟩
        · obtain ⟨rfl, hzl, hZ⟩ := H4.out rfl
          have hc6 := amay_c l zs L Z n c zn zc w4 Hl.out hzl (HL.out.below Hb4.out) hZ (by omega) (by omega) Hsa.out Hlk.out
          have hc7 := fun w' (hb : Below w.heap.size w w') (hbr : Below w4.heap.size w4 w') => rmay_c kinds l zs L Z n c zn zc w' Hl.out hzl (by rw [hzl, Hk.out]) HRa.out (HL.out.below hb) (hZ.below hbr) (by omega) (by omega) Hsa.out Hlk.out (Utf8Tabs_below HT.out hb)
          have hVV : ∀ V : T3, V.agg = .agg #[.bool V.no, .bool V.un, .bool V.ye] := fun V => rfl
          generalize mayM l zs = V at *
          rw [hVV] at hc6
          simp only [hVV] at hc7
          have Hc6 := Lib.hid hc6
          have Hc7 := Lib.hid hc7
          clear hc6 hc7 H4 hVV hZ
          go_wp2_with fail
          refine Hc6.out.mono ?_
          rintro e w6 ⟨rfl, hb6⟩
          have Hb6 := Lib.hid (Hb4.out.trans (hb6.mono Hb4.out.size))
          have Hbr := Lib.hid hb6
          clear hb6
          go_wp2_with fail
          refine (Hc7.out _ Hb6.out Hbr.out).mono ?_
          rintro e w7 ⟨rfl, hb7⟩
          have Hb7 := Lib.hid (Hb6.out.trans (hb7.mono Hb6.out.size))
          clear hb7
          obtain ⟨v0, v1, v2⟩ := V
          dsimp only
          have heq := fun w' => t3_equal v0 v1 v2 w'
          go_wp2_with fail
          go_ret
          exact ⟨rfl, Hb7.out⟩
end Go.Proofs.YtipnglidepfkbaaDoor
