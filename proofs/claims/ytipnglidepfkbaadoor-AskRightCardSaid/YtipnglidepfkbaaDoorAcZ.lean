/- The walk of AskRight: it returns true, and turns nothing that was there. -/
import Derived.Test.YtipnglidepfkbaaDoorAcW
import Derived.Test.YtipnglidepfkbaaDoorGlE
import Derived.Test.YtipnglidepfkbaaDoorAkQ
namespace Go.Proofs.YtipnglidepfkbaaDoor
open Go.RowKit

attribute [local go_sem ↓] Go.wp_at_zero Go.wp_at_succ

theorem insC_len (c : Int) (s : List Int) : (insC c s).length ≤ s.length + 1 := by
  unfold insC
  split
  · omega
  · rw [List.length_append, List.length_cons, List.length_take, List.length_drop]; omega
theorem fold_len : ∀ (l : List Nd) (s : List Int), (l.foldl insN s).length ≤ s.length + l.length
  | [], s => Nat.le_refl _
  | n :: l, s => by
    rw [List.foldl_cons]
    have h1 := fold_len l (insN s n)
    have h2 : (insN s n).length ≤ s.length + 1 := by
      unfold insN
      split
      · exact insC_len _ _
      · omega
    rw [List.length_cons]
    omega
theorem colsR_len (l : List Nd) : (colsR l).length ≤ l.length := by
  have := fold_len l []
  unfold colsR
  simpa using this

set_option maxHeartbeats 8000000 in
set_option maxRecDepth 100000 in
theorem right_walk (kinds : List Int) (l : List Nd) (K L : Option Addr) (kn kc n c : Nat) (w : World) (hk : kinds.length = kn) (hl : l.length = n) (hK : Rd w K (kcells kinds)) (hL : Rd w L (ncells l)) (hn : n ≤ 9223372036854775807) (hT : Lib.Utf8Tabs 0 1 w) :
    Calls Tryd.prog 5 #[.slice K kn kc, .slice L n c] w fun e w' => e = .returned (.bool true) ∧ Below w.heap.size w w' := by
  have HK := Lib.hid hK
  have HL := Lib.hid hL
  have Hk := Lib.hid hk
  have Hl := Lib.hid hl
  have HT := Lib.hid hT
  clear hK hL hk hl hT
  go_enter Tryd.func5, Tryd.ntmps5
  go_wp2_with fail
  refine (shown_c w).mono ?_
  rintro e w1 ⟨rfl, hb1⟩
  have Hb1 := Lib.hid hb1
  clear hb1
  by_cases h20 : 20 < kn
  · have h20I : (20 : Int) < (kn : Int) := by omega
    go_wp2_with fail
    go_ret
    exact ⟨rfl, Hb1.out⟩
  · have h20I : ¬ (20 : Int) < (kn : Int) := by omega
    go_wp2_with fail
    refine (small_c l L n c w1 Hl.out (HL.out.below Hb1.out) hn).mono ?_
    rintro e w2 ⟨⟨b2, rfl, h2⟩, hb2⟩
    have Hb2 := Lib.hid (Hb1.out.trans (hb2.mono Hb1.out.size))
    have H2 := Lib.hid h2
    clear hb2 h2 Hb1
    cases b2
    · go_wp2_with fail
      go_ret
      exact ⟨rfl, Hb2.out⟩
    · obtain ⟨hn60, hsa⟩ := H2.out rfl
      have Hsa : Hid (∀ x ∈ l, x.v.s.length ≤ 1000000) := fun x hx => by have := hsa x hx; omega
      clear H2 hsa
      have hc1 := aright_any kinds K kn kc l L n c w2 (HK.out.below Hb2.out) Hk.out Hsa.out Hl.out (HL.out.below Hb2.out) (by omega)
      have hc2 := fun w' (hb : Below w.heap.size w w') => rright_c kinds K kn kc l L n c w' (HK.out.below hb) Hk.out Hsa.out Hl.out (HL.out.below hb) (by omega) (Utf8Tabs_below HT.out hb)
      have hc3 := fun w' (hb : Below w.heap.size w w') => cols_c l L n c w' Hl.out (HL.out.below hb) (by omega)
      have hc4 := fun w' (hb : Below w.heap.size w w') => rcols_c l L n c w' Hl.out (HL.out.below hb) (by omega)
      have hlen := colsR_len l
      rw [Hl.out] at hlen
      generalize (if rightN kinds l = true then (0 : Int) else 140) = V at *
      generalize colsR l = Q at *
      have hVV : (V == V) = true := by simp
      have Hc1 := Lib.hid hc1
      have Hc2 := Lib.hid hc2
      have Hc3 := Lib.hid hc3
      have Hc4 := Lib.hid hc4
      clear hc1 hc2 hc3 hc4
      go_wp2_with fail
      refine Hc1.out.mono ?_
      rintro e w3 ⟨rfl, hb3⟩
      have Hb3 := Lib.hid (Hb2.out.trans (hb3.mono Hb2.out.size))
      clear hb3 Hc1
      go_wp2_with fail
      refine (Hc2.out _ Hb3.out).mono ?_
      rintro e w4 ⟨rfl, hb4⟩
      have Hb4 := Lib.hid (Hb3.out.trans (hb4.mono Hb3.out.size))
      clear hb4 Hc2
      go_wp2_with fail
      refine (Hc3.out _ Hb4.out).mono ?_
      rintro e w5 ⟨⟨A5, c5, rfl, hr5⟩, hb5⟩
      have Hb5 := Lib.hid (Hb4.out.trans (hb5.mono Hb4.out.size))
      have Hr5 := Lib.hid hr5
      clear hb5 hr5 Hc3
      go_wp2_with fail
      refine (Hc4.out _ Hb5.out).mono ?_
      rintro e w6 ⟨⟨A6, c6, rfl, hr6⟩, hb6⟩
      have Hb6 := Lib.hid (Hb5.out.trans (hb6.mono Hb5.out.size))
      have hi := ints_same Q Q.length A5 A6 c5 c6 w6 rfl (Hr5.out.below hb6) hr6 (by omega)
      have Hi := Lib.hid hi
      clear hb6 hr6 Hc4 hi
      go_wp2_with fail
      refine Hi.out.mono ?_
      rintro e w7 ⟨rfl, hb7⟩
      have Hb7 := Lib.hid (Hb6.out.trans (hb7.mono Hb6.out.size))
      go_wp2_with fail
      go_ret
      exact ⟨rfl, Hb7.out⟩
end Go.Proofs.YtipnglidepfkbaaDoor
