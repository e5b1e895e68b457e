/- Walks: ask.Eval. -/
import Derived.Test.YtipnglidepfkbaaDoorAkF
import Derived.Laws.EntriesVeiled
namespace Go.Proofs.YtipnglidepfkbaaDoor
open Go.RowKit

attribute [local go_sem ↓] Go.wp_at_zero Go.wp_at_succ

set_option maxHeartbeats 4000000 in
set_option maxRecDepth 100000 in
theorem aeval_c (l : List Nd) (r : RowM) (L X : Option Addr) (n c rn rc : Nat) (w : World) (hl : l.length = n) (hr : r.length = rn) (hL : Rd w L (ncells l)) (hX : Rd w X (rcells r)) (hn : n ≤ 1000) (hrn : rn ≤ 1000000) (hs1 : ∀ x ∈ l, x.v.s.length ≤ 1000000) (hs2 : ∀ x ∈ r, x.s.length ≤ 1000000) :
    Calls Tryd.prog 11 #[.slice L n c, .slice X rn rc] w fun e w' => e = .returned (.int .u8 (evalM l r)) ∧ Below w.heap.size w w' := by
  have hb0 : Below w.heap.size w (w.alloc (.cells #[.slice L n c] 23)) := (Below.refl _ _).alloc (Nat.le_refl _) _
  have hb1 : Below w.heap.size w ((w.alloc (.cells #[.slice L n c] 23)).alloc (.cells #[.slice X rn rc] 30)) := hb0.alloc (by rw [World.size_alloc]; omega) _
  have hx := (Blk.new w 23 #[.slice L n c]).below ((Below.refl _ _).alloc (Nat.le_refl _) (.cells #[.slice X rn rc] 30))
  have hy := Blk.new (w.alloc (.cells #[.slice L n c] 23)) 30 #[.slice X rn rc]
  rw [World.size_alloc] at hy
  have hw0 : ((w.alloc (.cells #[.slice L n c] 23)).alloc (.cells #[.slice X rn rc] 30)).heap.size = w.heap.size + 1 + 1 := by rw [World.size_alloc, World.size_alloc]
  generalize hW : ((w.alloc (.cells #[.slice L n c] 23)).alloc (.cells #[.slice X rn rc] 30)) = W at *
  have hwh := whole_c l L n c rn W hl (hL.below hb1) (by omega)
  have Hx := Lib.hid hx
  have Hy := Lib.hid hy
  have Hb1 := Lib.hid hb1
  have HW := Lib.hid hW
  have HL := Lib.hid hL
  have HX := Lib.hid hX
  have hc1 := hx.cell 0
  have hc2 := hy.cell 0
  simp only [List.getElem?_cons_zero] at hc1 hc2
  by_cases hwo : wholeN rn l = true
  · obtain ⟨x, hev⟩ := whole_ev r hwo
    rw [evalM_of (by rw [hr]; exact hwo) hev]
    rw [hwo] at hwh
    have hfine : ∀ z ∈ l, fineN rn z = true := by
      unfold wholeN at hwo
      exact List.all_eq_true.1 (Bool.and_eq_true_iff.1 (Bool.and_eq_true_iff.1 hwo).1).2
    have hpa := Lib.hid (fun pb w' (hE : EvAt w' w.heap.size (w.heap.size + 1) pb L X n c rn rc l r) => part_c w.heap.size (w.heap.size + 1) pb L X n c rn rc l r hl hr hn hrn hfine hs1 hs2 l.length 0 x [] w' hE (Nat.zero_le _) (by rw [List.drop_zero]; exact hev))
    have Hwh := Lib.hid hwh
    clear hfine hwo hev hwh hs1 hs2 hx hy hb1 hb0 hL hX hW hl hr
    go_enter Tryd.func11, Tryd.ntmps11
    go_wp2_with fail
    rw [HW.out]
    refine Hwh.out.mono ?_
    rintro e w1 ⟨rfl, hb1⟩
    have hc1 := (Hx.out.below hb1).cell 0
    have hc2 := (Hy.out.below hb1).cell 0
    simp only [List.getElem?_cons_zero] at hc1 hc2
    have Hb2 := Lib.hid (Hb1.out.trans (hb1.mono Hb1.out.size))
    have HL1 := Lib.hid (HL.out.below Hb2.out)
    have HX1 := Lib.hid (HX.out.below Hb2.out)
    clear hb1
    have hbF : Below w1.heap.size w1 (w1.alloc (.cells #[.func (Fn.func 28) #[] #[.pointer (some ⟨w.heap.size, 0, none⟩), .pointer (some ⟨w.heap.size + 1, 0, none⟩), .pointer (some ⟨w1.heap.size, 0, none⟩)]] 54)) := (Below.refl _ _).alloc (Nat.le_refl _) _
    have hE : EvAt (w1.alloc (.cells #[.func (Fn.func 28) #[] #[.pointer (some ⟨w.heap.size, 0, none⟩), .pointer (some ⟨w.heap.size + 1, 0, none⟩), .pointer (some ⟨w1.heap.size, 0, none⟩)]] 54)) w.heap.size (w.heap.size + 1) w1.heap.size L X n c rn rc l r :=
      ⟨cell_keep hbF hc1, cell_keep hbF hc2, (Blk.new w1 54 #[.func (Fn.func 28) #[] #[.pointer (some ⟨w.heap.size, 0, none⟩), .pointer (some ⟨w.heap.size + 1, 0, none⟩), .pointer (some ⟨w1.heap.size, 0, none⟩)]]).cell 0, HL1.out.below hbF, HX1.out.below hbF⟩
    have hcall := hpa.out _ _ hE
    rw [show ((0 : Nat) : Int) = 0 from rfl] at hcall
    have Hcall := Lib.hid hcall
    have HbF := Lib.hid hbF
    clear hcall hE hbF hpa
    go_wp2_with fail
    refine Hcall.out.mono ?_
    rintro e w3 ⟨rfl, hb3⟩
    have Hb3 := Lib.hid (Hb2.out.trans ((HbF.out.trans (hb3.mono HbF.out.size)).mono Hb2.out.size))
    go_wp2_with fail
    go_ret
    exact ⟨rfl, Hb3.out⟩
  · rw [Bool.not_eq_true] at hwo
    rw [hwo] at hwh
    have hev : evalM l r = 1 := by
      unfold evalM
      rw [if_neg (by rw [hr, hwo]; decide)]
    rw [hev]
    have Hwh := Lib.hid hwh
    clear hwo hev hwh hs1 hs2 hx hy hb1 hb0 hL hX hW hl hr
    go_enter Tryd.func11, Tryd.ntmps11
    go_wp2_with fail
    rw [HW.out]
    refine Hwh.out.mono ?_
    rintro e w1 ⟨rfl, hb1⟩
    have Hb2 := Lib.hid (Hb1.out.trans (hb1.mono Hb1.out.size))
    go_wp2_with fail
    go_ret
    exact ⟨rfl, Hb2.out⟩
end Go.Proofs.YtipnglidepfkbaaDoor
