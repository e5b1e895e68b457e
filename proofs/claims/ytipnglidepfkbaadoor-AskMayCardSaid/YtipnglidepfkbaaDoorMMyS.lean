/- Walks: ask.May. -/
import Derived.Test.YtipnglidepfkbaaDoorMMyR
import Derived.Laws.EntriesVeiled
namespace Go.Proofs.YtipnglidepfkbaaDoor
set_option linter.unusedVariables false
set_option linter.unusedSimpArgs false
open Go.RowKit

attribute [local go_sem ↓] Go.wp_at_zero Go.wp_at_succ

set_option maxHeartbeats 4000000 in
set_option maxRecDepth 100000 in
theorem amay_c (l : List Nd) (z : List Zo) (L X : Option Addr) (n c rn rc : Nat) (w : World) (hl : l.length = n) (hr : z.length = rn) (hL : Rd w L (ncells l)) (hX : Rd w X (zcells z)) (hn : n ≤ 1000) (hrn : rn ≤ 1000000) (hs1 : ∀ x ∈ l, x.v.s.length ≤ 1000000) (hlk : ∀ x ∈ l, x.op = 7 → (partsM x.v.s).2 = true) :
    Calls Tryd.prog 14 #[.slice L n c, .slice X rn rc] w fun e w' => e = .returned (mayM l z).agg ∧ Below w.heap.size w w' := by
  have hb0 : Below w.heap.size w (w.alloc (.cells #[.slice L n c] 23)) := (Below.refl _ _).alloc (Nat.le_refl _) _
  have hb1 : Below w.heap.size w ((w.alloc (.cells #[.slice L n c] 23)).alloc (.cells #[.slice X rn rc] 34)) := hb0.alloc (by rw [World.size_alloc]; omega) _
  have hb2 : Below w.heap.size w (((w.alloc (.cells #[.slice L n c] 23)).alloc (.cells #[.slice X rn rc] 34)).alloc (.cells #[.bool false, .bool false, .bool false] 37)) := hb1.alloc (by rw [World.size_alloc, World.size_alloc]; omega) _
  have hx := ((Blk.new w 23 #[.slice L n c]).alloc (.cells #[.slice X rn rc] 34)).alloc (.cells #[.bool false, .bool false, .bool false] 37)
  have hy := (Blk.new (w.alloc (.cells #[.slice L n c] 23)) 34 #[.slice X rn rc]).alloc (.cells #[.bool false, .bool false, .bool false] 37)
  have hz := T3At.new ((w.alloc (.cells #[.slice L n c] 23)).alloc (.cells #[.slice X rn rc] 34)) 37 ⟨false, false, false⟩
  rw [World.size_alloc] at hy
  rw [World.size_alloc, World.size_alloc] at hz
  have hw0 : (((w.alloc (.cells #[.slice L n c] 23)).alloc (.cells #[.slice X rn rc] 34)).alloc (.cells #[.bool false, .bool false, .bool false] 37)).heap.size = w.heap.size + 1 + 1 + 1 := by rw [World.size_alloc, World.size_alloc, World.size_alloc]
  generalize hW : (((w.alloc (.cells #[.slice L n c] 23)).alloc (.cells #[.slice X rn rc] 34)).alloc (.cells #[.bool false, .bool false, .bool false] 37)) = W at *
  have hwh := whole_c l L n c rn W hl (hL.below hb2) (by omega)
  have Hx := Lib.hid hx
  have Hy := Lib.hid hy
  have Hz := Lib.hid hz
  have Hb1 := Lib.hid hb2
  have HW := Lib.hid hW
  have HL := Lib.hid hL
  have HX := Lib.hid hX
  have hc1 := hx.cell 0
  have hc2 := hy.cell 0
  simp only [List.getElem?_cons_zero] at hc1 hc2
  by_cases hwo : wholeN rn l = true
  · obtain ⟨x, hev⟩ := whole_evT z hwo
    rw [mayM_of (by rw [hr]; exact hwo) hev]
    rw [hwo] at hwh
    have hfine : ∀ z ∈ l, fineN rn z = true := by
      unfold wholeN at hwo
      exact List.all_eq_true.1 (Bool.and_eq_true_iff.1 (Bool.and_eq_true_iff.1 hwo).1).2
    have hpa := Lib.hid (fun pb w' (hE : MyAt w' w.heap.size (w.heap.size + 1) pb L X n c rn rc l z) => mpart_c w.heap.size (w.heap.size + 1) pb L X n c rn rc l z hl hr hn hrn hfine hs1 hlk l.length 0 x [] w' hE (Nat.zero_le _) (by rw [List.drop_zero]; exact hev))
    have Hwh := Lib.hid hwh
    clear hfine hwo hev hwh hs1 hlk hx hy hz hb1 hb0 hb2 hL hX hW hl hr
    go_enter Tryd.func14, Tryd.ntmps14
    go_wp2_with fail
    rw [HW.out]
    refine Hwh.out.mono ?_
    rintro e w1 ⟨rfl, hb1⟩
    have hc1 := (Hx.out.below hb1).cell 0
    have hc2 := (Hy.out.below hb1).cell 0
    simp only [List.getElem?_cons_zero] at hc1 hc2
    have Hz1 := Lib.hid (Hz.out.below hb1)
    have Hb2 := Lib.hid (Hb1.out.trans (hb1.mono Hb1.out.size))
    have HL1 := Lib.hid (HL.out.below Hb2.out)
    have HX1 := Lib.hid (HX.out.below Hb2.out)
    clear hb1
    have hbF : Below w1.heap.size w1 (w1.alloc (.cells #[.func (Fn.func 42) #[] #[.pointer (some ⟨w.heap.size, 0, none⟩), .pointer (some ⟨w.heap.size + 1, 0, none⟩), .pointer (some ⟨w1.heap.size, 0, none⟩)]] 64)) := (Below.refl _ _).alloc (Nat.le_refl _) _
    have hE : MyAt (w1.alloc (.cells #[.func (Fn.func 42) #[] #[.pointer (some ⟨w.heap.size, 0, none⟩), .pointer (some ⟨w.heap.size + 1, 0, none⟩), .pointer (some ⟨w1.heap.size, 0, none⟩)]] 64)) w.heap.size (w.heap.size + 1) w1.heap.size L X n c rn rc l z :=
      ⟨cell_keep hbF hc1, cell_keep hbF hc2, (Blk.new w1 64 #[.func (Fn.func 42) #[] #[.pointer (some ⟨w.heap.size, 0, none⟩), .pointer (some ⟨w.heap.size + 1, 0, none⟩), .pointer (some ⟨w1.heap.size, 0, none⟩)]]).cell 0, HL1.out.below hbF, HX1.out.below hbF⟩
    have hcall := hpa.out _ _ hE
    rw [show ((0 : Nat) : Int) = 0 from rfl] at hcall
    have Hcall := Lib.hid hcall
    have HbF := Lib.hid hbF
    clear hcall hE hbF hpa
    go_wp2_with fail
    refine Hcall.out.mono ?_
    rintro e w3 ⟨rfl, hb3⟩
    have hbX := (Below.refl w3.heap.size w3).alloc (Nat.le_refl _) (.cells #[.bool x.no, .bool x.un, .bool x.ye] 37)
    have Hb3 := Lib.hid (Hb2.out.trans ((HbF.out.trans ((hb3.trans (hbX.mono hb3.size)).mono HbF.out.size)).mono Hb2.out.size))
    have HO := Lib.hid (((Hz1.out.below HbF.out).below hb3).below hbX)
    have HX3 := Lib.hid (T3At.new w3 37 x)
    obtain ⟨x0, x1, x2⟩ := HX3.out.cells
    obtain ⟨o0, o1, o2⟩ := HO.out.cells
    have oF := fun i => HO.out.frozen i
    have HS := Lib.hid (HO.out.three x)
    have HEn := Lib.hid (below_three Hb3.out (show w.heap.size ≤ w.heap.size + 1 + 1 by omega) (.bool x.no) (.bool x.un) (.bool x.ye))
    rw [T3.agg_eq]
    clear hb3 hbX
    go_wp2_with fail
    (try simp only [Exit.inBlock, Exit.then])
    refine bodyPost_ret (results_cell_row rfl _ _ (w.heap.size + 1 + 1) 37 #[.bool x.no, .bool x.un, .bool x.ye] (0, 0) _ rfl HS.out Tryd.underlying37 rfl (by kernel_rfl)) rfl ?_
    exact ⟨rfl, HEn.out⟩
  · rw [Bool.not_eq_true] at hwo
    rw [hwo] at hwh
    have hev : mayM l z = ⟨true, true, true⟩ := by
      unfold mayM
      rw [if_neg (by rw [hr, hwo]; decide)]
    rw [hev]
    have Hwh := Lib.hid hwh
    clear hwo hev hwh hs1 hlk hx hy hz hb1 hb0 hb2 hL hX hW hl hr
    go_enter Tryd.func14, Tryd.ntmps14
    go_wp2_with fail
    rw [HW.out]
    refine Hwh.out.mono ?_
    rintro e w1 ⟨rfl, hb1⟩
    have Hb2 := Lib.hid (Hb1.out.trans (hb1.mono Hb1.out.size))
    have HO := Lib.hid (Hz.out.below hb1)
    obtain ⟨o0, o1, o2⟩ := HO.out.cells
    have oF := fun i => HO.out.frozen i
    have HS := Lib.hid (HO.out.three ⟨true, true, true⟩)
    have HEn := Lib.hid (below_three Hb2.out (show w.heap.size ≤ w.heap.size + 1 + 1 by omega) (.bool true) (.bool true) (.bool true))
    go_wp2_with fail
    (try simp only [Exit.inBlock, Exit.then])
    refine bodyPost_ret (results_cell_row rfl _ _ (w.heap.size + 1 + 1) 37 #[.bool true, .bool true, .bool true] (0, 0) _ rfl HS.out Tryd.underlying37 rfl (by kernel_rfl)) rfl ?_
    exact ⟨rfl, HEn.out⟩
end Go.Proofs.YtipnglidepfkbaaDoor
