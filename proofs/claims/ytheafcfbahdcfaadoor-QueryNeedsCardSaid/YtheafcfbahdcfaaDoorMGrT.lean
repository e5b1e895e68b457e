/- Walks: shown: the document's examples. (Printed by gen_qye.py.) Walks: few: the statements' own guard. (Printed by gen_qyd.py.) What a query that may be asked tells and needs: plain. -/
import Derived.Test.YtheafcfbahdcfaaDoorMQyY
import Derived.Test.YtheafcfbahdcfaaDoorMGrV
import Derived.Test.YtheafcfbahdcfaaDoorMQyG
import Derived.Test.YtheafcfbahdcfaaDoorMAkR
import Derived.Test.YtheafcfbahdcfaaDoorMQyX
import Derived.Test.YtheafcfbahdcfaaDoorMGrJ
namespace Go.Proofs.YtheafcfbahdcfaaDoor
set_option linter.unusedVariables false
set_option linter.unusedSimpArgs false
open Go.RowKit

attribute [local go_sem ↓] Go.wp_at_zero Go.wp_at_succ

def shQ : Qy := ⟨[97], [⟨[98], 1, 0⟩], [⟨1, 0, 0, ⟨0, 0, []⟩⟩], [], [], [0, 3], []⟩
def shT : List Tb := [⟨[97], [2, 2]⟩, ⟨[98], [2, 3]⟩]
theorem shC : checkM shT shQ = ([2, 3], 0) := by decide +kernel
theorem shN : needsM shT shQ = ([[0, 1], [0, 1]], 0) := by decide +kernel
def shL (s : Nat) : List Th := [⟨⟨[97], [2, 2]⟩, some ⟨s, 0, none⟩, 2⟩, ⟨⟨[98], [2, 3]⟩, some ⟨s + 1, 0, none⟩, 2⟩]
theorem shL_t (s : Nat) : (shL s).map Th.t = shT := rfl
theorem shFew : FewT shT ∧ shQ.Few :=
  ⟨⟨by decide, by decide, by decide⟩, ⟨by decide, by decide, by decide, by decide, by decide, by decide, by decide, by decide⟩⟩

set_option maxHeartbeats 8000000 in
set_option maxRecDepth 100000 in
theorem qshown_any (w : World) : Calls Tryd.prog 5 #[] w fun e w' => e = .returned (.bool true) ∧ Below w.heap.size w w' := by
  have b0 := Blk.new w 5 #[.int .u8 2, .int .u8 2]
  replace b0 := b0.alloc (.cells #[.int .u8 2, .int .u8 3] 5)
  replace b0 := b0.alloc (.cells #[.string (St8 [97]), .slice (some ⟨w.heap.size, 0, none⟩) 2 2, .string (St8 [98]), .slice (some ⟨w.heap.size + 1, 0, none⟩) 2 2] 44)
  replace b0 := b0.alloc (.cells #[.string (St8 [98]), .int .i64 1, .int .i64 0] 46)
  replace b0 := b0.alloc (.cells #[.int .u8 1, .int .i64 0, .int .i64 0, .int .u8 0, .int .i64 0, .string (St8 [])] 50)
  replace b0 := b0.alloc (.cells #[.int .i64 0, .int .i64 3] 3)
  replace b0 := b0.alloc (.cells #[.string (St8 [97]), .slice (some ⟨w.heap.size + 1 + 1 + 1, 0, none⟩) 1 1, .slice (some ⟨w.heap.size + 1 + 1 + 1 + 1, 0, none⟩) 1 1, .slice none 0 0, .slice none 0 0, .slice (some ⟨w.heap.size + 1 + 1 + 1 + 1 + 1, 0, none⟩) 2 2, .slice none 0 0] 29)
  have b1 := Blk.new (w.alloc (.cells #[.int .u8 2, .int .u8 2] 5)) 5 #[.int .u8 2, .int .u8 3]
  rw [show ((w.alloc (.cells #[.int .u8 2, .int .u8 2] 5))).heap.size = w.heap.size + 1 from by simp] at b1
  replace b1 := b1.alloc (.cells #[.string (St8 [97]), .slice (some ⟨w.heap.size, 0, none⟩) 2 2, .string (St8 [98]), .slice (some ⟨w.heap.size + 1, 0, none⟩) 2 2] 44)
  replace b1 := b1.alloc (.cells #[.string (St8 [98]), .int .i64 1, .int .i64 0] 46)
  replace b1 := b1.alloc (.cells #[.int .u8 1, .int .i64 0, .int .i64 0, .int .u8 0, .int .i64 0, .string (St8 [])] 50)
  replace b1 := b1.alloc (.cells #[.int .i64 0, .int .i64 3] 3)
  replace b1 := b1.alloc (.cells #[.string (St8 [97]), .slice (some ⟨w.heap.size + 1 + 1 + 1, 0, none⟩) 1 1, .slice (some ⟨w.heap.size + 1 + 1 + 1 + 1, 0, none⟩) 1 1, .slice none 0 0, .slice none 0 0, .slice (some ⟨w.heap.size + 1 + 1 + 1 + 1 + 1, 0, none⟩) 2 2, .slice none 0 0] 29)
  have b2 := Blk.new ((w.alloc (.cells #[.int .u8 2, .int .u8 2] 5)).alloc (.cells #[.int .u8 2, .int .u8 3] 5)) 44 #[.string (St8 [97]), .slice (some ⟨w.heap.size, 0, none⟩) 2 2, .string (St8 [98]), .slice (some ⟨w.heap.size + 1, 0, none⟩) 2 2]
  rw [show (((w.alloc (.cells #[.int .u8 2, .int .u8 2] 5)).alloc (.cells #[.int .u8 2, .int .u8 3] 5))).heap.size = w.heap.size + 1 + 1 from by simp] at b2
  replace b2 := b2.alloc (.cells #[.string (St8 [98]), .int .i64 1, .int .i64 0] 46)
  replace b2 := b2.alloc (.cells #[.int .u8 1, .int .i64 0, .int .i64 0, .int .u8 0, .int .i64 0, .string (St8 [])] 50)
  replace b2 := b2.alloc (.cells #[.int .i64 0, .int .i64 3] 3)
  replace b2 := b2.alloc (.cells #[.string (St8 [97]), .slice (some ⟨w.heap.size + 1 + 1 + 1, 0, none⟩) 1 1, .slice (some ⟨w.heap.size + 1 + 1 + 1 + 1, 0, none⟩) 1 1, .slice none 0 0, .slice none 0 0, .slice (some ⟨w.heap.size + 1 + 1 + 1 + 1 + 1, 0, none⟩) 2 2, .slice none 0 0] 29)
  have b3 := Blk.new (((w.alloc (.cells #[.int .u8 2, .int .u8 2] 5)).alloc (.cells #[.int .u8 2, .int .u8 3] 5)).alloc (.cells #[.string (St8 [97]), .slice (some ⟨w.heap.size, 0, none⟩) 2 2, .string (St8 [98]), .slice (some ⟨w.heap.size + 1, 0, none⟩) 2 2] 44)) 46 #[.string (St8 [98]), .int .i64 1, .int .i64 0]
  rw [show ((((w.alloc (.cells #[.int .u8 2, .int .u8 2] 5)).alloc (.cells #[.int .u8 2, .int .u8 3] 5)).alloc (.cells #[.string (St8 [97]), .slice (some ⟨w.heap.size, 0, none⟩) 2 2, .string (St8 [98]), .slice (some ⟨w.heap.size + 1, 0, none⟩) 2 2] 44))).heap.size = w.heap.size + 1 + 1 + 1 from by simp] at b3
  replace b3 := b3.alloc (.cells #[.int .u8 1, .int .i64 0, .int .i64 0, .int .u8 0, .int .i64 0, .string (St8 [])] 50)
  replace b3 := b3.alloc (.cells #[.int .i64 0, .int .i64 3] 3)
  replace b3 := b3.alloc (.cells #[.string (St8 [97]), .slice (some ⟨w.heap.size + 1 + 1 + 1, 0, none⟩) 1 1, .slice (some ⟨w.heap.size + 1 + 1 + 1 + 1, 0, none⟩) 1 1, .slice none 0 0, .slice none 0 0, .slice (some ⟨w.heap.size + 1 + 1 + 1 + 1 + 1, 0, none⟩) 2 2, .slice none 0 0] 29)
  have b4 := Blk.new ((((w.alloc (.cells #[.int .u8 2, .int .u8 2] 5)).alloc (.cells #[.int .u8 2, .int .u8 3] 5)).alloc (.cells #[.string (St8 [97]), .slice (some ⟨w.heap.size, 0, none⟩) 2 2, .string (St8 [98]), .slice (some ⟨w.heap.size + 1, 0, none⟩) 2 2] 44)).alloc (.cells #[.string (St8 [98]), .int .i64 1, .int .i64 0] 46)) 50 #[.int .u8 1, .int .i64 0, .int .i64 0, .int .u8 0, .int .i64 0, .string (St8 [])]
  rw [show (((((w.alloc (.cells #[.int .u8 2, .int .u8 2] 5)).alloc (.cells #[.int .u8 2, .int .u8 3] 5)).alloc (.cells #[.string (St8 [97]), .slice (some ⟨w.heap.size, 0, none⟩) 2 2, .string (St8 [98]), .slice (some ⟨w.heap.size + 1, 0, none⟩) 2 2] 44)).alloc (.cells #[.string (St8 [98]), .int .i64 1, .int .i64 0] 46))).heap.size = w.heap.size + 1 + 1 + 1 + 1 from by simp] at b4
  replace b4 := b4.alloc (.cells #[.int .i64 0, .int .i64 3] 3)
  replace b4 := b4.alloc (.cells #[.string (St8 [97]), .slice (some ⟨w.heap.size + 1 + 1 + 1, 0, none⟩) 1 1, .slice (some ⟨w.heap.size + 1 + 1 + 1 + 1, 0, none⟩) 1 1, .slice none 0 0, .slice none 0 0, .slice (some ⟨w.heap.size + 1 + 1 + 1 + 1 + 1, 0, none⟩) 2 2, .slice none 0 0] 29)
  have b5 := Blk.new (((((w.alloc (.cells #[.int .u8 2, .int .u8 2] 5)).alloc (.cells #[.int .u8 2, .int .u8 3] 5)).alloc (.cells #[.string (St8 [97]), .slice (some ⟨w.heap.size, 0, none⟩) 2 2, .string (St8 [98]), .slice (some ⟨w.heap.size + 1, 0, none⟩) 2 2] 44)).alloc (.cells #[.string (St8 [98]), .int .i64 1, .int .i64 0] 46)).alloc (.cells #[.int .u8 1, .int .i64 0, .int .i64 0, .int .u8 0, .int .i64 0, .string (St8 [])] 50)) 3 #[.int .i64 0, .int .i64 3]
  rw [show ((((((w.alloc (.cells #[.int .u8 2, .int .u8 2] 5)).alloc (.cells #[.int .u8 2, .int .u8 3] 5)).alloc (.cells #[.string (St8 [97]), .slice (some ⟨w.heap.size, 0, none⟩) 2 2, .string (St8 [98]), .slice (some ⟨w.heap.size + 1, 0, none⟩) 2 2] 44)).alloc (.cells #[.string (St8 [98]), .int .i64 1, .int .i64 0] 46)).alloc (.cells #[.int .u8 1, .int .i64 0, .int .i64 0, .int .u8 0, .int .i64 0, .string (St8 [])] 50))).heap.size = w.heap.size + 1 + 1 + 1 + 1 + 1 from by simp] at b5
  replace b5 := b5.alloc (.cells #[.string (St8 [97]), .slice (some ⟨w.heap.size + 1 + 1 + 1, 0, none⟩) 1 1, .slice (some ⟨w.heap.size + 1 + 1 + 1 + 1, 0, none⟩) 1 1, .slice none 0 0, .slice none 0 0, .slice (some ⟨w.heap.size + 1 + 1 + 1 + 1 + 1, 0, none⟩) 2 2, .slice none 0 0] 29)
  have b6 := Blk.new ((((((w.alloc (.cells #[.int .u8 2, .int .u8 2] 5)).alloc (.cells #[.int .u8 2, .int .u8 3] 5)).alloc (.cells #[.string (St8 [97]), .slice (some ⟨w.heap.size, 0, none⟩) 2 2, .string (St8 [98]), .slice (some ⟨w.heap.size + 1, 0, none⟩) 2 2] 44)).alloc (.cells #[.string (St8 [98]), .int .i64 1, .int .i64 0] 46)).alloc (.cells #[.int .u8 1, .int .i64 0, .int .i64 0, .int .u8 0, .int .i64 0, .string (St8 [])] 50)).alloc (.cells #[.int .i64 0, .int .i64 3] 3)) 29 #[.string (St8 [97]), .slice (some ⟨w.heap.size + 1 + 1 + 1, 0, none⟩) 1 1, .slice (some ⟨w.heap.size + 1 + 1 + 1 + 1, 0, none⟩) 1 1, .slice none 0 0, .slice none 0 0, .slice (some ⟨w.heap.size + 1 + 1 + 1 + 1 + 1, 0, none⟩) 2 2, .slice none 0 0]
  rw [show (((((((w.alloc (.cells #[.int .u8 2, .int .u8 2] 5)).alloc (.cells #[.int .u8 2, .int .u8 3] 5)).alloc (.cells #[.string (St8 [97]), .slice (some ⟨w.heap.size, 0, none⟩) 2 2, .string (St8 [98]), .slice (some ⟨w.heap.size + 1, 0, none⟩) 2 2] 44)).alloc (.cells #[.string (St8 [98]), .int .i64 1, .int .i64 0] 46)).alloc (.cells #[.int .u8 1, .int .i64 0, .int .i64 0, .int .u8 0, .int .i64 0, .string (St8 [])] 50)).alloc (.cells #[.int .i64 0, .int .i64 3] 3))).heap.size = w.heap.size + 1 + 1 + 1 + 1 + 1 + 1 from by simp] at b6
  obtain ⟨wS, hwS⟩ : ∃ x, x = (((((((w.alloc (.cells #[.int .u8 2, .int .u8 2] 5)).alloc (.cells #[.int .u8 2, .int .u8 3] 5)).alloc (.cells #[.string (St8 [97]), .slice (some ⟨w.heap.size, 0, none⟩) 2 2, .string (St8 [98]), .slice (some ⟨w.heap.size + 1, 0, none⟩) 2 2] 44)).alloc (.cells #[.string (St8 [98]), .int .i64 1, .int .i64 0] 46)).alloc (.cells #[.int .u8 1, .int .i64 0, .int .i64 0, .int .u8 0, .int .i64 0, .string (St8 [])] 50)).alloc (.cells #[.int .i64 0, .int .i64 3] 3)).alloc (.cells #[.string (St8 [97]), .slice (some ⟨w.heap.size + 1 + 1 + 1, 0, none⟩) 1 1, .slice (some ⟨w.heap.size + 1 + 1 + 1 + 1, 0, none⟩) 1 1, .slice none 0 0, .slice none 0 0, .slice (some ⟨w.heap.size + 1 + 1 + 1 + 1 + 1, 0, none⟩) 2 2, .slice none 0 0] 29)) := ⟨_, rfl⟩
  have hbS : Below w.heap.size w wS := by
    rw [hwS]
    exact ((((((((Below.refl _ _).alloc (Nat.le_refl _) _).alloc (by simp <;> omega) _).alloc (by simp <;> omega) _).alloc (by simp <;> omega) _).alloc (by simp <;> omega) _).alloc (by simp <;> omega) _).alloc (by simp <;> omega) _)
  rw [← hwS] at b0
  rw [← hwS] at b1
  rw [← hwS] at b2
  rw [← hwS] at b3
  rw [← hwS] at b4
  rw [← hwS] at b5
  rw [← hwS] at b6
  have hT : Tin wS (some ⟨w.heap.size + 1 + 1, 0, none⟩) (shL w.heap.size) := by
    refine ⟨Rd.of_blk b2, fun h hh => ?_⟩
    rcases List.mem_cons.1 hh with rfl | hh
    · exact Rd.of_blk b0
    · rcases List.mem_cons.1 hh with rfl | hh
      · exact Rd.of_blk b1
      · cases hh
  have hQ : Qi wS shQ (some ⟨w.heap.size + 1 + 1 + 1, 0, none⟩) 1 (some ⟨w.heap.size + 1 + 1 + 1 + 1, 0, none⟩) 1 none 0 none 0 (some ⟨w.heap.size + 1 + 1 + 1 + 1 + 1, 0, none⟩) 2 none 0 :=
    ⟨rfl, rfl, rfl, rfl, rfl, rfl, Rd.of_blk b3, Rd.of_blk b4, Rd.nil _ _, Rd.nil _ _, Rd.of_blk b5, Rd.nil _ _⟩
  have hck := fun w' (hw : Below wS.heap.size wS w') => qcheck_any (shL w.heap.size) (some ⟨w.heap.size + 1 + 1, 0, none⟩) 2 2 shQ (some ⟨w.heap.size + 1 + 1 + 1, 0, none⟩) 1 1 (some ⟨w.heap.size + 1 + 1 + 1 + 1, 0, none⟩) 1 1 none 0 0 none 0 0 (some ⟨w.heap.size + 1 + 1 + 1 + 1 + 1, 0, none⟩) 2 2 none 0 0 w' rfl (hT.below hw) shFew.1 (hQ.below hw) shFew.2 ⟨Nat.le_refl _, Nat.zero_le _⟩
  have hne := fun w' (hw : Below wS.heap.size wS w') => needs_any (shL w.heap.size) (some ⟨w.heap.size + 1 + 1, 0, none⟩) 2 2 shQ (some ⟨w.heap.size + 1 + 1 + 1, 0, none⟩) 1 1 (some ⟨w.heap.size + 1 + 1 + 1 + 1, 0, none⟩) 1 1 none 0 0 none 0 0 (some ⟨w.heap.size + 1 + 1 + 1 + 1 + 1, 0, none⟩) 2 2 none 0 0 w' rfl (hT.below hw) shFew.1 (hQ.below hw) shFew.2 ⟨Nat.le_refl _, Nat.zero_le _⟩
  simp only [shL_t, shC, shN, List.length_cons, List.length_nil, Nat.zero_add, Nat.reduceAdd] at hck hne
  have Hck := Lib.hid hck
  have Hne := Lib.hid hne
  have HbS := Lib.hid hbS
  have Hce := Lib.hid (fun w' (hw : Below wS.heap.size wS w') => (⟨(b6.below hw).cell 0, (b6.below hw).cell 1, (b6.below hw).cell 2, (b6.below hw).cell 3, (b6.below hw).cell 4, (b6.below hw).cell 5, (b6.below hw).cell 6⟩ : w'.cell? ⟨w.heap.size + 1 + 1 + 1 + 1 + 1 + 1, 0, none⟩ = some (.string (St8 [97])) ∧ w'.cell? ⟨w.heap.size + 1 + 1 + 1 + 1 + 1 + 1, 1, none⟩ = some (.slice (some ⟨w.heap.size + 1 + 1 + 1, 0, none⟩) 1 1) ∧ w'.cell? ⟨w.heap.size + 1 + 1 + 1 + 1 + 1 + 1, 2, none⟩ = some (.slice (some ⟨w.heap.size + 1 + 1 + 1 + 1, 0, none⟩) 1 1) ∧ w'.cell? ⟨w.heap.size + 1 + 1 + 1 + 1 + 1 + 1, 3, none⟩ = some (.slice none 0 0) ∧ w'.cell? ⟨w.heap.size + 1 + 1 + 1 + 1 + 1 + 1, 4, none⟩ = some (.slice none 0 0) ∧ w'.cell? ⟨w.heap.size + 1 + 1 + 1 + 1 + 1 + 1, 5, none⟩ = some (.slice (some ⟨w.heap.size + 1 + 1 + 1 + 1 + 1, 0, none⟩) 2 2) ∧ w'.cell? ⟨w.heap.size + 1 + 1 + 1 + 1 + 1 + 1, 6, none⟩ = some (.slice none 0 0)))
  have hst : (St8 [2, 3]).toList = [2, 3] := St8_list _
  clear hck hne hbS hT hQ b0 b1 b2 b3 b4 b5 b6
  go_enter Tryd.func5, Tryd.ntmps5
  go_wp2_with fail
  show Calls Tryd.prog 11 #[.slice (some ⟨w.heap.size + 1 + 1, 0, none⟩) 2 2, .agg #[.string (St8 [97]), .slice (some ⟨w.heap.size + 1 + 1 + 1, 0, none⟩) 1 1, .slice (some ⟨w.heap.size + 1 + 1 + 1 + 1, 0, none⟩) 1 1, .slice none 0 0, .slice none 0 0, .slice (some ⟨w.heap.size + 1 + 1 + 1 + 1 + 1, 0, none⟩) 2 2, .slice none 0 0]] (((((((w.alloc (.cells #[.int .u8 2, .int .u8 2] 5)).alloc (.cells #[.int .u8 2, .int .u8 3] 5)).alloc (.cells #[.string (St8 [97]), .slice (some ⟨w.heap.size, 0, none⟩) 2 2, .string (St8 [98]), .slice (some ⟨w.heap.size + 1, 0, none⟩) 2 2] 44)).alloc (.cells #[.string (St8 [98]), .int .i64 1, .int .i64 0] 46)).alloc (.cells #[.int .u8 1, .int .i64 0, .int .i64 0, .int .u8 0, .int .i64 0, .string (St8 [])] 50)).alloc (.cells #[.int .i64 0, .int .i64 3] 3)).alloc (.cells #[.string (St8 [97]), .slice (some ⟨w.heap.size + 1 + 1 + 1, 0, none⟩) 1 1, .slice (some ⟨w.heap.size + 1 + 1 + 1 + 1, 0, none⟩) 1 1, .slice none 0 0, .slice none 0 0, .slice (some ⟨w.heap.size + 1 + 1 + 1 + 1 + 1, 0, none⟩) 2 2, .slice none 0 0] 29)) _
  rw [← hwS]
  refine (Hck.out wS (Below.refl _ _)).mono ?_
  rintro e w1 ⟨⟨K, d, rfl, hoK⟩, hb1⟩
  have Hb1 := Lib.hid hb1
  have HrK := Lib.hid hoK.rd
  obtain ⟨k0, k1, k2, k3, k4, k5, k6⟩ := Hce.out w1 hb1
  clear hb1 hoK Hck
  go_wp2_with fail
  refine (Hne.out w1 Hb1.out).mono ?_
  rintro e w2 ⟨⟨A, hs, d2, rfl, hl2, hrA, hil⟩, hb2⟩
  have HbF := Lib.hid (HbS.out.trans ((Hb1.out.trans (hb2.mono Hb1.out.size)).mono HbS.out.size))
  have hcv := run_str w2 K [2, 3] 2 d rfl (HrK.out.below hb2)
  obtain ⟨A0, d0, e0, r0⟩ := hil 0 [0, 1] rfl
  obtain ⟨A1, d1, e1, r1⟩ := hil 1 [0, 1] rfl
  obtain ⟨ab, ao, rfl, hca⟩ := hrA (by intro e; rw [e] at e0; cases e0)
  have c0 := hca 0 _ e0
  have c1 := hca 1 _ e1
  rw [Nat.add_zero] at c0
  have hb3 : Below w2.heap.size w2 (w2.alloc (.cells #[.int .i64 0, .int .i64 1] 3)) := (Below.refl _ _).alloc (Nat.le_refl _) _
  have hi1 := ints_same [0, 1] 2 A0 (some ⟨w2.heap.size, 0, none⟩) d0 2 (w2.alloc (.cells #[.int .i64 0, .int .i64 1] 3)) rfl (r0.below hb3) (Rd.of_blk (Blk.new w2 3 #[.int .i64 0, .int .i64 1])) (by omega)
  have Hi1 := Lib.hid hi1
  have Hr1 := Lib.hid r1
  have Hc1 := Lib.hid (fun w' (hw : Below w2.heap.size w2 w') => (show w'.cell? ⟨ab, ao + 1, none⟩ = some (.slice A1 2 d1) from (hw.cell (p := ⟨ab, ao + 1, none⟩) (lt_of_range hca (by intro e; rw [e] at e0; cases e0))).trans c1))
  have Hb3 := Lib.hid hb3
  clear hb2 hb3 hi1 r0 r1 hil hca hrA e0 e1 hl2 k0 k1 k2 k3 k4 k5 k6 Hne
  go_wp2_with fail
  refine Hi1.out.mono ?_
  rintro e w3 ⟨rfl, hb4⟩
  have hb34 := Hb3.out.trans (hb4.mono Hb3.out.size)
  have c1' := Hc1.out w3 hb34
  have hb5 : Below w3.heap.size w3 (w3.alloc (.cells #[.int .i64 0, .int .i64 1] 3)) := (Below.refl _ _).alloc (Nat.le_refl _) _
  have Hi2 := Lib.hid (ints_same [0, 1] 2 A1 (some ⟨w3.heap.size, 0, none⟩) d1 2 (w3.alloc (.cells #[.int .i64 0, .int .i64 1] 3)) rfl ((Hr1.out.below hb34).below hb5) (Rd.of_blk (Blk.new w3 3 #[.int .i64 0, .int .i64 1])) (by omega))
  have Hb5 := Lib.hid (HbF.out.trans ((hb34.trans (hb5.mono hb34.size)).mono HbF.out.size))
  clear hb4 hb34 hb5 c1
  go_wp2_with fail
  refine Hi2.out.mono ?_
  rintro e w4 ⟨rfl, hb6⟩
  have Hb6 := Lib.hid (Hb5.out.trans (hb6.mono Hb5.out.size))
  go_wp2_with fail
  go_ret
  exact ⟨rfl, Hb6.out⟩
end Go.Proofs.YtheafcfbahdcfaaDoor
namespace Go.Proofs.YtheafcfbahdcfaaDoor
set_option linter.unusedVariables false
set_option linter.unusedSimpArgs false
open Go.RowKit

attribute [local go_sem ↓] Go.wp_at_zero Go.wp_at_succ

set_option maxHeartbeats 16000000 in
set_option maxRecDepth 100000 in
theorem qfew_any (l : List Th) (L : Option Addr) (n c : Nat) (q : Qy) (a1 : Option Addr) (n1 c1 : Nat) (a2 : Option Addr) (n2 c2 : Nat) (a3 : Option Addr) (n3 c3 : Nat) (a4 : Option Addr) (n4 c4 : Nat) (a5 : Option Addr) (n5 c5 : Nat) (a6 : Option Addr) (n6 c6 : Nat) (w : World) (hl : l.length = n) (hL : Rd w L (thc l)) (hq : Qi w q a1 n1 a2 n2 a3 n3 a4 n4 a5 n5 a6 n6) :
    Calls Tryd.prog 6 #[.slice L n c, .agg #[.string (St8 q.frm), .slice a1 n1 c1, .slice a2 n2 c2, .slice a3 n3 c3, .slice a4 n4 c4, .slice a5 n5 c5, .slice a6 n6 c6]] w fun e w' => (e = .returned (.bool false) ∨ (e = .returned (.bool true) ∧ FewT (l.map Th.t) ∧ q.Few)) ∧ Below w.heap.size w w' := by
  have Hl := Lib.hid hl
  have Hq := Lib.hid hq
  have hz := St8_size q.frm
  obtain ⟨wb, hwb⟩ : ∃ x, x = w.alloc (.cells #[.string (St8 q.frm), .slice a1 n1 c1, .slice a2 n2 c2, .slice a3 n3 c3, .slice a4 n4 c4, .slice a5 n5 c5, .slice a6 n6 c6] 29) := ⟨_, rfl⟩
  have Hbb : Hid (Below w.heap.size w wb) := by
    show Below _ _ _
    rw [hwb]
    exact (Below.refl _ _).alloc (Nat.le_refl _) _
  have HL := Lib.hid (hL.below Hbb.out)
  have HN := Lib.hid ((hq.below Hbb.out).r2)
  clear hl hL hq
  by_cases h0 : 12 < (n : Int)
  · go_enter Tryd.func6, Tryd.ntmps6
    go_wp2_with fail
    go_ret
    exact ⟨.inl rfl, by (try rw [← hwb]); exact Hbb.out⟩
  · skip
    by_cases h1 : 200 < (q.frm.length : Int)
    · go_enter Tryd.func6, Tryd.ntmps6
      go_wp2_with fail
      go_ret
      exact ⟨.inl rfl, by (try rw [← hwb]); exact Hbb.out⟩
    · skip
      by_cases h2 : 12 < (n1 : Int)
      · go_enter Tryd.func6, Tryd.ntmps6
        go_wp2_with fail
        go_ret
        exact ⟨.inl rfl, by (try rw [← hwb]); exact Hbb.out⟩
      · skip
        by_cases h3 : 60 < (n2 : Int)
        · go_enter Tryd.func6, Tryd.ntmps6
          go_wp2_with fail
          go_ret
          exact ⟨.inl rfl, by (try rw [← hwb]); exact Hbb.out⟩
        · skip
          by_cases h4 : 12 < (n3 : Int)
          · go_enter Tryd.func6, Tryd.ntmps6
            go_wp2_with fail
            go_ret
            exact ⟨.inl rfl, by (try rw [← hwb]); exact Hbb.out⟩
          · skip
            by_cases h5 : 12 < (n4 : Int)
            · go_enter Tryd.func6, Tryd.ntmps6
              go_wp2_with fail
              go_ret
              exact ⟨.inl rfl, by (try rw [← hwb]); exact Hbb.out⟩
            · skip
              by_cases h6 : 12 < (n5 : Int)
              · go_enter Tryd.func6, Tryd.ntmps6
                go_wp2_with fail
                go_ret
                exact ⟨.inl rfl, by (try rw [← hwb]); exact Hbb.out⟩
              · skip
                by_cases h7 : 12 < (n6 : Int)
                · go_enter Tryd.func6, Tryd.ntmps6
                  go_wp2_with fail
                  go_ret
                  exact ⟨.inl rfl, by (try rw [← hwb]); exact Hbb.out⟩
                · skip
                  have Hfin : Hid ((∀ h ∈ l, h.t.name.length ≤ 200 ∧ h.t.kinds.length ≤ 12) → (∀ x ∈ q.asked, x.v.s.length ≤ 200) → FewT (l.map Th.t) ∧ q.Few) := Lib.hid fun k1 k2 => by
                    refine ⟨⟨by rw [List.length_map, Hl.out]; omega, fun t ht => ?_, fun t ht => ?_⟩, ⟨by omega, by rw [Hq.out.l1]; omega, by rw [Hq.out.l2]; omega, by rw [Hq.out.l3]; omega, by rw [Hq.out.l4]; omega, by rw [Hq.out.l5]; omega, by rw [Hq.out.l6]; omega, k2⟩⟩
                    · obtain ⟨h, hh, rfl⟩ := List.mem_map.1 ht
                      have := (k1 h hh).1
                      omega
                    · obtain ⟨h, hh, rfl⟩ := List.mem_map.1 ht
                      exact (k1 h hh).2
                  have H2 := Lib.hid Hq.out.l2
                  go_enter Tryd.func6, Tryd.ntmps6
                  go_wp2_with fail
                  go_loopw [56] (fun vi wr => ∃ j : Nat, vi = .int .i64 j ∧ j ≤ n ∧ Hid (∀ h ∈ l.take j, h.t.name.length ≤ 200 ∧ h.t.kinds.length ≤ 12) ∧ Hid (Below wb.heap.size wb wr)) (fun vi _ => n - (intOf vi).toNat)
                  case atStart => exact ⟨0, rfl, by omega, by (show ∀ k ∈ ([] : List Th), _); simp, by (try rw [← hwb]); exact Below.refl _ _⟩
                  case round =>
                    obtain ⟨j, rfl, hj, Hall, Hb⟩ := hrel
                    by_cases hjn : j < n
                    · have hjI : (j : Int) < (n : Int) := by omega
                      have hjI0 : (0 : Int) ≤ (j : Int) := by omega
                      have hjl : j < l.length := by rw [Hl.out]; exact hjn
                      obtain ⟨b, o, hLe, c0, c1⟩ := (HL.out.below Hb.out).table hjl
                      have hts := List.take_succ_eq_append_getElem hjl
                      have Hts := Lib.hid hts
                      have Hbf := Lib.hid (fun u => Hbb.out.trans ((Hb.out.alloc Hb.out.size u).mono Hbb.out.size))
                      clear hts
                      subst hLe
                      generalize l[j] = x at *
                      obtain ⟨⟨nm, kn⟩, a, cc⟩ := x
                      dsimp only at c0 c1
                      have hzn := St8_size nm
                      generalize hkl : kn.length = m at *
                      have Hkl := Lib.hid hkl
                      clear hkl hjl
                      by_cases g1 : 200 < (nm.length : Int)
                      · go_wp2_with fail
                        go_ret
                        exact ⟨.inl rfl, Hbf.out _⟩
                      · by_cases g2 : 12 < (m : Int)
                        · go_wp2_with fail
                          go_ret
                          exact ⟨.inl rfl, Hbf.out _⟩
                        · have Hall2 : Hid (∀ h ∈ l.take (j + 1), h.t.name.length ≤ 200 ∧ h.t.kinds.length ≤ 12) := Lib.hid fun h hh => by
                            rw [Hts.out, List.mem_append, List.mem_singleton] at hh
                            rcases hh with hh | rfl
                            · exact Hall.out h hh
                            · exact ⟨by show nm.length ≤ 200; omega, by show kn.length ≤ 12; rw [Hkl.out]; omega⟩
                          have Hb9 : Hid (Below wb.heap.size wb (wr.alloc (.cells #[.string (St8 nm), .slice a m cc] 44))) := Hb.out.alloc Hb.out.size _
                          go_wp2_with fail
                          go_roundw
                          case rel => exact ⟨j + 1, by go_num, by omega, Hall2, Hb9⟩
                          case measure => simp [intOf]; omega
                    · obtain rfl : j = n := by omega
                      have Hk1 : Hid (∀ h ∈ l, h.t.name.length ≤ 200 ∧ h.t.kinds.length ≤ 12) := by
                        have := Hall.out
                        rwa [List.take_of_length_le (by rw [Hl.out]; exact Nat.le_refl _)] at this
                      clear Hall
                      have hbx : Blk wb w.heap.size 29 (#[.string (St8 q.frm), .slice a1 n1 c1, .slice a2 n2 c2, .slice a3 n3 c3, .slice a4 n4 c4, .slice a5 n5 c5, .slice a6 n6 c6]).toList := by
                        rw [hwb]
                        exact Blk.new w _ _
                      have k2 := (hbx.below Hb.out).cell 2
                      simp only [List.getElem?_cons_succ, List.getElem?_cons_zero] at k2
                      clear hbx
                      generalize wr = w3 at *
                      go_wp2_with fail
                      go_loopw [74] (fun vi wr => ∃ i : Nat, vi = .int .i64 i ∧ i ≤ n2 ∧ Hid (∀ x ∈ q.asked.take i, x.v.s.length ≤ 200) ∧ Hid (Below wb.heap.size wb wr)) (fun vi _ => n2 - (intOf vi).toNat)
                      case atStart => exact ⟨0, rfl, by omega, by (show ∀ k ∈ ([] : List Nd), _); simp, Hb⟩
                      case round =>
                        obtain ⟨i, rfl, hi, Hall, Hb⟩ := hrel
                        by_cases hin : i < n2
                        · have hiI : (i : Int) < (n2 : Int) := by omega
                          have hiI0 : (0 : Int) ≤ (i : Int) := by omega
                          have hil : i < q.asked.length := by rw [H2.out]; exact hin
                          obtain ⟨b, o, hNe, c0, c1', c2', c3', c4', c5'⟩ := node_cells (HN.out.below Hb.out) (List.getElem?_eq_getElem hil)
                          have hts := List.take_succ_eq_append_getElem hil
                          have Hts := Lib.hid hts
                          have Hbf := Lib.hid (fun u => Hbb.out.trans ((Hb.out.alloc Hb.out.size u).mono Hbb.out.size))
                          have Hbg := Lib.hid (fun u => Hb.out.alloc Hb.out.size u)
                          clear hts
                          subst hNe
                          generalize q.asked[i] = x at *
                          obtain ⟨op, col, kids, k, nn, s⟩ := x
                          dsimp only at c0 c1' c2' c3' c4' c5'
                          have hzs := St8_size s
                          clear hil
                          by_cases g1 : 200 < (s.length : Int)
                          · go_wp2_with fail
                            go_ret
                            exact ⟨.inl rfl, Hbf.out _⟩
                          · have Hall2 : Hid (∀ x ∈ q.asked.take (i + 1), x.v.s.length ≤ 200) := Lib.hid fun x hx => by
                              rw [Hts.out, List.mem_append, List.mem_singleton] at hx
                              rcases hx with hx | rfl
                              · exact Hall.out x hx
                              · show s.length ≤ 200; omega
                            go_wp2_with fail
                            go_roundw
                            case rel => exact ⟨i + 1, by go_num, by omega, Hall2, Hbg.out _⟩
                            case measure => simp [intOf]; omega
                        · obtain rfl : i = n2 := by omega
                          have Hk2 : Hid (∀ x ∈ q.asked, x.v.s.length ≤ 200) := by
                            have := Hall.out
                            rwa [List.take_of_length_le (by rw [H2.out]; exact Nat.le_refl _)] at this
                          have Hbf := Lib.hid (Hbb.out.trans (Hb.out.mono Hbb.out.size))
                          go_wp2_with fail
                          go_ret
                          exact ⟨.inr ⟨rfl, Hfin.out Hk1.out Hk2.out⟩, Hbf.out⟩
end Go.Proofs.YtheafcfbahdcfaaDoor
namespace Go.Proofs.YtheafcfbahdcfaaDoor
set_option linter.unusedVariables false
set_option linter.unusedSimpArgs false
open Go.RowKit

theorem kinds_in {l : List Tb} (h : tablesOk l = true) : ∀ k < l.length, ∀ x ∈ tabK l k, kindT x = true := by
  intro k hk x hx
  have h1 := ((tablesOk_iff l).1 h).2 k hk
  unfold tabK at hx
  rw [List.getD_eq_getElem?_getD, List.getElem?_eq_getElem hk] at hx
  have h2 := h1.1
  unfold tableOk at h2
  rw [Bool.and_eq_true] at h2
  exact List.all_eq_true.1 h2.2 x hx
theorem flat_kinds {l : List Tb} {q : Qy} (h : joinedE l q = 0) : ∀ x ∈ (ktabs l q).flatten, kindT x = true := by
  intro x hx
  obtain ⟨k, hk, hx2⟩ := List.mem_flatten.1 hx
  unfold ktabs at hk
  obtain ⟨i, hi, rfl⟩ := List.mem_map.1 hk
  exact kinds_in (joinedP_some h).1 i (joinedP_lt hi) x hx2
theorem getD_kind {kinds : List Int} (h : ∀ x ∈ kinds, kindT x = true) {c : Int} (hc : inK kinds c = true) : kindT (kinds.getD c.toNat 0) = true := by
  obtain ⟨h1, h2⟩ := of_decide_eq_true (show decide (0 ≤ c ∧ c < (kinds.length : Int)) = true from hc)
  have h3 : c.toNat < kinds.length := by omega
  rw [List.getD_eq_getElem?_getD, List.getElem?_eq_getElem h3]
  exact h _ (List.getElem_mem h3)
theorem group_ok {kinds by_ : List Int} {l : List Ag} (hk : ∀ x ∈ kinds, kindT x = true) (h : (groupK kinds by_ l).2 = 0) : (groupK kinds by_ l).1.length = by_.length + l.length ∧ by_.length + l.length ≤ 8 ∧ ∀ x ∈ (groupK kinds by_ l).1, kindT x = true := by
  unfold groupK at h ⊢
  split at h
  · cases h
  · rename_i h8
    rw [if_neg h8]
    split at h
    · cases h
    · rename_i hb
      rw [if_neg hb]
      split at h
      · cases h
      · rename_i ha
        rw [if_neg ha]
        split at h
        · cases h
        · rename_i hs
          rw [if_neg hs]
          refine ⟨by rw [List.length_append, List.length_map, List.length_map], by omega, fun x hx => ?_⟩
          have hb2 : by_.all (inK kinds) = true := by
            cases e : by_.all (inK kinds) with
            | true => rfl
            | false => rw [e] at hb; exact absurd rfl hb
          have ha2 : l.all (aggOk kinds) = true := by
            cases e : l.all (aggOk kinds) with
            | true => rfl
            | false => exact absurd e ha
          rcases List.mem_append.1 hx with hx | hx
          · obtain ⟨c, hc, rfl⟩ := List.mem_map.1 hx
            exact getD_kind hk (List.all_eq_true.1 hb2 c hc)
          · obtain ⟨g, hg, rfl⟩ := List.mem_map.1 hx
            have h1 := List.all_eq_true.1 ha2 g hg
            unfold aggK
            split
            · rename_i h45
              unfold aggOk at h1
              rw [if_neg (by omega), Bool.and_eq_true] at h1
              exact getD_kind hk h1.2
            · decide
theorem told_ok {kinds : List Int} {q : Qy} (hk : ∀ x ∈ kinds, kindT x = true) (h : (toldM kinds q).2 = 0) : 1 ≤ (toldM kinds q).1.length ∧ (toldM kinds q).1.length ≤ 8 ∧ ∀ x ∈ (toldM kinds q).1, kindT x = true := by
  unfold toldM at h ⊢
  split at h
  · rename_i h0
    rw [if_pos h0]
    split at h
    · cases h
    · rename_i hw
      rw [if_neg hw]
      obtain ⟨h1, h2, h3⟩ := group_ok hk h
      exact ⟨by omega, by omega, h3⟩
  · rename_i h0
    rw [if_neg h0]
    split at h
    · cases h
    · rename_i h1
      rw [if_neg h1]
      split at h
      · rename_i h2
        rw [if_pos h2]
        refine ⟨by rw [List.length_map]; omega, by rw [List.length_map]; omega, fun x hx => ?_⟩
        obtain ⟨c, hc, rfl⟩ := List.mem_map.1 hx
        exact getD_kind hk (List.all_eq_true.1 h2 c hc)
      · cases h
theorem check_ok {l : List Tb} {q : Qy} (h : (checkM l q).2 = 0) : joinedE l q = 0 ∧ 1 ≤ (checkM l q).1.length ∧ (checkM l q).1.length ≤ 8 ∧ ∀ x ∈ (checkM l q).1, kindT x = true := by
  obtain ⟨hj, _⟩ := checkM_zero h
  have e : checkM l q = checkK (ktabs l q) q := by unfold checkM; rw [if_neg (fun h2 => h2 hj)]
  rw [e] at h ⊢
  unfold checkK at h ⊢
  split at h
  · rename_i h1
    exact absurd h h1
  · rename_i h1
    rw [if_neg h1]
    split at h
    · cases h
    · rename_i h2
      rw [if_neg h2]
      split at h
      · rename_i h3
        exact absurd h h3
      · rename_i h3
        rw [if_neg h3]
        split at h
        · rename_i h4
          exact absurd h h4
        · rename_i h4
          rw [if_neg h4]
          have h5 := told_ok (flat_kinds hj) (show (toldM (ktabs l q).flatten q).2 = 0 by omega)
          exact ⟨hj, h5⟩
theorem checkM_no {l : List Tb} {q : Qy} (h : ¬ (checkM l q).2 = 0) : (checkM l q).1 = [] := by
  unfold checkM at h ⊢
  split
  · rfl
  · rename_i h1
    rw [if_neg h1] at h
    unfold checkK at h ⊢
    split
    · rfl
    · rename_i h2
      rw [if_neg h2] at h
      split
      · rfl
      · rename_i h3
        rw [if_neg h3] at h
        split
        · rfl
        · rename_i h4
          rw [if_neg h4] at h
          split
          · rfl
          · rename_i h5
            rw [if_neg h5] at h
            exact absurd rfl h
theorem needs_no {l : List Tb} {q : Qy} (h : ¬ (checkM l q).2 = 0) : needsM l q = ([], (checkM l q).2) := by
  unfold needsM
  rw [if_pos h]
theorem needs_yes {l : List Tb} {q : Qy} (h : (checkM l q).2 = 0) : needsM l q = (needsF (allCols (ktabs l q) q) 0 (ktabs l q), 0) := by
  unfold needsM
  rw [if_neg (fun h2 => h2 h)]
theorem someC_ok (all : List Int) (a : Nat) {n : Nat} (hn : 0 < n) : someC all a n ≠ [] ∧ (∀ c ∈ someC all a n, 0 ≤ c ∧ c < (n : Int)) ∧ (someC all a n).Pairwise (· < ·) := by
  unfold someC
  dsimp only
  split
  · refine ⟨by simp, fun c hc => ?_, List.pairwise_singleton _ _⟩
    rw [List.mem_singleton] at hc
    subst hc
    omega
  · rename_i h
    refine ⟨h, fun c hc => ?_, ?_⟩
    · obtain ⟨x, hx, rfl⟩ := List.mem_map.1 hc
      have := List.mem_range.1 (List.mem_filter.1 hx).1
      omega
    · exact List.Pairwise.map _ (fun x y (hxy : x < y) => (by omega : (x : Int) < (y : Int))) (List.pairwise_lt_range.filter _)
theorem needsF_get (all : List Int) : ∀ (l : List (List Int)) (a i : Nat) (hi : i < l.length), (needsF all a l)[i]? = some (someC all (a + (l.take i).flatten.length) (l[i]).length)
  | x :: l, a, 0, _ => by simp [needsF]
  | x :: l, a, i + 1, hi => by
    rw [needsF, List.getElem?_cons_succ, needsF_get all l (a + x.length) i (by simpa using hi), List.take_succ_cons, List.flatten_cons, List.length_append, List.getElem_cons_succ, Nat.add_assoc]
/-- What is needed of one table. -/
theorem needs_ok {l : List Tb} {q : Qy} (h : (checkM l q).2 = 0) (i : Nat) (hi : i < (joinedP l q).length) :
    ∃ s, (needsM l q).1[i]? = some s ∧ s ≠ [] ∧ (∀ c ∈ s, 0 ≤ c ∧ c < ((tabK l ((joinedP l q)[i])).length : Int)) ∧ s.Pairwise (· < ·) := by
  obtain ⟨hj, _⟩ := checkM_zero h
  rw [needs_yes h]
  have hk : ktabs l q = (joinedP l q).map (tabK l) := rfl
  have hik : i < (ktabs l q).length := by rw [hk, List.length_map]; exact hi
  have hlt : (joinedP l q)[i] < l.length := joinedP_lt (List.getElem_mem hi)
  have hg : (ktabs l q)[i] = tabK l ((joinedP l q)[i]) := by
    have : (ktabs l q)[i]? = some (tabK l ((joinedP l q)[i])) := by rw [hk, List.getElem?_map, List.getElem?_eq_getElem hi]; rfl
    rw [List.getElem?_eq_getElem hik] at this
    exact Option.some.inj this
  have hpos : 0 < (tabK l ((joinedP l q)[i])).length := by
    have h1 := (((tablesOk_iff l).1 (joinedP_some hj).1).2 _ hlt).1
    unfold tableOk at h1
    rw [Bool.and_eq_true, Bool.and_eq_true, decide_eq_true_iff] at h1
    unfold tabK
    rw [List.getD_eq_getElem?_getD, List.getElem?_eq_getElem hlt]
    exact h1.1.2.1
  refine ⟨_, needsF_get _ _ 0 i hik, ?_⟩
  rw [hg]
  exact someC_ok _ _ hpos
theorem needs_len {l : List Tb} {q : Qy} (h : (checkM l q).2 = 0) : (needsM l q).1.length = q.joins.length + 1 ∧ (joinedP l q).length = q.joins.length + 1 := by
  obtain ⟨hj, _⟩ := checkM_zero h
  rw [needs_yes h]
  refine ⟨?_, joinedP_len hj⟩
  rw [needsF_len]
  show ((joinedP l q).map (tabK l)).length = _
  rw [List.length_map, joinedP_len hj]
theorem someC_small (all : List Int) (a : Nat) {n : Nat} (hn : n ≤ 12) : (someC all a n).length ≤ 12 := by
  unfold someC
  dsimp only
  split
  · decide
  · rw [List.length_map]
    have := List.length_filter_le (fun c => decide (((a + c : Nat) : Int) ∈ all)) (List.range n)
    rw [List.length_range] at this
    omega
theorem needsF_small (all : List Int) : ∀ (l : List (List Int)) (a : Nat), (∀ x ∈ l, x.length ≤ 12) → ∀ s ∈ needsF all a l, s.length ≤ 12
  | [], _, _, s, hs => by cases hs
  | x :: l, a, h, s, hs => by
    rw [needsF] at hs
    rcases List.mem_cons.1 hs with rfl | hs
    · exact someC_small all a (h x List.mem_cons_self)
    · exact needsF_small all l _ (fun y hy => h y (List.mem_cons_of_mem _ hy)) s hs
theorem needs_small {l : List Tb} {q : Qy} (hf : FewT l) : ∀ s ∈ (needsM l q).1, s.length ≤ 12 := by
  by_cases h : (checkM l q).2 = 0
  · rw [needs_yes h]
    refine needsF_small _ _ 0 fun x hx => ?_
    obtain ⟨k, _, rfl⟩ := List.mem_map.1 (show x ∈ (joinedP l q).map (tabK l) from hx)
    exact tabK_len hf.kinds k
  · rw [needs_no h]
    intro s hs
    cases hs
end Go.Proofs.YtheafcfbahdcfaaDoor
