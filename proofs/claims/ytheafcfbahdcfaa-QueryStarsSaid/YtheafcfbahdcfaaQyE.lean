/- Walks: shown: the document's examples. (Printed by gen_qye.py.) -/
import Derived.Test.YtheafcfbahdcfaaQyY
import Derived.Test.YtheafcfbahdcfaaStr
namespace Go.Proofs.Ytheafcfbahdcfaa
open Go.RowKit

attribute [local go_sem ↓] Go.wp_at_zero Go.wp_at_succ

def shQ : Qy := ⟨[97], [⟨[98], 1, 0⟩], [⟨1, 0, 0, ⟨0, 0, []⟩⟩], [], [], [0, 3], []⟩
def shT : List Tb := [⟨[97], [2, 2]⟩, ⟨[98], [2, 3]⟩]
theorem shC : checkM shT shQ = ([2, 3], 0) := by decide +kernel
theorem shN : needsM shT shQ = ([[0, 1], [0, 1]], 0) := by decide +kernel
def shL (s : Nat) : List Th := [⟨⟨[97], [2, 2]⟩, some ⟨s, 0, none⟩, 2⟩, ⟨⟨[98], [2, 3]⟩, some ⟨s + 1, 0, none⟩, 2⟩]
theorem shL_t (s : Nat) : (shL s).map Th.t = shT := rfl
theorem shFew : FewT shT ∧ shQ.Few :=
  ⟨⟨by decide, by decide, by decide⟩, ⟨by decide, by decide, by decide, by decide, by decide, by decide, by decide, by decide⟩⟩

set_option maxHeartbeats 8000000 in
set_option maxRecDepth 100000 in
theorem qshown_any (w : World) : Calls Try.prog 6 #[] w fun e w' => e = .returned (.bool true) ∧ Below w.heap.size w w' := by
  have b0 := Blk.new w 5 #[.int .u8 2, .int .u8 2]
  replace b0 := b0.alloc (.cells #[.int .u8 2, .int .u8 3] 5)
  replace b0 := b0.alloc (.cells #[.string (St8 [97]), .slice (some ⟨w.heap.size, 0, none⟩) 2 2, .string (St8 [98]), .slice (some ⟨w.heap.size + 1, 0, none⟩) 2 2] 45)
  replace b0 := b0.alloc (.cells #[.string (St8 [98]), .int .i64 1, .int .i64 0] 47)
  replace b0 := b0.alloc (.cells #[.int .u8 1, .int .i64 0, .int .i64 0, .int .u8 0, .int .i64 0, .string (St8 [])] 51)
  replace b0 := b0.alloc (.cells #[.int .i64 0, .int .i64 3] 3)
  replace b0 := b0.alloc (.cells #[.string (St8 [97]), .slice (some ⟨w.heap.size + 1 + 1 + 1, 0, none⟩) 1 1, .slice (some ⟨w.heap.size + 1 + 1 + 1 + 1, 0, none⟩) 1 1, .slice none 0 0, .slice none 0 0, .slice (some ⟨w.heap.size + 1 + 1 + 1 + 1 + 1, 0, none⟩) 2 2, .slice none 0 0] 29)
  have b1 := Blk.new (w.alloc (.cells #[.int .u8 2, .int .u8 2] 5)) 5 #[.int .u8 2, .int .u8 3]
  rw [show ((w.alloc (.cells #[.int .u8 2, .int .u8 2] 5))).heap.size = w.heap.size + 1 from by simp] at b1
  replace b1 := b1.alloc (.cells #[.string (St8 [97]), .slice (some ⟨w.heap.size, 0, none⟩) 2 2, .string (St8 [98]), .slice (some ⟨w.heap.size + 1, 0, none⟩) 2 2] 45)
  replace b1 := b1.alloc (.cells #[.string (St8 [98]), .int .i64 1, .int .i64 0] 47)
  replace b1 := b1.alloc (.cells #[.int .u8 1, .int .i64 0, .int .i64 0, .int .u8 0, .int .i64 0, .string (St8 [])] 51)
  replace b1 := b1.alloc (.cells #[.int .i64 0, .int .i64 3] 3)
  replace b1 := b1.alloc (.cells #[.string (St8 [97]), .slice (some ⟨w.heap.size + 1 + 1 + 1, 0, none⟩) 1 1, .slice (some ⟨w.heap.size + 1 + 1 + 1 + 1, 0, none⟩) 1 1, .slice none 0 0, .slice none 0 0, .slice (some ⟨w.heap.size + 1 + 1 + 1 + 1 + 1, 0, none⟩) 2 2, .slice none 0 0] 29)
  have b2 := Blk.new ((w.alloc (.cells #[.int .u8 2, .int .u8 2] 5)).alloc (.cells #[.int .u8 2, .int .u8 3] 5)) 45 #[.string (St8 [97]), .slice (some ⟨w.heap.size, 0, none⟩) 2 2, .string (St8 [98]), .slice (some ⟨w.heap.size + 1, 0, none⟩) 2 2]
  rw [show (((w.alloc (.cells #[.int .u8 2, .int .u8 2] 5)).alloc (.cells #[.int .u8 2, .int .u8 3] 5))).heap.size = w.heap.size + 1 + 1 from by simp] at b2
  replace b2 := b2.alloc (.cells #[.string (St8 [98]), .int .i64 1, .int .i64 0] 47)
  replace b2 := b2.alloc (.cells #[.int .u8 1, .int .i64 0, .int .i64 0, .int .u8 0, .int .i64 0, .string (St8 [])] 51)
  replace b2 := b2.alloc (.cells #[.int .i64 0, .int .i64 3] 3)
  replace b2 := b2.alloc (.cells #[.string (St8 [97]), .slice (some ⟨w.heap.size + 1 + 1 + 1, 0, none⟩) 1 1, .slice (some ⟨w.heap.size + 1 + 1 + 1 + 1, 0, none⟩) 1 1, .slice none 0 0, .slice none 0 0, .slice (some ⟨w.heap.size + 1 + 1 + 1 + 1 + 1, 0, none⟩) 2 2, .slice none 0 0] 29)
  have b3 := Blk.new (((w.alloc (.cells #[.int .u8 2, .int .u8 2] 5)).alloc (.cells #[.int .u8 2, .int .u8 3] 5)).alloc (.cells #[.string (St8 [97]), .slice (some ⟨w.heap.size, 0, none⟩) 2 2, .string (St8 [98]), .slice (some ⟨w.heap.size + 1, 0, none⟩) 2 2] 45)) 47 #[.string (St8 [98]), .int .i64 1, .int .i64 0]
  rw [show ((((w.alloc (.cells #[.int .u8 2, .int .u8 2] 5)).alloc (.cells #[.int .u8 2, .int .u8 3] 5)).alloc (.cells #[.string (St8 [97]), .slice (some ⟨w.heap.size, 0, none⟩) 2 2, .string (St8 [98]), .slice (some ⟨w.heap.size + 1, 0, none⟩) 2 2] 45))).heap.size = w.heap.size + 1 + 1 + 1 from by simp] at b3
  replace b3 := b3.alloc (.cells #[.int .u8 1, .int .i64 0, .int .i64 0, .int .u8 0, .int .i64 0, .string (St8 [])] 51)
  replace b3 := b3.alloc (.cells #[.int .i64 0, .int .i64 3] 3)
  replace b3 := b3.alloc (.cells #[.string (St8 [97]), .slice (some ⟨w.heap.size + 1 + 1 + 1, 0, none⟩) 1 1, .slice (some ⟨w.heap.size + 1 + 1 + 1 + 1, 0, none⟩) 1 1, .slice none 0 0, .slice none 0 0, .slice (some ⟨w.heap.size + 1 + 1 + 1 + 1 + 1, 0, none⟩) 2 2, .slice none 0 0] 29)
  have b4 := Blk.new ((((w.alloc (.cells #[.int .u8 2, .int .u8 2] 5)).alloc (.cells #[.int .u8 2, .int .u8 3] 5)).alloc (.cells #[.string (St8 [97]), .slice (some ⟨w.heap.size, 0, none⟩) 2 2, .string (St8 [98]), .slice (some ⟨w.heap.size + 1, 0, none⟩) 2 2] 45)).alloc (.cells #[.string (St8 [98]), .int .i64 1, .int .i64 0] 47)) 51 #[.int .u8 1, .int .i64 0, .int .i64 0, .int .u8 0, .int .i64 0, .string (St8 [])]
  rw [show (((((w.alloc (.cells #[.int .u8 2, .int .u8 2] 5)).alloc (.cells #[.int .u8 2, .int .u8 3] 5)).alloc (.cells #[.string (St8 [97]), .slice (some ⟨w.heap.size, 0, none⟩) 2 2, .string (St8 [98]), .slice (some ⟨w.heap.size + 1, 0, none⟩) 2 2] 45)).alloc (.cells #[.string (St8 [98]), .int .i64 1, .int .i64 0] 47))).heap.size = w.heap.size + 1 + 1 + 1 + 1 from by simp] at b4
  replace b4 := b4.alloc (.cells #[.int .i64 0, .int .i64 3] 3)
  replace b4 := b4.alloc (.cells #[.string (St8 [97]), .slice (some ⟨w.heap.size + 1 + 1 + 1, 0, none⟩) 1 1, .slice (some ⟨w.heap.size + 1 + 1 + 1 + 1, 0, none⟩) 1 1, .slice none 0 0, .slice none 0 0, .slice (some ⟨w.heap.size + 1 + 1 + 1 + 1 + 1, 0, none⟩) 2 2, .slice none 0 0] 29)
  have b5 := Blk.new (((((w.alloc (.cells #[.int .u8 2, .int .u8 2] 5)).alloc (.cells #[.int .u8 2, .int .u8 3] 5)).alloc (.cells #[.string (St8 [97]), .slice (some ⟨w.heap.size, 0, none⟩) 2 2, .string (St8 [98]), .slice (some ⟨w.heap.size + 1, 0, none⟩) 2 2] 45)).alloc (.cells #[.string (St8 [98]), .int .i64 1, .int .i64 0] 47)).alloc (.cells #[.int .u8 1, .int .i64 0, .int .i64 0, .int .u8 0, .int .i64 0, .string (St8 [])] 51)) 3 #[.int .i64 0, .int .i64 3]
  rw [show ((((((w.alloc (.cells #[.int .u8 2, .int .u8 2] 5)).alloc (.cells #[.int .u8 2, .int .u8 3] 5)).alloc (.cells #[.string (St8 [97]), .slice (some ⟨w.heap.size, 0, none⟩) 2 2, .string (St8 [98]), .slice (some ⟨w.heap.size + 1, 0, none⟩) 2 2] 45)).alloc (.cells #[.string (St8 [98]), .int .i64 1, .int .i64 0] 47)).alloc (.cells #[.int .u8 1, .int .i64 0, .int .i64 0, .int .u8 0, .int .i64 0, .string (St8 [])] 51))).heap.size = w.heap.size + 1 + 1 + 1 + 1 + 1 from by simp] at b5
  replace b5 := b5.alloc (.cells #[.string (St8 [97]), .slice (some ⟨w.heap.size + 1 + 1 + 1, 0, none⟩) 1 1, .slice (some ⟨w.heap.size + 1 + 1 + 1 + 1, 0, none⟩) 1 1, .slice none 0 0, .slice none 0 0, .slice (some ⟨w.heap.size + 1 + 1 + 1 + 1 + 1, 0, none⟩) 2 2, .slice none 0 0] 29)
  have b6 := Blk.new ((((((w.alloc (.cells #[.int .u8 2, .int .u8 2] 5)).alloc (.cells #[.int .u8 2, .int .u8 3] 5)).alloc (.cells #[.string (St8 [97]), .slice (some ⟨w.heap.size, 0, none⟩) 2 2, .string (St8 [98]), .slice (some ⟨w.heap.size + 1, 0, none⟩) 2 2] 45)).alloc (.cells #[.string (St8 [98]), .int .i64 1, .int .i64 0] 47)).alloc (.cells #[.int .u8 1, .int .i64 0, .int .i64 0, .int .u8 0, .int .i64 0, .string (St8 [])] 51)).alloc (.cells #[.int .i64 0, .int .i64 3] 3)) 29 #[.string (St8 [97]), .slice (some ⟨w.heap.size + 1 + 1 + 1, 0, none⟩) 1 1, .slice (some ⟨w.heap.size + 1 + 1 + 1 + 1, 0, none⟩) 1 1, .slice none 0 0, .slice none 0 0, .slice (some ⟨w.heap.size + 1 + 1 + 1 + 1 + 1, 0, none⟩) 2 2, .slice none 0 0]
  rw [show (((((((w.alloc (.cells #[.int .u8 2, .int .u8 2] 5)).alloc (.cells #[.int .u8 2, .int .u8 3] 5)).alloc (.cells #[.string (St8 [97]), .slice (some ⟨w.heap.size, 0, none⟩) 2 2, .string (St8 [98]), .slice (some ⟨w.heap.size + 1, 0, none⟩) 2 2] 45)).alloc (.cells #[.string (St8 [98]), .int .i64 1, .int .i64 0] 47)).alloc (.cells #[.int .u8 1, .int .i64 0, .int .i64 0, .int .u8 0, .int .i64 0, .string (St8 [])] 51)).alloc (.cells #[.int .i64 0, .int .i64 3] 3))).heap.size = w.heap.size + 1 + 1 + 1 + 1 + 1 + 1 from by simp] at b6
  obtain ⟨wS, hwS⟩ : ∃ x, x = (((((((w.alloc (.cells #[.int .u8 2, .int .u8 2] 5)).alloc (.cells #[.int .u8 2, .int .u8 3] 5)).alloc (.cells #[.string (St8 [97]), .slice (some ⟨w.heap.size, 0, none⟩) 2 2, .string (St8 [98]), .slice (some ⟨w.heap.size + 1, 0, none⟩) 2 2] 45)).alloc (.cells #[.string (St8 [98]), .int .i64 1, .int .i64 0] 47)).alloc (.cells #[.int .u8 1, .int .i64 0, .int .i64 0, .int .u8 0, .int .i64 0, .string (St8 [])] 51)).alloc (.cells #[.int .i64 0, .int .i64 3] 3)).alloc (.cells #[.string (St8 [97]), .slice (some ⟨w.heap.size + 1 + 1 + 1, 0, none⟩) 1 1, .slice (some ⟨w.heap.size + 1 + 1 + 1 + 1, 0, none⟩) 1 1, .slice none 0 0, .slice none 0 0, .slice (some ⟨w.heap.size + 1 + 1 + 1 + 1 + 1, 0, none⟩) 2 2, .slice none 0 0] 29)) := ⟨_, rfl⟩
  have hbS : Below w.heap.size w wS := by
    rw [hwS]
    exact ((((((((Below.refl _ _).alloc (Nat.le_refl _) _).alloc (by simp <;> omega) _).alloc (by simp <;> omega) _).alloc (by simp <;> omega) _).alloc (by simp <;> omega) _).alloc (by simp <;> omega) _).alloc (by simp <;> omega) _)
  rw [← hwS] at b0
  rw [← hwS] at b1
  rw [← hwS] at b2
  rw [← hwS] at b3
  rw [← hwS] at b4
  rw [← hwS] at b5
  rw [← hwS] at b6
  have hT : Tin wS (some ⟨w.heap.size + 1 + 1, 0, none⟩) (shL w.heap.size) := by
    refine ⟨Rd.of_blk b2, fun h hh => ?_⟩
    rcases List.mem_cons.1 hh with rfl | hh
    · exact Rd.of_blk b0
    · rcases List.mem_cons.1 hh with rfl | hh
      · exact Rd.of_blk b1
      · cases hh
  have hQ : Qi wS shQ (some ⟨w.heap.size + 1 + 1 + 1, 0, none⟩) 1 (some ⟨w.heap.size + 1 + 1 + 1 + 1, 0, none⟩) 1 none 0 none 0 (some ⟨w.heap.size + 1 + 1 + 1 + 1 + 1, 0, none⟩) 2 none 0 :=
    ⟨rfl, rfl, rfl, rfl, rfl, rfl, Rd.of_blk b3, Rd.of_blk b4, Rd.nil _ _, Rd.nil _ _, Rd.of_blk b5, Rd.nil _ _⟩
  have hck := fun w' (hw : Below wS.heap.size wS w') => qcheck_any (shL w.heap.size) (some ⟨w.heap.size + 1 + 1, 0, none⟩) 2 2 shQ (some ⟨w.heap.size + 1 + 1 + 1, 0, none⟩) 1 1 (some ⟨w.heap.size + 1 + 1 + 1 + 1, 0, none⟩) 1 1 none 0 0 none 0 0 (some ⟨w.heap.size + 1 + 1 + 1 + 1 + 1, 0, none⟩) 2 2 none 0 0 w' rfl (hT.below hw) shFew.1 (hQ.below hw) shFew.2 ⟨Nat.le_refl _, Nat.zero_le _⟩
  have hne := fun w' (hw : Below wS.heap.size wS w') => needs_any (shL w.heap.size) (some ⟨w.heap.size + 1 + 1, 0, none⟩) 2 2 shQ (some ⟨w.heap.size + 1 + 1 + 1, 0, none⟩) 1 1 (some ⟨w.heap.size + 1 + 1 + 1 + 1, 0, none⟩) 1 1 none 0 0 none 0 0 (some ⟨w.heap.size + 1 + 1 + 1 + 1 + 1, 0, none⟩) 2 2 none 0 0 w' rfl (hT.below hw) shFew.1 (hQ.below hw) shFew.2 ⟨Nat.le_refl _, Nat.zero_le _⟩
  simp only [shL_t, shC, shN, List.length_cons, List.length_nil, Nat.zero_add, Nat.reduceAdd] at hck hne
  have Hck := Lib.hid hck
  have Hne := Lib.hid hne
  have HbS := Lib.hid hbS
  have Hce := Lib.hid (fun w' (hw : Below wS.heap.size wS w') => (⟨(b6.below hw).cell 0, (b6.below hw).cell 1, (b6.below hw).cell 2, (b6.below hw).cell 3, (b6.below hw).cell 4, (b6.below hw).cell 5, (b6.below hw).cell 6⟩ : w'.cell? ⟨w.heap.size + 1 + 1 + 1 + 1 + 1 + 1, 0, none⟩ = some (.string (St8 [97])) ∧ w'.cell? ⟨w.heap.size + 1 + 1 + 1 + 1 + 1 + 1, 1, none⟩ = some (.slice (some ⟨w.heap.size + 1 + 1 + 1, 0, none⟩) 1 1) ∧ w'.cell? ⟨w.heap.size + 1 + 1 + 1 + 1 + 1 + 1, 2, none⟩ = some (.slice (some ⟨w.heap.size + 1 + 1 + 1 + 1, 0, none⟩) 1 1) ∧ w'.cell? ⟨w.heap.size + 1 + 1 + 1 + 1 + 1 + 1, 3, none⟩ = some (.slice none 0 0) ∧ w'.cell? ⟨w.heap.size + 1 + 1 + 1 + 1 + 1 + 1, 4, none⟩ = some (.slice none 0 0) ∧ w'.cell? ⟨w.heap.size + 1 + 1 + 1 + 1 + 1 + 1, 5, none⟩ = some (.slice (some ⟨w.heap.size + 1 + 1 + 1 + 1 + 1, 0, none⟩) 2 2) ∧ w'.cell? ⟨w.heap.size + 1 + 1 + 1 + 1 + 1 + 1, 6, none⟩ = some (.slice none 0 0)))
  have hst : (St8 [2, 3]).toList = [2, 3] := St8_list _
  clear hck hne hbS hT hQ b0 b1 b2 b3 b4 b5 b6
  go_enter Try.func6, Try.ntmps6
  go_wp2_with fail
  show Calls Try.prog 9 #[.slice (some ⟨w.heap.size + 1 + 1, 0, none⟩) 2 2, .agg #[.string (St8 [97]), .slice (some ⟨w.heap.size + 1 + 1 + 1, 0, none⟩) 1 1, .slice (some ⟨w.heap.size + 1 + 1 + 1 + 1, 0, none⟩) 1 1, .slice none 0 0, .slice none 0 0, .slice (some ⟨w.heap.size + 1 + 1 + 1 + 1 + 1, 0, none⟩) 2 2, .slice none 0 0]] (((((((w.alloc (.cells #[.int .u8 2, .int .u8 2] 5)).alloc (.cells #[.int .u8 2, .int .u8 3] 5)).alloc (.cells #[.string (St8 [97]), .slice (some ⟨w.heap.size, 0, none⟩) 2 2, .string (St8 [98]), .slice (some ⟨w.heap.size + 1, 0, none⟩) 2 2] 45)).alloc (.cells #[.string (St8 [98]), .int .i64 1, .int .i64 0] 47)).alloc (.cells #[.int .u8 1, .int .i64 0, .int .i64 0, .int .u8 0, .int .i64 0, .string (St8 [])] 51)).alloc (.cells #[.int .i64 0, .int .i64 3] 3)).alloc (.cells #[.string (St8 [97]), .slice (some ⟨w.heap.size + 1 + 1 + 1, 0, none⟩) 1 1, .slice (some ⟨w.heap.size + 1 + 1 + 1 + 1, 0, none⟩) 1 1, .slice none 0 0, .slice none 0 0, .slice (some ⟨w.heap.size + 1 + 1 + 1 + 1 + 1, 0, none⟩) 2 2, .slice none 0 0] 29)) _
  rw [← hwS]
  refine (Hck.out wS (Below.refl _ _)).mono ?_
  rintro e w1 ⟨⟨K, d, rfl, hoK⟩, hb1⟩
  have Hb1 := Lib.hid hb1
  have HrK := Lib.hid hoK.rd
  obtain ⟨k0, k1, k2, k3, k4, k5, k6⟩ := Hce.out w1 hb1
  clear hb1 hoK Hck
  go_wp2_with fail
  refine (Hne.out w1 Hb1.out).mono ?_
  rintro e w2 ⟨⟨A, hs, d2, rfl, hl2, hrA, hil⟩, hb2⟩
  have HbF := Lib.hid (HbS.out.trans ((Hb1.out.trans (hb2.mono Hb1.out.size)).mono HbS.out.size))
  have hcv := run_str w2 K [2, 3] 2 d rfl (HrK.out.below hb2)
  obtain ⟨A0, d0, e0, r0⟩ := hil 0 [0, 1] rfl
  obtain ⟨A1, d1, e1, r1⟩ := hil 1 [0, 1] rfl
  obtain ⟨ab, ao, rfl, hca⟩ := hrA (by intro e; rw [e] at e0; cases e0)
  have c0 := hca 0 _ e0
  have c1 := hca 1 _ e1
  rw [Nat.add_zero] at c0
  have hb3 : Below w2.heap.size w2 (w2.alloc (.cells #[.int .i64 0, .int .i64 1] 3)) := (Below.refl _ _).alloc (Nat.le_refl _) _
  have hi1 := ints_same [0, 1] 2 A0 (some ⟨w2.heap.size, 0, none⟩) d0 2 (w2.alloc (.cells #[.int .i64 0, .int .i64 1] 3)) rfl (r0.below hb3) (Rd.of_blk (Blk.new w2 3 #[.int .i64 0, .int .i64 1])) (by omega)
  have Hi1 := Lib.hid hi1
  have Hr1 := Lib.hid r1
  have Hc1 := Lib.hid (fun w' (hw : Below w2.heap.size w2 w') => (show w'.cell? ⟨ab, ao + 1, none⟩ = some (.slice A1 2 d1) from (hw.cell (p := ⟨ab, ao + 1, none⟩) (lt_of_range hca (by intro e; rw [e] at e0; cases e0))).trans c1))
  have Hb3 := Lib.hid hb3
  clear hb2 hb3 hi1 r0 r1 hil hca hrA e0 e1 hl2 k0 k1 k2 k3 k4 k5 k6 Hne
  go_wp2_with fail
  refine Hi1.out.mono ?_
  rintro e w3 ⟨rfl, hb4⟩
  have hb34 := Hb3.out.trans (hb4.mono Hb3.out.size)
  have c1' := Hc1.out w3 hb34
  have hb5 : Below w3.heap.size w3 (w3.alloc (.cells #[.int .i64 0, .int .i64 1] 3)) := (Below.refl _ _).alloc (Nat.le_refl _) _
  have Hi2 := Lib.hid (ints_same [0, 1] 2 A1 (some ⟨w3.heap.size, 0, none⟩) d1 2 (w3.alloc (.cells #[.int .i64 0, .int .i64 1] 3)) rfl ((Hr1.out.below hb34).below hb5) (Rd.of_blk (Blk.new w3 3 #[.int .i64 0, .int .i64 1])) (by omega))
  have Hb5 := Lib.hid (HbF.out.trans ((hb34.trans (hb5.mono hb34.size)).mono HbF.out.size))
  clear hb4 hb34 hb5 c1
  go_wp2_with fail
  refine Hi2.out.mono ?_
  rintro e w4 ⟨rfl, hb6⟩
  have Hb6 := Lib.hid (Hb5.out.trans (hb6.mono Hb5.out.size))
  go_wp2_with fail
  go_ret
  exact ⟨rfl, Hb6.out⟩
end Go.Proofs.Ytheafcfbahdcfaa
