/- Walks: QueryStars. (Printed by gen_qzs.py.) -/
import Derived.Test.YtheafcfbahdcfaaQyE
namespace Go.Proofs.Ytheafcfbahdcfaa
open Go.RowKit

attribute [local go_sem ↓] Go.wp_at_zero Go.wp_at_succ

def stQ (x y z : Nat) : Qy := ⟨[98], [⟨[97], x, 1⟩, ⟨[100], y, 0⟩, ⟨[99], z, 1⟩], [⟨1, 0, 0, ⟨0, 0, []⟩⟩], [], [], [7, 0], []⟩
def stT : List Tb := [⟨[97], [2, 2]⟩, ⟨[98], [2, 2]⟩, ⟨[99], [2, 2]⟩, ⟨[100], [2, 2]⟩]
theorem stE : ∀ x < 2, ∀ y < 4, ∀ z < 6, (checkM stT (stQ x y z)).2 = if (y < 2 ∧ z < 2) ∨ (2 ≤ y ∧ 4 ≤ z) then 0 else 232 := by decide +kernel
def stL (s : Nat) : List Th := [⟨⟨[97], [2, 2]⟩, some ⟨s, 0, none⟩, 2⟩, ⟨⟨[98], [2, 2]⟩, some ⟨s, 0, none⟩, 2⟩, ⟨⟨[99], [2, 2]⟩, some ⟨s, 0, none⟩, 2⟩, ⟨⟨[100], [2, 2]⟩, some ⟨s, 0, none⟩, 2⟩]
theorem stL_t (s : Nat) : (stL s).map Th.t = stT := rfl
theorem stFew (x y z : Nat) : FewT stT ∧ (stQ x y z).Few :=
  ⟨⟨by decide, by decide, by decide⟩, ⟨by show 1 ≤ 200; decide, by show 3 ≤ 12; decide, by show 1 ≤ 60; decide, by show 0 ≤ 12; decide, by show 0 ≤ 12; decide, by show 2 ≤ 12; decide, by show 0 ≤ 12; decide, fun n hn => by
    obtain rfl : n = ⟨1, 0, 0, ⟨0, 0, []⟩⟩ := List.mem_singleton.1 hn
    decide⟩⟩

set_option maxHeartbeats 8000000 in
set_option maxRecDepth 100000 in
theorem stars_walk (a b c : Nat) (w : World) (_ha : a < 256) (_hb : b < 256) (_hc : c < 256) :
    Calls Try.prog 5 #[.int .u8 (a : Int), .int .u8 (b : Int), .int .u8 (c : Int)] w fun e w' => e = .returned (.bool true) ∧ Below w.heap.size w w' := by
  have Hsh := Lib.hid (qshown_any w)
  obtain ⟨x, hx⟩ : ∃ x, x = a % 2 := ⟨_, rfl⟩
  obtain ⟨y, hy⟩ : ∃ y, y = b % 4 := ⟨_, rfl⟩
  obtain ⟨z, hz⟩ : ∃ z, z = c % 6 := ⟨_, rfl⟩
  have m1 : (a : Int).tmod 2 = (x : Int) := by rw [hx]; rfl
  have m2 : (b : Int).tmod 4 = (y : Int) := by rw [hy]; rfl
  have m3 : (c : Int).tmod 6 = (z : Int) := by rw [hz]; rfl
  have hx2 : x < 2 := by omega
  have hy4 : y < 4 := by omega
  have hz6 : z < 6 := by omega
  have v1 : IntKind.u8.wrap (x : Int) = (x : Int) := by rw [IntKind.wrap_u8]; omega
  have v2 : IntKind.u8.wrap (y : Int) = (y : Int) := by rw [IntKind.wrap_u8]; omega
  have v3 : IntKind.u8.wrap (z : Int) = (z : Int) := by rw [IntKind.wrap_u8]; omega
  have u1 : IntKind.i64.wrap (x : Int) = (x : Int) := by rw [IntKind.wrap_i64]; omega
  have u2 : IntKind.i64.wrap (y : Int) = (y : Int) := by rw [IntKind.wrap_i64]; omega
  have u3 : IntKind.i64.wrap (z : Int) = (z : Int) := by rw [IntKind.wrap_i64]; omega
  obtain ⟨E, hE⟩ : ∃ E, E = (checkM stT (stQ x y z)).2 := ⟨_, rfl⟩
  have HE : Hid (E = if (y < 2 ∧ z < 2) ∨ (2 ≤ y ∧ 4 ≤ z) then 0 else 232) := by
    show _ = _
    rw [hE]
    exact stE x hx2 y hy4 z hz6
  have Hck : Hid (∀ (w1 wS : World), Tin wS (some ⟨w1.heap.size + 1, 0, none⟩) (stL w1.heap.size) → Qi wS (stQ x y z) (some ⟨w1.heap.size + 1 + 1, 0, none⟩) 3 (some ⟨w1.heap.size + 1 + 1 + 1, 0, none⟩) 1 none 0 none 0 (some ⟨w1.heap.size + 1 + 1 + 1 + 1, 0, none⟩) 2 none 0 →
      Calls Try.prog 9 #[.slice (some ⟨w1.heap.size + 1, 0, none⟩) 4 4, .agg #[.string (St8 [98]), .slice (some ⟨w1.heap.size + 1 + 1, 0, none⟩) 3 3, .slice (some ⟨w1.heap.size + 1 + 1 + 1, 0, none⟩) 1 1, .slice none 0 0, .slice none 0 0, .slice (some ⟨w1.heap.size + 1 + 1 + 1 + 1, 0, none⟩) 2 2, .slice none 0 0]] wS fun e w' => (∃ A n d, e = .returned (.tuple #[.slice A n d, .int .i64 E])) ∧ Below wS.heap.size wS w') := Lib.hid fun w1 wS hT hQ => by
    refine (qcheck_any (stL w1.heap.size) (some ⟨w1.heap.size + 1, 0, none⟩) 4 4 (stQ x y z) (some ⟨w1.heap.size + 1 + 1, 0, none⟩) 3 3 (some ⟨w1.heap.size + 1 + 1 + 1, 0, none⟩) 1 1 none 0 0 none 0 0 (some ⟨w1.heap.size + 1 + 1 + 1 + 1, 0, none⟩) 2 2 none 0 0 wS rfl hT (stFew x y z).1 hQ (stFew x y z).2 ⟨Nat.le_refl _, Nat.zero_le _⟩).mono ?_
    rintro e w' ⟨⟨A, d, rfl, _⟩, h⟩
    exact ⟨⟨A, (checkM ((stL w1.heap.size).map Th.t) (stQ x y z)).1.length, d, by rw [hE]; rfl⟩, h⟩
  clear hx hy hz hE
  go_enter Try.func5, Try.ntmps5
  go_wp2_with fail
  refine Hsh.out.mono ?_
  rintro e w1 ⟨rfl, hb1⟩
  have b0 := Blk.new w1 5 #[.int .u8 2, .int .u8 2]
  replace b0 := b0.alloc (.cells #[.string (St8 [97]), .slice (some ⟨w1.heap.size, 0, none⟩) 2 2, .string (St8 [98]), .slice (some ⟨w1.heap.size, 0, none⟩) 2 2, .string (St8 [99]), .slice (some ⟨w1.heap.size, 0, none⟩) 2 2, .string (St8 [100]), .slice (some ⟨w1.heap.size, 0, none⟩) 2 2] 45)
  replace b0 := b0.alloc (.cells #[.string (St8 [97]), .int .i64 (x : Int), .int .i64 1, .string (St8 [100]), .int .i64 (y : Int), .int .i64 0, .string (St8 [99]), .int .i64 (z : Int), .int .i64 1] 47)
  replace b0 := b0.alloc (.cells #[.int .u8 1, .int .i64 0, .int .i64 0, .int .u8 0, .int .i64 0, .string (St8 [])] 51)
  replace b0 := b0.alloc (.cells #[.int .i64 7, .int .i64 0] 3)
  replace b0 := b0.alloc (.cells #[.string (St8 [98]), .slice (some ⟨w1.heap.size + 1 + 1, 0, none⟩) 3 3, .slice (some ⟨w1.heap.size + 1 + 1 + 1, 0, none⟩) 1 1, .slice none 0 0, .slice none 0 0, .slice (some ⟨w1.heap.size + 1 + 1 + 1 + 1, 0, none⟩) 2 2, .slice none 0 0] 29)
  have b1 := Blk.new (w1.alloc (.cells #[.int .u8 2, .int .u8 2] 5)) 45 #[.string (St8 [97]), .slice (some ⟨w1.heap.size, 0, none⟩) 2 2, .string (St8 [98]), .slice (some ⟨w1.heap.size, 0, none⟩) 2 2, .string (St8 [99]), .slice (some ⟨w1.heap.size, 0, none⟩) 2 2, .string (St8 [100]), .slice (some ⟨w1.heap.size, 0, none⟩) 2 2]
  rw [show ((w1.alloc (.cells #[.int .u8 2, .int .u8 2] 5))).heap.size = w1.heap.size + 1 from by simp] at b1
  replace b1 := b1.alloc (.cells #[.string (St8 [97]), .int .i64 (x : Int), .int .i64 1, .string (St8 [100]), .int .i64 (y : Int), .int .i64 0, .string (St8 [99]), .int .i64 (z : Int), .int .i64 1] 47)
  replace b1 := b1.alloc (.cells #[.int .u8 1, .int .i64 0, .int .i64 0, .int .u8 0, .int .i64 0, .string (St8 [])] 51)
  replace b1 := b1.alloc (.cells #[.int .i64 7, .int .i64 0] 3)
  replace b1 := b1.alloc (.cells #[.string (St8 [98]), .slice (some ⟨w1.heap.size + 1 + 1, 0, none⟩) 3 3, .slice (some ⟨w1.heap.size + 1 + 1 + 1, 0, none⟩) 1 1, .slice none 0 0, .slice none 0 0, .slice (some ⟨w1.heap.size + 1 + 1 + 1 + 1, 0, none⟩) 2 2, .slice none 0 0] 29)
  have b2 := Blk.new ((w1.alloc (.cells #[.int .u8 2, .int .u8 2] 5)).alloc (.cells #[.string (St8 [97]), .slice (some ⟨w1.heap.size, 0, none⟩) 2 2, .string (St8 [98]), .slice (some ⟨w1.heap.size, 0, none⟩) 2 2, .string (St8 [99]), .slice (some ⟨w1.heap.size, 0, none⟩) 2 2, .string (St8 [100]), .slice (some ⟨w1.heap.size, 0, none⟩) 2 2] 45)) 47 #[.string (St8 [97]), .int .i64 (x : Int), .int .i64 1, .string (St8 [100]), .int .i64 (y : Int), .int .i64 0, .string (St8 [99]), .int .i64 (z : Int), .int .i64 1]
  rw [show (((w1.alloc (.cells #[.int .u8 2, .int .u8 2] 5)).alloc (.cells #[.string (St8 [97]), .slice (some ⟨w1.heap.size, 0, none⟩) 2 2, .string (St8 [98]), .slice (some ⟨w1.heap.size, 0, none⟩) 2 2, .string (St8 [99]), .slice (some ⟨w1.heap.size, 0, none⟩) 2 2, .string (St8 [100]), .slice (some ⟨w1.heap.size, 0, none⟩) 2 2] 45))).heap.size = w1.heap.size + 1 + 1 from by simp] at b2
  replace b2 := b2.alloc (.cells #[.int .u8 1, .int .i64 0, .int .i64 0, .int .u8 0, .int .i64 0, .string (St8 [])] 51)
  replace b2 := b2.alloc (.cells #[.int .i64 7, .int .i64 0] 3)
  replace b2 := b2.alloc (.cells #[.string (St8 [98]), .slice (some ⟨w1.heap.size + 1 + 1, 0, none⟩) 3 3, .slice (some ⟨w1.heap.size + 1 + 1 + 1, 0, none⟩) 1 1, .slice none 0 0, .slice none 0 0, .slice (some ⟨w1.heap.size + 1 + 1 + 1 + 1, 0, none⟩) 2 2, .slice none 0 0] 29)
  have b3 := Blk.new (((w1.alloc (.cells #[.int .u8 2, .int .u8 2] 5)).alloc (.cells #[.string (St8 [97]), .slice (some ⟨w1.heap.size, 0, none⟩) 2 2, .string (St8 [98]), .slice (some ⟨w1.heap.size, 0, none⟩) 2 2, .string (St8 [99]), .slice (some ⟨w1.heap.size, 0, none⟩) 2 2, .string (St8 [100]), .slice (some ⟨w1.heap.size, 0, none⟩) 2 2] 45)).alloc (.cells #[.string (St8 [97]), .int .i64 (x : Int), .int .i64 1, .string (St8 [100]), .int .i64 (y : Int), .int .i64 0, .string (St8 [99]), .int .i64 (z : Int), .int .i64 1] 47)) 51 #[.int .u8 1, .int .i64 0, .int .i64 0, .int .u8 0, .int .i64 0, .string (St8 [])]
  rw [show ((((w1.alloc (.cells #[.int .u8 2, .int .u8 2] 5)).alloc (.cells #[.string (St8 [97]), .slice (some ⟨w1.heap.size, 0, none⟩) 2 2, .string (St8 [98]), .slice (some ⟨w1.heap.size, 0, none⟩) 2 2, .string (St8 [99]), .slice (some ⟨w1.heap.size, 0, none⟩) 2 2, .string (St8 [100]), .slice (some ⟨w1.heap.size, 0, none⟩) 2 2] 45)).alloc (.cells #[.string (St8 [97]), .int .i64 (x : Int), .int .i64 1, .string (St8 [100]), .int .i64 (y : Int), .int .i64 0, .string (St8 [99]), .int .i64 (z : Int), .int .i64 1] 47))).heap.size = w1.heap.size + 1 + 1 + 1 from by simp] at b3
  replace b3 := b3.alloc (.cells #[.int .i64 7, .int .i64 0] 3)
  replace b3 := b3.alloc (.cells #[.string (St8 [98]), .slice (some ⟨w1.heap.size + 1 + 1, 0, none⟩) 3 3, .slice (some ⟨w1.heap.size + 1 + 1 + 1, 0, none⟩) 1 1, .slice none 0 0, .slice none 0 0, .slice (some ⟨w1.heap.size + 1 + 1 + 1 + 1, 0, none⟩) 2 2, .slice none 0 0] 29)
  have b4 := Blk.new ((((w1.alloc (.cells #[.int .u8 2, .int .u8 2] 5)).alloc (.cells #[.string (St8 [97]), .slice (some ⟨w1.heap.size, 0, none⟩) 2 2, .string (St8 [98]), .slice (some ⟨w1.heap.size, 0, none⟩) 2 2, .string (St8 [99]), .slice (some ⟨w1.heap.size, 0, none⟩) 2 2, .string (St8 [100]), .slice (some ⟨w1.heap.size, 0, none⟩) 2 2] 45)).alloc (.cells #[.string (St8 [97]), .int .i64 (x : Int), .int .i64 1, .string (St8 [100]), .int .i64 (y : Int), .int .i64 0, .string (St8 [99]), .int .i64 (z : Int), .int .i64 1] 47)).alloc (.cells #[.int .u8 1, .int .i64 0, .int .i64 0, .int .u8 0, .int .i64 0, .string (St8 [])] 51)) 3 #[.int .i64 7, .int .i64 0]
  rw [show (((((w1.alloc (.cells #[.int .u8 2, .int .u8 2] 5)).alloc (.cells #[.string (St8 [97]), .slice (some ⟨w1.heap.size, 0, none⟩) 2 2, .string (St8 [98]), .slice (some ⟨w1.heap.size, 0, none⟩) 2 2, .string (St8 [99]), .slice (some ⟨w1.heap.size, 0, none⟩) 2 2, .string (St8 [100]), .slice (some ⟨w1.heap.size, 0, none⟩) 2 2] 45)).alloc (.cells #[.string (St8 [97]), .int .i64 (x : Int), .int .i64 1, .string (St8 [100]), .int .i64 (y : Int), .int .i64 0, .string (St8 [99]), .int .i64 (z : Int), .int .i64 1] 47)).alloc (.cells #[.int .u8 1, .int .i64 0, .int .i64 0, .int .u8 0, .int .i64 0, .string (St8 [])] 51))).heap.size = w1.heap.size + 1 + 1 + 1 + 1 from by simp] at b4
  replace b4 := b4.alloc (.cells #[.string (St8 [98]), .slice (some ⟨w1.heap.size + 1 + 1, 0, none⟩) 3 3, .slice (some ⟨w1.heap.size + 1 + 1 + 1, 0, none⟩) 1 1, .slice none 0 0, .slice none 0 0, .slice (some ⟨w1.heap.size + 1 + 1 + 1 + 1, 0, none⟩) 2 2, .slice none 0 0] 29)
  have b5 := Blk.new (((((w1.alloc (.cells #[.int .u8 2, .int .u8 2] 5)).alloc (.cells #[.string (St8 [97]), .slice (some ⟨w1.heap.size, 0, none⟩) 2 2, .string (St8 [98]), .slice (some ⟨w1.heap.size, 0, none⟩) 2 2, .string (St8 [99]), .slice (some ⟨w1.heap.size, 0, none⟩) 2 2, .string (St8 [100]), .slice (some ⟨w1.heap.size, 0, none⟩) 2 2] 45)).alloc (.cells #[.string (St8 [97]), .int .i64 (x : Int), .int .i64 1, .string (St8 [100]), .int .i64 (y : Int), .int .i64 0, .string (St8 [99]), .int .i64 (z : Int), .int .i64 1] 47)).alloc (.cells #[.int .u8 1, .int .i64 0, .int .i64 0, .int .u8 0, .int .i64 0, .string (St8 [])] 51)).alloc (.cells #[.int .i64 7, .int .i64 0] 3)) 29 #[.string (St8 [98]), .slice (some ⟨w1.heap.size + 1 + 1, 0, none⟩) 3 3, .slice (some ⟨w1.heap.size + 1 + 1 + 1, 0, none⟩) 1 1, .slice none 0 0, .slice none 0 0, .slice (some ⟨w1.heap.size + 1 + 1 + 1 + 1, 0, none⟩) 2 2, .slice none 0 0]
  rw [show ((((((w1.alloc (.cells #[.int .u8 2, .int .u8 2] 5)).alloc (.cells #[.string (St8 [97]), .slice (some ⟨w1.heap.size, 0, none⟩) 2 2, .string (St8 [98]), .slice (some ⟨w1.heap.size, 0, none⟩) 2 2, .string (St8 [99]), .slice (some ⟨w1.heap.size, 0, none⟩) 2 2, .string (St8 [100]), .slice (some ⟨w1.heap.size, 0, none⟩) 2 2] 45)).alloc (.cells #[.string (St8 [97]), .int .i64 (x : Int), .int .i64 1, .string (St8 [100]), .int .i64 (y : Int), .int .i64 0, .string (St8 [99]), .int .i64 (z : Int), .int .i64 1] 47)).alloc (.cells #[.int .u8 1, .int .i64 0, .int .i64 0, .int .u8 0, .int .i64 0, .string (St8 [])] 51)).alloc (.cells #[.int .i64 7, .int .i64 0] 3))).heap.size = w1.heap.size + 1 + 1 + 1 + 1 + 1 from by simp] at b5
  obtain ⟨wS, hwS⟩ : ∃ u, u = ((((((w1.alloc (.cells #[.int .u8 2, .int .u8 2] 5)).alloc (.cells #[.string (St8 [97]), .slice (some ⟨w1.heap.size, 0, none⟩) 2 2, .string (St8 [98]), .slice (some ⟨w1.heap.size, 0, none⟩) 2 2, .string (St8 [99]), .slice (some ⟨w1.heap.size, 0, none⟩) 2 2, .string (St8 [100]), .slice (some ⟨w1.heap.size, 0, none⟩) 2 2] 45)).alloc (.cells #[.string (St8 [97]), .int .i64 (x : Int), .int .i64 1, .string (St8 [100]), .int .i64 (y : Int), .int .i64 0, .string (St8 [99]), .int .i64 (z : Int), .int .i64 1] 47)).alloc (.cells #[.int .u8 1, .int .i64 0, .int .i64 0, .int .u8 0, .int .i64 0, .string (St8 [])] 51)).alloc (.cells #[.int .i64 7, .int .i64 0] 3)).alloc (.cells #[.string (St8 [98]), .slice (some ⟨w1.heap.size + 1 + 1, 0, none⟩) 3 3, .slice (some ⟨w1.heap.size + 1 + 1 + 1, 0, none⟩) 1 1, .slice none 0 0, .slice none 0 0, .slice (some ⟨w1.heap.size + 1 + 1 + 1 + 1, 0, none⟩) 2 2, .slice none 0 0] 29)) := ⟨_, rfl⟩
  have hbS : Below w1.heap.size w1 wS := by
    rw [hwS]
    exact (((((((Below.refl _ _).alloc (Nat.le_refl _) _).alloc (by simp <;> omega) _).alloc (by simp <;> omega) _).alloc (by simp <;> omega) _).alloc (by simp <;> omega) _).alloc (by simp <;> omega) _)
  rw [← hwS] at b0
  rw [← hwS] at b1
  rw [← hwS] at b2
  rw [← hwS] at b3
  rw [← hwS] at b4
  rw [← hwS] at b5
  have hT : Tin wS (some ⟨w1.heap.size + 1, 0, none⟩) (stL w1.heap.size) := by
    refine ⟨Rd.of_blk b1, fun h hh => ?_⟩
    rcases List.mem_cons.1 hh with rfl | hh
    · exact Rd.of_blk b0
    · rcases List.mem_cons.1 hh with rfl | hh
      · exact Rd.of_blk b0
      · rcases List.mem_cons.1 hh with rfl | hh
        · exact Rd.of_blk b0
        · rcases List.mem_cons.1 hh with rfl | hh
          · exact Rd.of_blk b0
          · cases hh
  have hQ : Qi wS (stQ x y z) (some ⟨w1.heap.size + 1 + 1, 0, none⟩) 3 (some ⟨w1.heap.size + 1 + 1 + 1, 0, none⟩) 1 none 0 none 0 (some ⟨w1.heap.size + 1 + 1 + 1 + 1, 0, none⟩) 2 none 0 :=
    ⟨rfl, rfl, rfl, rfl, rfl, rfl, Rd.of_blk b2, Rd.of_blk b3, Rd.nil _ _, Rd.nil _ _, Rd.of_blk b4, Rd.nil _ _⟩
  have Hck2 := Lib.hid (Hck.out w1 wS hT hQ)
  have Hb1 := Lib.hid (hb1.trans (hbS.mono hb1.size))
  clear hT hQ b0 b1 b2 b3 b4 b5 Hck hb1 hbS
  go_wp2_with fail
  show Calls Try.prog 9 #[.slice (some ⟨w1.heap.size + 1, 0, none⟩) 4 4, .agg #[.string (St8 [98]), .slice (some ⟨w1.heap.size + 1 + 1, 0, none⟩) 3 3, .slice (some ⟨w1.heap.size + 1 + 1 + 1, 0, none⟩) 1 1, .slice none 0 0, .slice none 0 0, .slice (some ⟨w1.heap.size + 1 + 1 + 1 + 1, 0, none⟩) 2 2, .slice none 0 0]] ((((((w1.alloc (.cells #[.int .u8 2, .int .u8 2] 5)).alloc (.cells #[.string (St8 [97]), .slice (some ⟨w1.heap.size, 0, none⟩) 2 2, .string (St8 [98]), .slice (some ⟨w1.heap.size, 0, none⟩) 2 2, .string (St8 [99]), .slice (some ⟨w1.heap.size, 0, none⟩) 2 2, .string (St8 [100]), .slice (some ⟨w1.heap.size, 0, none⟩) 2 2] 45)).alloc (.cells #[.string (St8 [97]), .int .i64 (x : Int), .int .i64 1, .string (St8 [100]), .int .i64 (y : Int), .int .i64 0, .string (St8 [99]), .int .i64 (z : Int), .int .i64 1] 47)).alloc (.cells #[.int .u8 1, .int .i64 0, .int .i64 0, .int .u8 0, .int .i64 0, .string (St8 [])] 51)).alloc (.cells #[.int .i64 7, .int .i64 0] 3)).alloc (.cells #[.string (St8 [98]), .slice (some ⟨w1.heap.size + 1 + 1, 0, none⟩) 3 3, .slice (some ⟨w1.heap.size + 1 + 1 + 1, 0, none⟩) 1 1, .slice none 0 0, .slice none 0 0, .slice (some ⟨w1.heap.size + 1 + 1 + 1 + 1, 0, none⟩) 2 2, .slice none 0 0] 29)) _
  rw [← hwS]
  refine Hck2.out.mono ?_
  rintro e w2 ⟨⟨A, n, d, rfl⟩, hb2⟩
  have HbF := Lib.hid (Hb1.out.trans (hb2.mono Hb1.out.size))
  clear hb2 hwS Hb1
  by_cases g1 : y < 2
  · have i1 : (y : Int) < 2 := by omega
    by_cases g2 : z < 2
    · have i2 : (z : Int) < 2 := by omega
      have HE2 : Hid (E = 0) := by
        show E = 0
        rw [HE.out]
        first | rw [if_pos (by omega)] | rw [if_neg (by omega)]
      replace HE2 := HE2.out
      subst HE2
      clear HE
      go_wp2_with fail
      go_ret
      exact ⟨rfl, HbF.out⟩
    · have i2 : ¬ (z : Int) < 2 := by omega
      have HE2 : Hid (E = 232) := by
        show E = 232
        rw [HE.out]
        first | rw [if_pos (by omega)] | rw [if_neg (by omega)]
      replace HE2 := HE2.out
      subst HE2
      clear HE
      go_wp2_with fail
      go_ret
      exact ⟨rfl, HbF.out⟩
  · have i1 : ¬ (y : Int) < 2 := by omega
    by_cases g2 : 4 ≤ z
    · have i2 : (4 : Int) ≤ (z : Int) := by omega
      have HE2 : Hid (E = 0) := by
        show E = 0
        rw [HE.out]
        first | rw [if_pos (by omega)] | rw [if_neg (by omega)]
      replace HE2 := HE2.out
      subst HE2
      clear HE
      go_wp2_with fail
      go_ret
      exact ⟨rfl, HbF.out⟩
    · have i2 : ¬ (4 : Int) ≤ (z : Int) := by omega
      have HE2 : Hid (E = 232) := by
        show E = 232
        rw [HE.out]
        first | rw [if_pos (by omega)] | rw [if_neg (by omega)]
      replace HE2 := HE2.out
      subst HE2
      clear HE
      go_wp2_with fail
      go_ret
      exact ⟨rfl, HbF.out⟩
end Go.Proofs.Ytheafcfbahdcfaa
