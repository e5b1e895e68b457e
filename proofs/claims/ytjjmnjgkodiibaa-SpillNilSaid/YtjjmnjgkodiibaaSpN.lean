/- The walk of shown: the document's example. -/
import Derived.Test.YtjjmnjgkodiibaaSpL
namespace Go.Proofs.Ytjjmnjgkodiibaa
open Go.RowKit

attribute [local go_sem ↓] Go.wp_at_zero Go.wp_at_succ

def exRow : RowM := [⟨2, 5, []⟩, ⟨0, 0, []⟩]
def exStore : Pg.St := List.replicate 4 none
theorem exB : rowB exRow = [2, 2, 10, 0] := by decide
theorem exMay : mayR exRow = 0 := by decide
theorem ex_put : Pg.putRE exStore [exRow] = 0 ∧ Pg.putRL exStore [exRow] = [0] ∧ Pg.putRS exStore [exRow] = exStore.set 0 (some (Pg.page 0 [2, 2, 10, 0])) := by
  have h : Pg.run exStore [] [] [exRow] = (exStore, [], [2, 2, 10, 0], 0) := by
    rw [Pg.run_on (s' := exStore) (l' := []) (b' := [2, 2, 10, 0]) exMay (by rw [exB]; exact Pg.lay_end (by decide)) (by decide), Pg.run]
  exact Pg.putR_some h (by decide) (i := 0) (by decide)
theorem ex_read : Pg.readE (exStore.set 0 (some (Pg.page 0 [2, 2, 10, 0]))) 0 = 0 ∧ Pg.readB (exStore.set 0 (some (Pg.page 0 [2, 2, 10, 0]))) 0 = [2, 2, 10, 0] ++ List.replicate 52 0 :=
  Pg.read_page (i := 0) (x := [2, 2, 10, 0]) (by decide) rfl

theorem ex_rows {w : World} {g : Nat} (h1 : Blk w g 37 (rcells exRow)) : Rows w [.slice (some ⟨g, 0, none⟩) 2 2] [exRow] :=
  ⟨rfl, fun i r hi => by
    cases i with
    | zero =>
      obtain rfl : exRow = r := by simpa using hi
      exact ⟨some ⟨g, 0, none⟩, 2, rfl, by decide, by unfold maxLen; decide, Rd.of_blk h1, fun v hv => by
        simp [exRow] at hv
        rcases hv with rfl | rfl <;> exact ⟨by decide, by decide, by decide⟩⟩
    | succ i => simp at hi⟩

set_option maxHeartbeats 4000000 in
set_option maxRecDepth 100000 in
theorem shown17 (w : World) : Calls Try.prog 9 #[] w fun e w' => e = .returned (.bool true) ∧ Below w.heap.size w w' := by
  go_enter Try.func9, Try.ntmps9
  go_wp2_with fail
  refine (new_yes 4 w (by omega)).mono ?_
  rintro e w1 ⟨bs, rfl, hs1, hb1⟩
  have Hs1 := Lib.hid hs1
  have Hb1 := Lib.hid hb1
  have hz1 := hb1.size
  clear hs1 hb1
  go_wp2_with fail
  have hbA : Below w1.heap.size w1 (w1.alloc (.cells #[.int .u8 2, .int .i64 5, .string ⟨#[]⟩, .int .u8 0, .int .i64 0, .string ⟨#[]⟩] 37)) := (Below.refl _ _).alloc (Nat.le_refl _) _
  have kA : Blk (w1.alloc (.cells #[.int .u8 2, .int .i64 5, .string ⟨#[]⟩, .int .u8 0, .int .i64 0, .string ⟨#[]⟩] 37)) w1.heap.size 37 (rcells exRow) := Blk.new w1 _ _
  have hzA : (w1.alloc (.cells #[.int .u8 2, .int .i64 5, .string ⟨#[]⟩, .int .u8 0, .int .i64 0, .string ⟨#[]⟩] 37)).heap.size = w1.heap.size + 1 := by simp
  generalize w1.alloc (.cells #[.int .u8 2, .int .i64 5, .string ⟨#[]⟩, .int .u8 0, .int .i64 0, .string ⟨#[]⟩] 37) = wA at *
  have hbC : Below wA.heap.size wA (wA.alloc (.cells #[.slice (some ⟨w1.heap.size, 0, none⟩) 2 2] 33)) := (Below.refl _ _).alloc (Nat.le_refl _) _
  have kC := kA.below hbC
  have kR : Blk (wA.alloc (.cells #[.slice (some ⟨w1.heap.size, 0, none⟩) 2 2] 33)) wA.heap.size 33 [.slice (some ⟨w1.heap.size, 0, none⟩) 2 2] := Blk.new wA _ _
  rw [hzA] at kR
  generalize wA.alloc (.cells #[.slice (some ⟨w1.heap.size, 0, none⟩) 2 2] 33) = wC at *
  have hb1C := hbA.trans (hbC.mono hbA.size)
  have hbwC := Hb1.out.trans (hb1C.mono hz1)
  have hzC := hbwC.size
  have hrows : ∀ (T : List TypeId) (w' : World), 37 ∉ T → 33 ∉ T → Keeps T w.heap.size wC w' → Rd w' (some ⟨w1.heap.size + 1, 0, none⟩) [.slice (some ⟨w1.heap.size, 0, none⟩) 2 2] ∧ Rows w' [.slice (some ⟨w1.heap.size, 0, none⟩) 2 2] [exRow] := fun T w' h1 h2 hk =>
    ⟨Rd.of_blk (kR.keeps h2 hk), ex_rows (kC.keeps h1 hk)⟩
  have Hrows := Lib.hid hrows
  obtain ⟨ex1, ex2, ex3⟩ := ex_put
  have hput := sput_c w.heap.size bs exStore [exRow] _ 1 1 _ wC (Hs1.out.below hb1C) hzC rfl (fun w' hk => hrows StT w' (by decide) (by decide) hk) (by omega) (by omega) (by omega)
  rw [ex3] at hput
  have Hput := Lib.hid hput
  have Hex := Lib.hid (And.intro ex1 ex2)
  have HbwC := Lib.hid hbwC
  clear hput hrows kC kR hbA hbC kA hzA hb1C hbwC ex1 ex2 ex3 Hs1 Hb1
  refine Hput.out.mono ?_
  rintro e w3 ⟨hput, hs3, hk3⟩
  rcases hput with ⟨_, bf, k, ic, I, rfl, hf⟩ | ⟨h, _⟩
  · rw [Hex.out.2] at hf
    obtain rfl : k = 1 := hf.klen.symm
    have hrd := read_c w.heap.size bs _ 0 w3 hs3 (by omega) (by omega)
    rw [ex_read.1, ex_read.2] at hrd
    have Hrd := Lib.hid hrd
    have Hf := Lib.hid hf
    have hk3w := hk3.below hzC
    have Hk3 := Lib.hid hk3
    have Hb3 := Lib.hid (HbwC.out.trans hk3w)
    clear hs3 hrd hf hk3 hk3w Hput Hex
    go_wp2_with fail
    refine Hrd.out.mono ?_
    rintro e w4 ⟨A4, c4, rfl, ho4, hb4⟩
    have hcp := ho4.cap
    have Ho4 := Lib.hid ho4
    have hpg := Lib.hid (pages_c _ bs bf _ _ _ _ _ w4 (Hf.out.below hb4) (by omega))
    have Hk4 := Lib.hid (Hk3.out.then_below hb4)
    have Hb4 := Lib.hid (Hb3.out.trans (hb4.mono Hb3.out.size))
    clear ho4 hb4 Hrd Hf Hk3 Hb3
    have e56 : ([2, 2, 10, 0] ++ List.replicate 52 0 : List UInt8).length = 56 := by decide
    rw [e56] at hcp
    obtain ⟨g4, o4, rfl, _⟩ := Ho4.out.rd (by decide)
    have Ho4x := Lib.hid ((OwnX.of_own Ho4.out).take (k := 4) (by decide))
    rw [e56]
    go_wp2_with fail
    refine hpg.out.mono ?_
    rintro e w5 ⟨A5, c5, rfl, ho5, hb5⟩
    have Hk5 := Lib.hid (Hk4.out.then_below hb5)
    have Hb5 := Lib.hid (Hb4.out.trans (hb5.mono Hb4.out.size))
    have Ho45 := Lib.hid (Ho4x.out.below hb5)
    have Ho5 := Lib.hid ho5
    clear ho5 hb5 hpg Hk4 Hb4 Ho4 Ho4x
    have hbD : Below w5.heap.size w5 (w5.alloc (.cells #[.int .i64 0] 3)) := (Below.refl _ _).alloc (Nat.le_refl _) _
    have hnD := Rd.of_blk (Blk.new w5 3 #[.int .i64 0])
    have hin := Lib.hid (ints_any [0] [0] 1 1 A5 (some ⟨w5.heap.size, 0, none⟩) c5 1 (w5.alloc (.cells #[.int .i64 0] 3)) rfl rfl (Ho5.out.rd.below hbD) hnD (by omega) (by omega))
    have Hk6 := Lib.hid (Hk5.out.then_below hbD)
    have Hb6 := Lib.hid (Hb5.out.trans (hbD.mono Hb5.out.size))
    have Ho46 := Lib.hid (Ho45.out.below hbD)
    clear hbD hnD Ho5 Hk5 Hb5 Ho45
    go_wp2_with fail
    refine hin.out.mono ?_
    rintro e w7 ⟨rfl, q, rfl⟩
    have Hk7 := Lib.hid (Hk6.out.drewN q)
    have Hb7 := Lib.hid (below_drewN' Hb6.out q)
    have hst := run_str ((w5.alloc (.cells #[.int .i64 0] 3)).drewN q) (some ⟨g4, o4, none⟩) [2, 2, 10, 0] 4 c4 rfl (by
      have := Ho46.out.rd
      rw [← List.map_take] at this
      exact this)
    have hrr := Hrows.out _ _ (by decide) (by decide) Hk7.out
    have hcb := Lib.hid (cbytes_any [exRow] _ 1 1 _ _ rfl hrr.1 hrr.2 (by omega) (fun r hr => by rw [List.mem_singleton.1 hr]; exact exMay))
    have h4 : (rowsB [exRow]).length = 4 := by decide
    rw [h4] at hcb
    generalize (w5.alloc (.cells #[.int .i64 0] 3)).drewN q = w7 at *
    have hS : (St8 [2, 2, 10, 0] : ByteArray) = ⟨#[2, 2, 10, 0]⟩ := rfl
    rw [hS] at hst
    clear Hrows hrr Hk7 Hk6 Hb6 Ho46 hin HbwC h4 hS
    go_wp2_with fail
    refine hcb.out.mono ?_
    rintro e w8 ⟨rfl, hb8⟩
    have hb08 := Hb7.out.trans (hb8.mono Hb7.out.size)
    go_wp2_with fail
    go_ret
    exact ⟨rfl, hb08⟩
  · exact absurd Hex.out.1 h
end Go.Proofs.Ytjjmnjgkodiibaa
