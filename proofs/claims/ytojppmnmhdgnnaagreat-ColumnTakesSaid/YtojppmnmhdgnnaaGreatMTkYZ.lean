/- The walk of parts.plain: the values that are something, one by one. (Printed by gen_tky.py.) How long what is taken may be; the walk of parts.named. (Printed by gen_tkz.py.) -/
import Derived.Test.YtojppmnmhdgnnaaGreatMTkUW
import Derived.Test.YtojppmnmhdgnnaaGreatMCoJK
import Derived.Test.YtojppmnmhdgnnaaGreatMCuNT
import Derived.Test.YtojppmnmhdgnnaaGreatMTkMN
import Derived.Test.YtojppmnmhdgnnaaGreatMDwP
namespace Go.Proofs.YtojppmnmhdgnnaaGreat
set_option linter.unusedVariables false
set_option linter.unusedSimpArgs false
open Go.RowKit

attribute [local go_sem ↓] Go.wp_at_zero Go.wp_at_succ

/-- How a reader's text comes, in one form. -/
theorem rdr_text1 (p : Nat) (l : List UInt8) (bad : Bool) (w : World) (h : Rdr w p l bad) : Calls Tryz.prog 33 #[.pointer (some ⟨p, 0, none⟩)] w fun e w' => ∃ (s z : List UInt8) (bad2 : Bool), e = .returned (.string (St8 s)) ∧ Rdr w' p z bad2 ∧ (bad2 = true → bad = true ∨ takeText l = none) ∧ (bad2 = false → bad = false ∧ takeText l = some (s, z)) ∧ Keeps RdT p w w' := by
  refine (rdr_text p l bad w h).mono ?_
  rintro e w' ⟨⟨ht, rfl, hrd⟩ | ⟨s, z, ht, rfl, hrd⟩, hk⟩
  · exact ⟨[], [], true, rfl, hrd.rdr, (fun _ => .inr ht), (fun h => by cases h), hk⟩
  · exact ⟨s, z, bad, rfl, hrd, (fun h => .inl h), (fun h => ⟨h, ht⟩), hk⟩
theorem rdr_int1 (p : Nat) (l : List UInt8) (bad : Bool) (w : World) (h : Rdr w p l bad) : Calls Tryz.prog 34 #[.pointer (some ⟨p, 0, none⟩)] w fun e w' => ∃ (s : Int) (z : List UInt8) (bad2 : Bool), e = .returned (.int .i64 s) ∧ Rdr w' p z bad2 ∧ (bad2 = true → bad = true ∨ takeNum l = none) ∧ (bad2 = false → bad = false ∧ ∃ m, s = unzig m ∧ takeNum l = some (m, z)) ∧ (-9223372036854775808 ≤ s ∧ s ≤ 9223372036854775807) ∧ Keeps RdT p w w' := by
  refine (rdr_int p l bad w h).mono ?_
  rintro e w' ⟨⟨ht, rfl, hrd⟩ | ⟨m, z, ht, rfl, hrd⟩, hk⟩
  · exact ⟨0, [], true, rfl, hrd.rdr, (fun _ => .inr ht), (fun h => by cases h), by omega, hk⟩
  · exact ⟨unzig m, z, bad, rfl, hrd, (fun h => .inl h), (fun h => ⟨h, m, rfl, ht⟩), unzig_in (takeNum_lt ht).1, hk⟩

/-- How plain, and named, end: the parts in memory, whose numbers and texts are there. -/
def PartOK (M : Option (List Int × List (List UInt8))) (g : Nat) (kind : Int) (T : Option Addr) (tn tc : Nat) (w : World) (e : Ending) (w' : World) : Prop :=
  ((M = none ∧ ∃ E : Int, E ≠ 0 ∧ e = .returned (.int .i64 E)) ∨ ∃ N nn nc X xn xc n x, M = some (n, x) ∧ n.length = nn ∧ x.length = xn ∧ e = .returned (.int .i64 0) ∧ Blk w' g 40 [.int .u8 kind, .slice T tn tc, .slice N nn nc, .slice X xn xc] ∧ Rd w' N (icl n) ∧ Rd w' X (wcl x)) ∧ Keeps [40] g w w'
set_option maxHeartbeats 16000000 in
set_option maxRecDepth 100000 in
theorem plain_texts (kind : Int) (b : List UInt8) (many n c g tn tc : Nat) (A T : Option Addr) (w : World) (hk3 : kind = 3) (hl : b.length = n) (hr : Rd w A (Bs b)) (hn : n ≤ 500000) (hm : many ≤ 4096) (hg : Blk w g 40 [.int .u8 kind, .slice T tn tc, .slice none 0 0, .slice none 0 0]) :
    Calls Tryz.prog 13 #[.pointer (some ⟨g, 0, none⟩), .slice A n c, .int .i64 (many : Int)] w fun e w' => PartOK (plainTk kind many b) g kind T tn tc w e w' := by
  have hnw := Lib.hid (rdr_new b n c A w hl hr (by omega))
  have Hg := Lib.hid hg
  have HM : Hid (plainTk kind many b = (textsRd many b).bind fun x => if x.2 = [] then some ([], x.1) else none) := by
    show _ = _
    unfold plainTk
    exact if_pos hk3
  have hgw := hg.lt
  have hkI : (kind == 3) = true := by rw [hk3]; rfl
  clear hl hr hg hk3
  go_enter Tryz.func13, Tryz.ntmps13
  go_wp2_with fail
  refine hnw.out.mono ?_
  rintro e w1 ⟨p, rfl, hrd1, hp1, hb1⟩
  have HR1 := Lib.hid hrd1
  have HK1 : Hid (Keeps [40] g w w1) := Keeps.of_below hb1
  have Hg1 := Lib.hid (Hg.out.below hb1)
  clear hnw hrd1 hb1 Hg
  go_wp2_with fail
  go_loopw [11] (fun v11 wr => ∃ (j : Nat) (X : Option Addr) (d : Nat) (x : List (List UInt8)) (pc : List UInt8) (bad : Bool), v11 = .int .i64 (j : Int) ∧ j ≤ many ∧ Hid (Rdr wr p pc bad) ∧ Hid (Blk wr g 40 [.int .u8 kind, .slice T tn tc, .slice none 0 0, .slice X j d]) ∧ Hid (Own wr w.heap.size 9 1 X j d (wcl x)) ∧ Hid (Keeps [40] g w wr) ∧ Hid (bad = true → plainTk kind many b = none) ∧ Hid (bad = false → textsRd many b = (textsRd (many - j) pc).map fun y => (x ++ y.1, y.2))) (fun v11 _ => many - (intOf v11).toNat)
  case atStart => exact ⟨0, none, 0, [], b, false, rfl, by omega, HR1, Hg1, Own.nil _ _ _ _, HK1, (fun h => by cases h), (fun _ => by simp)⟩
  case round =>
    obtain ⟨j, X, d, x, pc, bad, rfl, hj, HR, Hg, Ho, HK, Hbt, Hbf⟩ := hrel
    by_cases hjn : j < many
    · have hjI : (j : Int) < (many : Int) := by omega
      have y0 := Hg.out.cell 0
      have y3 := Hg.out.cell 3
      simp only [List.getElem?_cons_zero, List.getElem?_cons_succ] at y0 y3
      go_wp2_with fail
      go_region_law
        (first | (go_simp; go_at_call 33; refine (rdr_text1 p pc bad _ (by exact HR.out.drewN 1)).mono ?_; rintro e w3 ⟨s, z, bad2, rfl, hr3, hbt3, hbf3, hk3⟩; have hg3 := Blk.keeps Hg.out (by decide) ((Keeps.refl _ _ _).drewN 1 |>.trans hk3); have ho3 := Own.keeps Ho.out (by decide) ((Keeps.refl _ _ _).drewN 1 |>.trans hk3); have hba : Below w3.heap.size w3 (w3.alloc (.cells #[.string (St8 s)] 9)) := (Below.refl _ _).alloc (Nat.le_refl _) _; have hga := hg3.below hba; have j3 := hg3.cell 3; have ja := hga.cell 3; have hsz3 : w.heap.size ≤ (w3.alloc (.cells #[.string (St8 s)] 9)).heap.size := Nat.le_trans HK.out.size (Nat.le_trans hk3.size hba.size); simp only [List.getElem?_cons_zero, List.getElem?_cons_succ] at j3 ja)
               | (refine step_apd rfl (.tmp 22) (.tmp 25) 27 rfl Estr w.heap.size X j d (wcl x) (by simp [Act.eval, Act.put]) (Own.below ho3 hba) (some ⟨w3.heap.size, 0, none⟩) 1 1 [.string (St8 s)] (by simp [Act.eval, Act.put]) rfl (Rd.of_blk (Blk.new w3 9 #[.string (St8 s)])) (by simp [Value.oneCell']) (j + 1) rfl (wcl (x ++ [s])) (by simp [icl, wcl]) (by omega) (by omega) hsz3 ?_; intro A4 c4 w4 ho4 hg4 hat4; have hbk4 := hga.keeps (by decide) ((Own.below ho3 hba).apd_keeps hg4); have j4 := hbk4.cell 3; have f4 := hbk4.frozen 3; simp only [List.getElem?_cons_zero, List.getElem?_cons_succ] at j4))
      all_goals
        have hKa := ho3.below hba |>.apd_keeps hg4
        have hK4 : Keeps [40] g w w4 := ((((HK.out.drewN 1).then_young hk3 hp1).then_below hba).then_young hKa (Nat.le_refl _))
        obtain ⟨w5, hw5⟩ : ∃ x, x = w4.setCell ⟨g, 3, none⟩ (.slice A4 (j + 1) c4) := ⟨_, rfl⟩
        rw [← hw5]
        have hK45 : Keeps [40] g w4 w5 := by rw [hw5]; exact (Keeps.refl _ _ _).setCell hbk4 (by simp) (Nat.le_refl _) _
        have HK5 := Lib.hid (hK4.trans hK45)
        have Hg5 : Hid (Blk w5 g 40 [.int .u8 kind, .slice T tn tc, .slice none 0 0, .slice A4 (j + 1) c4]) := Lib.hid (by rw [hw5]; exact hbk4.set_ 3 _)
        have Ho5 := Lib.hid (ho4.keeps (by decide) hK45)
        have HR5 : Hid (Rdr w5 p z bad2) := ((hr3.below hba).keeps (by decide) (by decide) hKa).keeps (by decide) (by decide) hK45
        have Hbt2 := Lib.hid hbt3
        have Hbf2 := Lib.hid hbf3
        have Hst : Hid (bad2 = false → textsRd many b = (textsRd (many - (j + 1)) z).map fun y => (x ++ [s] ++ y.1, y.2)) := Lib.hid fun h => by
          obtain ⟨h1, h2⟩ := Hbf2.out h
          rw [Hbf.out h1]
          obtain ⟨k, hk⟩ : ∃ k, many - j = k + 1 := ⟨many - j - 1, by omega⟩
          have hk2 : many - (j + 1) = k := by omega
          rw [hk, hk2, textsRd, h2]
          dsimp only
          rw [Option.map_map]
          congr 1
          funext y
          show (x ++ (s :: y.1), y.2) = _
          rw [List.append_assoc]
          rfl
        have Hbt3 : Hid (bad2 = true → plainTk kind many b = none) := Lib.hid fun h => by
          rcases Hbt2.out h with h1 | h1
          · exact Hbt.out h1
          · cases bad with
            | true => exact Hbt.out rfl
            | false =>
              rw [HM.out, Hbf.out rfl]
              obtain ⟨k, hk⟩ : ∃ k, many - j = k + 1 := ⟨many - j - 1, by omega⟩
              rw [hk, textsRd, h1]
              rfl
        clear hKa hK4 hw5 hK45 ho4 hg4 hat4 hbk4 j4 f4 j3 ja hga hg3 ho3 hr3 hk3 hba hsz3 hbt3 hbf3 Hbt2 Hbf2 Hbt Hbf y0 y3
        go_wp2_with fail
        go_roundw
        case rel => exact ⟨j + 1, A4, c4, x ++ [s], z, bad2, by go_num, by omega, HR5, Hg5, Ho5, HK5, Hbt3, Hst⟩
        case measure => simp only [intOf, Int.toNat_natCast]; omega
    · obtain rfl : j = many := by omega
      have hen := Lib.hid (rdr_end p pc bad wr HR.out)
      have hxl : Hid (x.length = j) := by
        show _ = _
        have := Ho.out.1
        rw [wcl, List.length_map, Nat.mul_one] at this
        exact this
      go_wp2_with fail
      refine hen.out.mono ?_
      rintro e w5 ⟨⟨hb0, hp0, rfl⟩ | ⟨hne, rfl⟩, rfl⟩
      · have HM6 : Hid (plainTk kind j b = some ([], x)) := by
          show _ = _
          rw [HM.out, Hbf.out hb0, Nat.sub_self, hp0]
          show (if ([] : List UInt8) = [] then some ([], x ++ []) else none) = _
          rw [if_pos rfl, List.append_nil]
        clear hb0 hp0 Hbt Hbf
        go_wp2_with fail
        go_ret
        exact ⟨.inr ⟨none, 0, 0, X, j, d, [], x, HM6.out, rfl, hxl.out, rfl, Hg.out, Rd.nil _ _, Ho.out.rd⟩, HK.out⟩
      · have HM6 : Hid (plainTk kind j b = none) := by
          show _ = _
          cases bad with
          | true => exact Hbt.out rfl
          | false =>
            rw [HM.out, Hbf.out rfl, Nat.sub_self]
            show (if pc = [] then some ([], x ++ []) else none) = _
            exact if_neg (fun h => hne ⟨rfl, h⟩)
        clear hne Hbt Hbf
        go_wp2_with fail
        go_ret
        exact ⟨.inl ⟨HM6.out, 6, by decide, rfl⟩, HK.out⟩

set_option maxHeartbeats 16000000 in
set_option maxRecDepth 100000 in
theorem plain_nums (kind : Int) (b : List UInt8) (many n c g tn tc : Nat) (A T : Option Addr) (w : World) (hk3 : ¬ kind = 3) (hl : b.length = n) (hr : Rd w A (Bs b)) (hn : n ≤ 500000) (hm : many ≤ 4096) (hg : Blk w g 40 [.int .u8 kind, .slice T tn tc, .slice none 0 0, .slice none 0 0]) :
    Calls Tryz.prog 13 #[.pointer (some ⟨g, 0, none⟩), .slice A n c, .int .i64 (many : Int)] w fun e w' => PartOK (plainTk kind many b) g kind T tn tc w e w' := by
  have hnw := Lib.hid (rdr_new b n c A w hl hr (by omega))
  have Hg := Lib.hid hg
  have HM : Hid (plainTk kind many b = (numsRd many b).bind fun x => if x.2 = [] then some (x.1, []) else none) := by
    show _ = _
    unfold plainTk
    exact if_neg hk3
  have hgw := hg.lt
  have hkI : (kind == 3) = false := by rw [beq_eq_false_iff_ne]; exact hk3
  clear hl hr hg hk3
  go_enter Tryz.func13, Tryz.ntmps13
  go_wp2_with fail
  refine hnw.out.mono ?_
  rintro e w1 ⟨p, rfl, hrd1, hp1, hb1⟩
  have HR1 := Lib.hid hrd1
  have HK1 : Hid (Keeps [40] g w w1) := Keeps.of_below hb1
  have Hg1 := Lib.hid (Hg.out.below hb1)
  clear hnw hrd1 hb1 Hg
  go_wp2_with fail
  go_loopw [11] (fun v11 wr => ∃ (j : Nat) (X : Option Addr) (d : Nat) (x : List Int) (pc : List UInt8) (bad : Bool), v11 = .int .i64 (j : Int) ∧ j ≤ many ∧ Hid (Rdr wr p pc bad) ∧ Hid (Blk wr g 40 [.int .u8 kind, .slice T tn tc, .slice X j d, .slice none 0 0]) ∧ Hid (Own wr w.heap.size 3 1 X j d (icl x)) ∧ Hid (Keeps [40] g w wr) ∧ Hid (bad = true → plainTk kind many b = none) ∧ Hid (bad = false → numsRd many b = (numsRd (many - j) pc).map fun y => (x ++ y.1, y.2))) (fun v11 _ => many - (intOf v11).toNat)
  case atStart => exact ⟨0, none, 0, [], b, false, rfl, by omega, HR1, Hg1, Own.nil _ _ _ _, HK1, (fun h => by cases h), (fun _ => by simp)⟩
  case round =>
    obtain ⟨j, X, d, x, pc, bad, rfl, hj, HR, Hg, Ho, HK, Hbt, Hbf⟩ := hrel
    by_cases hjn : j < many
    · have hjI : (j : Int) < (many : Int) := by omega
      have y0 := Hg.out.cell 0
      have y3 := Hg.out.cell 2
      simp only [List.getElem?_cons_zero, List.getElem?_cons_succ] at y0 y3
      go_wp2_with fail
      go_region_law
        (first | (go_simp; go_at_call 34; refine (rdr_int1 p pc bad _ (by exact HR.out.drewN 1)).mono ?_; rintro e w3 ⟨s, z, bad2, rfl, hr3, hbt3, hbf3, hs3, hk3⟩; have hg3 := Blk.keeps Hg.out (by decide) ((Keeps.refl _ _ _).drewN 1 |>.trans hk3); have ho3 := Own.keeps Ho.out (by decide) ((Keeps.refl _ _ _).drewN 1 |>.trans hk3); have hba : Below w3.heap.size w3 (w3.alloc (.cells #[.int .i64 s] 3)) := (Below.refl _ _).alloc (Nat.le_refl _) _; have hga := hg3.below hba; have j3 := hg3.cell 2; have ja := hga.cell 2; have hsz3 : w.heap.size ≤ (w3.alloc (.cells #[.int .i64 s] 3)).heap.size := Nat.le_trans HK.out.size (Nat.le_trans hk3.size hba.size); simp only [List.getElem?_cons_zero, List.getElem?_cons_succ] at j3 ja)
               | (refine step_apd rfl (.tmp 33) (.tmp 36) 35 rfl Eint' w.heap.size X j d (icl x) (by simp [Act.eval, Act.put]) (Own.below ho3 hba) (some ⟨w3.heap.size, 0, none⟩) 1 1 [.int .i64 s] (by simp [Act.eval, Act.put]) rfl (Rd.of_blk (Blk.new w3 3 #[.int .i64 s])) (by simp [Value.oneCell']) (j + 1) rfl (icl (x ++ [s])) (by simp [icl, wcl]) (by omega) (by omega) hsz3 ?_; intro A4 c4 w4 ho4 hg4 hat4; have hbk4 := hga.keeps (by decide) ((Own.below ho3 hba).apd_keeps hg4); have j4 := hbk4.cell 2; have f4 := hbk4.frozen 2; simp only [List.getElem?_cons_zero, List.getElem?_cons_succ] at j4))
      all_goals
        have hKa := ho3.below hba |>.apd_keeps hg4
        have hK4 : Keeps [40] g w w4 := ((((HK.out.drewN 1).then_young hk3 hp1).then_below hba).then_young hKa (Nat.le_refl _))
        obtain ⟨w5, hw5⟩ : ∃ x, x = w4.setCell ⟨g, 2, none⟩ (.slice A4 (j + 1) c4) := ⟨_, rfl⟩
        rw [← hw5]
        have hK45 : Keeps [40] g w4 w5 := by rw [hw5]; exact (Keeps.refl _ _ _).setCell hbk4 (by simp) (Nat.le_refl _) _
        have HK5 := Lib.hid (hK4.trans hK45)
        have Hg5 : Hid (Blk w5 g 40 [.int .u8 kind, .slice T tn tc, .slice A4 (j + 1) c4, .slice none 0 0]) := Lib.hid (by rw [hw5]; exact hbk4.set_ 2 _)
        have Ho5 := Lib.hid (ho4.keeps (by decide) hK45)
        have HR5 : Hid (Rdr w5 p z bad2) := ((hr3.below hba).keeps (by decide) (by decide) hKa).keeps (by decide) (by decide) hK45
        have Hbt2 := Lib.hid hbt3
        have Hbf2 := Lib.hid hbf3
        have Hst : Hid (bad2 = false → numsRd many b = (numsRd (many - (j + 1)) z).map fun y => (x ++ [s] ++ y.1, y.2)) := Lib.hid fun h => by
          obtain ⟨h1, m, rfl, h2⟩ := Hbf2.out h
          rw [Hbf.out h1]
          obtain ⟨k, hk⟩ : ∃ k, many - j = k + 1 := ⟨many - j - 1, by omega⟩
          have hk2 : many - (j + 1) = k := by omega
          rw [hk, hk2, numsRd, h2]
          dsimp only
          rw [Option.map_map]
          congr 1
          funext y
          show (x ++ (unzig m :: y.1), y.2) = _
          rw [List.append_assoc]
          rfl
        have Hbt3 : Hid (bad2 = true → plainTk kind many b = none) := Lib.hid fun h => by
          rcases Hbt2.out h with h1 | h1
          · exact Hbt.out h1
          · cases bad with
            | true => exact Hbt.out rfl
            | false =>
              rw [HM.out, Hbf.out rfl]
              obtain ⟨k, hk⟩ : ∃ k, many - j = k + 1 := ⟨many - j - 1, by omega⟩
              rw [hk, numsRd, h1]
              rfl
        clear hKa hK4 hw5 hK45 ho4 hg4 hat4 hbk4 j4 f4 j3 ja hga hg3 ho3 hr3 hk3 hba hsz3 hbt3 hbf3 Hbt2 Hbf2 Hbt Hbf y0 y3
        go_wp2_with fail
        go_roundw
        case rel => exact ⟨j + 1, A4, c4, x ++ [s], z, bad2, by go_num, by omega, HR5, Hg5, Ho5, HK5, Hbt3, Hst⟩
        case measure => simp only [intOf, Int.toNat_natCast]; omega
    · obtain rfl : j = many := by omega
      have hen := Lib.hid (rdr_end p pc bad wr HR.out)
      have hxl : Hid (x.length = j) := by
        show _ = _
        have := Ho.out.1
        rw [icl, List.length_map, Nat.mul_one] at this
        exact this
      go_wp2_with fail
      refine hen.out.mono ?_
      rintro e w5 ⟨⟨hb0, hp0, rfl⟩ | ⟨hne, rfl⟩, rfl⟩
      · have HM6 : Hid (plainTk kind j b = some (x, [])) := by
          show _ = _
          rw [HM.out, Hbf.out hb0, Nat.sub_self, hp0]
          show (if ([] : List UInt8) = [] then some (x ++ [], []) else none) = _
          rw [if_pos rfl, List.append_nil]
        clear hb0 hp0 Hbt Hbf
        go_wp2_with fail
        go_ret
        exact ⟨.inr ⟨X, j, d, none, 0, 0, x, [], HM6.out, hxl.out, rfl, rfl, Hg.out, Ho.out.rd, Rd.nil _ _⟩, HK.out⟩
      · have HM6 : Hid (plainTk kind j b = none) := by
          show _ = _
          cases bad with
          | true => exact Hbt.out rfl
          | false =>
            rw [HM.out, Hbf.out rfl, Nat.sub_self]
            show (if pc = [] then some (x ++ [], []) else none) = _
            exact if_neg (fun h => hne ⟨rfl, h⟩)
        clear hne Hbt Hbf
        go_wp2_with fail
        go_ret
        exact ⟨.inl ⟨HM6.out, 6, by decide, rfl⟩, HK.out⟩
theorem plain_any (kind : Int) (b : List UInt8) (many n c g tn tc : Nat) (A T : Option Addr) (w : World) (hl : b.length = n) (hr : Rd w A (Bs b)) (hn : n ≤ 500000) (hm : many ≤ 4096) (hg : Blk w g 40 [.int .u8 kind, .slice T tn tc, .slice none 0 0, .slice none 0 0]) :
    Calls Tryz.prog 13 #[.pointer (some ⟨g, 0, none⟩), .slice A n c, .int .i64 (many : Int)] w fun e w' => PartOK (plainTk kind many b) g kind T tn tc w e w' := by
  by_cases h : kind = 3
  · exact plain_texts kind b many n c g tn tc A T w h hl hr hn hm hg
  · exact plain_nums kind b many n c g tn tc A T w h hl hr hn hm hg
end Go.Proofs.YtojppmnmhdgnnaaGreat
namespace Go.Proofs.YtojppmnmhdgnnaaGreat
set_option linter.unusedVariables false
set_option linter.unusedSimpArgs false
open Go.RowKit

attribute [local go_sem ↓] Go.wp_at_zero Go.wp_at_succ

theorem unframeM_len {b : List UInt8} {l : List Int} (h : unframeM b = some l) : l.length ≤ 4096 := by
  unfold unframeM at h
  split at h
  · cases h
  · split at h
    · split at h
      · cases h
        exact Nat.zero_le _
      · cases h
    · split at h
      · cases h
      · split at h
        · cases h
        · split at h
          · cases h
          · split at h
            · cases h
            · split at h
              · cases h
                rw [List.length_map, unpackM_len]
                omega
              · cases h
theorem runsTakeM_len {b : List UInt8} {l : List Int} (h : runsTakeM b = some l) : l.length ≤ 4096 := by
  unfold runsTakeM at h
  split at h
  · cases h
  · obtain ⟨x, -, h⟩ := Option.bind_eq_some_iff.1 h
    split at h
    · rename_i hx
      cases h
      have h1 := hx.2
      unfold rightR sumOk at h1
      rw [Bool.and_eq_true, Bool.and_eq_true] at h1
      rw [flatR_len]
      exact of_decide_eq_true h1.2.2
    · cases h
theorem deltaRd_len : ∀ (n : Nat) (a : Int) (u : List UInt8) (x : List Int × List UInt8), deltaRd n a u = some x → x.1.length = n
  | 0, a, u, x, h => by
    rw [deltaRd] at h
    cases h
    rfl
  | n + 1, a, u, x, h => by
    rw [deltaRd] at h
    split at h
    · cases h
    · split at h
      · obtain ⟨y, hy, rfl⟩ := Option.map_eq_some_iff.1 h
        rw [List.length_cons, deltaRd_len n _ _ y hy]
      · cases h
theorem deltaTakeM_len {b : List UInt8} {l : List Int} (h : deltaTakeM b = some l) : l.length ≤ 4096 := by
  unfold deltaTakeM at h
  split at h
  · cases h
  · split at h
    · cases h
    · obtain ⟨x, hx, h⟩ := Option.bind_eq_some_iff.1 h
      split at h
      · cases h
        rw [deltaRd_len _ _ _ _ hx]
        omega
      · cases h
/-- The rest behind words is no longer than all. -/
theorem takeF_le : ∀ (k : Nat) (lst : List UInt8) (a : List (List UInt8)) (u : List UInt8) (W : List (List UInt8)) (r : List UInt8), takeF k lst a u = some (W, r) → r.length ≤ u.length
  | 0, lst, a, u, W, r, h => by
    rw [takeF] at h
    cases h
    exact Nat.le_refl _
  | k + 1, lst, a, u, W, r, h => by
    rw [takeF] at h
    split at h
    · cases h
    · rename_i n v h1
      split at h
      · cases h
      · rename_i s z h2
        split at h
        · cases h
        · split at h
          · have h3 := takeF_le k _ _ _ W r h
            have h4 := (takeNum_lt h1).2
            have h5 : z.length ≤ v.length := by
              obtain ⟨-, q, rfl, -⟩ := takeText_suf h2
              rw [List.length_drop]
              omega
            omega
          · cases h
theorem takeM_le {b : List UInt8} {W : List (List UInt8)} {r : List UInt8} (h : takeM b = some (W, r)) : r.length ≤ b.length := by
  unfold takeM at h
  split at h
  · cases h
  · rename_i m u h1
    split at h
    · cases h
    · split at h
      · cases h
      · rename_i w' r' h2
        split at h
        · cases h
          have h3 := takeF_le _ _ _ _ _ _ h2
          have h4 := (takeNum_lt h1).2
          omega
        · cases h

/-- A row whose cells a block has not is not in this block. -/
theorem Rd.apart {w w' : World} {A : Option Addr} {xs ys : List Value} {g : Nat} {t : TypeId} (h : Rd w A xs) (hg : Blk w g t ys) (hx : ∀ x ∈ xs, x ∉ ys) (hk : ∀ k, k < w.heap.size → k ≠ g → w'.heap[k]? = w.heap[k]?) : Rd w' A xs := fun hn => by
  obtain ⟨b, o, e, hr⟩ := h hn
  refine ⟨b, o, e, range_of_heap hr (hk b (lt_of_range hr hn) fun hbg => ?_)⟩
  subst hbg
  cases xs with
  | nil => exact hn rfl
  | cons x xs =>
    have h1 := hr 0 x rfl
    rw [hg.cell] at h1
    exact hx x (List.mem_cons_self ..) (List.mem_of_getElem? h1)
theorem wcl_far (W : List (List UInt8)) (kind : Int) (T N X : Option Addr) (a b c d e f : Nat) : ∀ x ∈ wcl W, x ∉ [Value.int .u8 kind, .slice T a b, .slice N c d, .slice X e f] := by
  intro x hx
  obtain ⟨s, -, rfl⟩ := List.mem_map.1 hx
  simp
theorem icl_far (W : List Int) (kind : Int) (T N X : Option Addr) (a b c d e f : Nat) : ∀ x ∈ icl W, x ∉ [Value.int .u8 kind, .slice T a b, .slice N c d, .slice X e f] := by
  intro x hx
  obtain ⟨s, -, rfl⟩ := List.mem_map.1 hx
  simp

set_option maxHeartbeats 16000000 in
set_option maxRecDepth 100000 in
theorem named_any (kind : Int) (b : List UInt8) (n c g tn tc : Nat) (A T : Option Addr) (w : World) (hl : b.length = n) (hr : Rd w A (Bs b)) (hn : n ≤ 500000) (hnc : n ≤ c) (hc : c ≤ 9223372036854775807) (hg : Blk w g 40 [.int .u8 kind, .slice T tn tc, .slice none 0 0, .slice none 0 0]) :
    Calls Tryz.prog 15 #[.pointer (some ⟨g, 0, none⟩), .slice A n c] w fun e w' => PartOK ((namedM b).map fun x => ([], x)) g kind T tn tc w e w' := by
  have htk := Lib.hid (dtake_any2 b n c A w hl hr hn hnc hc)
  have Hl := Lib.hid hl
  have Hg := Lib.hid hg
  have hgw := hg.lt
  have HM : Hid (namedM b = (takeM b).bind fun x => (unframeM x.2).bind fun ps => if ∀ k ∈ ps, 0 ≤ k ∧ k < (x.1.length : Int) then some (ps.map fun k => x.1.getD k.toNat []) else none) := rfl
  clear hl hr hg
  go_enter Tryz.func15, Tryz.ntmps15
  go_wp2_with fail
  refine htk.out.mono ?_
  rintro e w1 ⟨⟨htm, rfl⟩ | ⟨W, r, A1, c1, A2, c2, htm, rfl, hrc, hrW, hrr⟩, hb1⟩
  · have HN : Hid ((namedM b).map (fun x => (([] : List Int), x)) = none) := by
      show _ = _
      rw [HM.out, htm]
      rfl
    have HK1 : Hid (Keeps [40] g w w1) := Keeps.of_below hb1
    clear hb1 htm htk
    go_wp2_with fail
    go_ret
    exact ⟨.inl ⟨HN.out, 6, by decide, rfl⟩, HK1.out⟩
  · have hrl := takeM_le htm
    rw [Hl.out] at hrl
    obtain ⟨m2, hm2⟩ : ∃ m2, r.length = m2 := ⟨_, rfl⟩
    rw [hm2] at hrc hrl
    have Hm2 := Lib.hid hm2
    have HKW : Hid (Keeps [40] g w w1) := Keeps.of_below hb1
    have Hg1 := Lib.hid (Hg.out.below hb1)
    have hwz1 := hb1.size
    have HrW := Lib.hid hrW
    have huf := Lib.hid (unframe_any r m2 c2 A2 w1 hm2 hrr (by omega) hrc.1 hrc.2)
    rw [hm2]
    obtain ⟨K1, hK1⟩ : ∃ K1, W.length = K1 := ⟨_, rfl⟩
    rw [hK1]
    have HK1 := Lib.hid hK1
    have HM2 : Hid (namedM b = (unframeM r).bind fun ps => if ∀ k ∈ ps, 0 ≤ k ∧ k < (K1 : Int) then some (ps.map fun k => W.getD k.toNat []) else none) := by
      show _ = _
      rw [HM.out, htm, ← hK1]
      rfl
    clear htm hrW hrr hm2 hb1 hK1 htk HM Hg
    go_wp2_with fail
    refine huf.out.mono ?_
    rintro e w2 ⟨⟨hum, E, hE, rfl⟩ | ⟨ps, A3, c3, hum, rfl, hrp⟩, hb2⟩
    · have HN : Hid ((namedM b).map (fun x => (([] : List Int), x)) = none) := by
        show _ = _
        rw [HM2.out, hum]
        rfl
      have HK2 := Lib.hid (HKW.out.then_below hb2)
      have HE := Lib.hid hE
      clear hb2 hum huf hE
      go_wp2_with fail
      go_loopw [27] (fun v27 wr => v27 = .int .i64 0 ∧ wr = w2) (fun _ _ => 0)
      case atStart => exact ⟨rfl, rfl⟩
      case round =>
        obtain ⟨rfl, rfl⟩ := hrel
        go_wp2_with fail
        go_ret
        exact ⟨.inl ⟨HN.out, E, HE.out, rfl⟩, HK2.out⟩
    · have hpl := unframeM_len hum
      obtain ⟨m, hm⟩ : ∃ m, ps.length = m := ⟨_, rfl⟩
      rw [hm] at hpl ⊢
      have Hm := Lib.hid hm
      have HM3 : Hid (namedM b = if ∀ k ∈ ps, 0 ≤ k ∧ k < (K1 : Int) then some (ps.map fun k => W.getD k.toNat []) else none) := by
        show _ = _
        rw [HM2.out, hum]
        rfl
      have HK2 := Lib.hid (HKW.out.then_below hb2)
      have Hg2 := Lib.hid (Hg1.out.below hb2)
      have HrW2 := Lib.hid (HrW.out.below hb2)
      have Hrp := Lib.hid hrp
      have hwz2 : w.heap.size ≤ w2.heap.size := Nat.le_trans hwz1 hb2.size
      have hgw2 : g < w2.heap.size := Hg2.out.lt
      clear hb2 hum huf hrp hm HrW Hg1 HKW HM2
      go_wp2_with fail
      go_loopw [27] (fun v27 wr => ∃ (j : Nat) (X : Option Addr) (d : Nat), v27 = .int .i64 (j : Int) ∧ j ≤ m ∧ Hid (∀ k ∈ ps.take j, 0 ≤ k ∧ k < (K1 : Int)) ∧ Hid (Blk wr g 40 [.int .u8 kind, .slice T tn tc, .slice none 0 0, .slice X j d]) ∧ Hid (Own wr w2.heap.size 9 1 X j d (wcl ((ps.take j).map fun k => W.getD k.toNat []))) ∧ Hid (Keeps [40] g w2 wr) ∧ Hid (∀ k, k < w2.heap.size → k ≠ g → wr.heap[k]? = w2.heap[k]?)) (fun v27 _ => m - (intOf v27).toNat)
      case atStart => exact ⟨0, none, 0, rfl, by omega, (fun k hk => by simp at hk), Hg2, Own.nil _ _ _ _, Keeps.refl _ _ _, (fun _ _ _ => rfl)⟩
      case round =>
        obtain ⟨j, X, d, rfl, hj, Hin, Hgr, Ho, HKr, Hfr⟩ := hrel
        by_cases hjn : j < m
        · have hjI : (j : Int) < (m : Int) := by omega
          have hj0 : (0 : Int) ≤ (j : Int) := by omega
          have hjl : j < ps.length := by rw [Hm.out]; exact hjn
          have hrp3 : Rd wr A3 (icl ps) := Hrp.out.apart Hg2.out (icl_far _ _ _ _ _ _ _ _ _ _ _) Hfr.out
          have hrw3 : Rd wr A1 (wcl W) := HrW2.out.apart Hg2.out (wcl_far _ _ _ _ _ _ _ _ _ _ _) Hfr.out
          obtain ⟨b3, o3, hA3, cj⟩ := icl_get hrp3 hjl
          subst hA3
          have Hmem : Hid (ps[j] ∈ ps) := List.getElem_mem hjl
          have Htk : Hid (ps.take (j + 1) = ps.take j ++ [ps[j]]) := List.take_succ_eq_append_getElem hjl
          generalize ps[j] = pj at *
          clear hrp3 hjl
          have Hno : Hid (¬ (0 ≤ pj ∧ pj < (K1 : Int)) → (namedM b).map (fun x => (([] : List Int), x)) = none) := Lib.hid fun h => by
            rw [HM3.out, if_neg (fun h2 => h (h2 pj Hmem.out))]
            rfl
          have HKf := Lib.hid (HK2.out.trans HKr.out)
          by_cases hp0 : pj < 0
          · have HN := Lib.hid (Hno.out (by omega))
            clear hrw3
            go_wp2_with fail
            go_ret
            exact ⟨.inl ⟨HN.out, 6, by decide, rfl⟩, HKf.out⟩
          · by_cases hpk : (K1 : Int) ≤ pj
            · have HN := Lib.hid (Hno.out (by omega))
              clear hrw3
              go_wp2_with fail
              go_ret
              exact ⟨.inl ⟨HN.out, 6, by decide, rfl⟩, HKf.out⟩
            · obtain ⟨q, rfl⟩ : ∃ q : Nat, pj = (q : Int) := ⟨pj.toNat, by omega⟩
              have hqK : q < K1 := by omega
              have hqI : (q : Int) < (K1 : Int) := by omega
              have hq0 : (0 : Int) ≤ (q : Int) := by omega
              have hqW : q < W.length := by rw [HK1.out]; exact hqK
              obtain ⟨b1, o1, hA1, cq⟩ := hrw3.word hqW
              subst hA1
              have HWq : Hid (W.getD q [] = W[q]) := by show _ = _; rw [List.getD_eq_getElem?_getD, List.getElem?_eq_getElem hqW]; rfl
              generalize W[q] = s at *
              clear hrw3 hqW
              have y3 := Hgr.out.cell 3
              simp only [List.getElem?_cons_zero, List.getElem?_cons_succ] at y3
              have hba : Below wr.heap.size wr (wr.alloc (.cells #[.string (St8 s)] 9)) := (Below.refl _ _).alloc (Nat.le_refl _) _
              have hga := Hgr.out.below hba
              have ja := hga.cell 3
              simp only [List.getElem?_cons_zero, List.getElem?_cons_succ] at ja
              have hod : Own (wr.alloc (.cells #[.string (St8 s)] 9)).drew w2.heap.size 9 1 X j d (wcl ((ps.take j).map fun k => W.getD k.toNat [])) := Own.keeps (Own.below Ho.out hba) (T := []) (B := 0) (by simp) ((Keeps.refl _ _ _).drewN 1)
              have hgd : Blk (wr.alloc (.cells #[.string (St8 s)] 9)).drew g 40 [.int .u8 kind, .slice T tn tc, .slice none 0 0, .slice X j d] := hga
              have hrd : Rd (wr.alloc (.cells #[.string (St8 s)] 9)).drew (some ⟨wr.heap.size, 0, none⟩) [.string (St8 s)] := Rd.of_blk (Blk.new wr 9 #[.string (St8 s)])
              have hsz3 : w2.heap.size ≤ (wr.alloc (.cells #[.string (St8 s)] 9)).heap.size := Nat.le_trans HKr.out.size hba.size
              clear hp0 hpk Hno
              go_wp2_with fail
              go_region_law
                (first | (refine step_apd rfl (.tmp 43) (.tmp 48) 27 rfl Estr w2.heap.size X j d (wcl ((ps.take j).map fun k => W.getD k.toNat [])) (by simp [Act.eval, Act.put]) hod (some ⟨wr.heap.size, 0, none⟩) 1 1 [.string (St8 s)] (by simp [Act.eval, Act.put]) rfl hrd (by simp [Value.oneCell']) (j + 1) rfl (wcl ((ps.take (j + 1)).map fun k => W.getD k.toNat [])) (by rw [Htk.out, List.map_append, wcl_append]; simp only [List.map_cons, List.map_nil, Int.toNat_natCast, HWq.out]; rfl) (by omega) (by omega) (by exact hsz3) ?_; intro A4 c4 w4 ho4 hg4 hat4; have hbk4 := hgd.keeps (by decide) (Own.apd_keeps hod hg4); have j4 := hbk4.cell 3; have f4 := hbk4.frozen 3; simp only [List.getElem?_cons_zero, List.getElem?_cons_succ] at j4))
              all_goals
                obtain ⟨w5, hw5⟩ : ∃ x, x = w4.setCell ⟨g, 3, none⟩ (.slice A4 (j + 1) c4) := ⟨_, rfl⟩
                rw [← hw5]
                have hK4 : Keeps [40] g w2 w4 := ((HKr.out.then_below hba).drewN 1).then_young (hod.apd_keeps hg4) (Nat.le_refl _)
                have hK45 : Keeps [40] g w4 w5 := by rw [hw5]; exact (Keeps.refl _ _ _).setCell hbk4 (by simp) (Nat.le_refl _) _
                have HK5 := Lib.hid (hK4.trans hK45)
                have Hg5 : Hid (Blk w5 g 40 [.int .u8 kind, .slice T tn tc, .slice none 0 0, .slice A4 (j + 1) c4]) := Lib.hid (by rw [hw5]; exact hbk4.set_ 3 _)
                have Ho5 := Lib.hid (Own.keeps ho4 (by decide) hK45)
                have Hfr5 : Hid (∀ k, k < w2.heap.size → k ≠ g → w5.heap[k]? = w2.heap[k]?) := Lib.hid fun k hk hkg => by
                  rw [hw5, heap_setCell_other _ _ _ _ hkg, ← Hfr.out k hk hkg]
                  have e1 := hg4.block k (Nat.lt_of_lt_of_le hk hsz3) (fun e => absurd (hod.lt k e.symm).1 (by omega))
                  rw [e1]
                  exact hba.block k (Nat.lt_of_lt_of_le hk HKr.out.size)
                have Hin5 : Hid (∀ k ∈ ps.take (j + 1), 0 ≤ k ∧ k < (K1 : Int)) := Lib.hid fun k hk => by
                  rw [Htk.out, List.mem_append, List.mem_singleton] at hk
                  rcases hk with hk | rfl
                  · exact Hin.out k hk
                  · omega
                clear hw5 hK4 hK45 ho4 hg4 hat4 hbk4 j4 f4 hod hgd hrd hga ja y3 hba hsz3 cq cj HWq Htk Hmem Hin Hgr Ho HKr Hfr HKf
                go_wp2_with fail
                go_roundw
                case rel => exact ⟨j + 1, A4, c4, by go_num, by omega, Hin5, Hg5, Ho5, HK5, Hfr5⟩
                case measure => simp only [intOf, Int.toNat_natCast]; omega
        · obtain rfl : j = m := by omega
          have hta : ps.take j = ps := List.take_of_length_le (by rw [Hm.out]; exact Nat.le_refl _)
          have HN : Hid ((namedM b).map (fun x => (([] : List Int), x)) = some ([], ps.map fun k => W.getD k.toNat [])) := by
            show _ = _
            have h := Hin.out
            rw [hta] at h
            rw [HM3.out, if_pos h]
            rfl
          have HKf := Lib.hid (HK2.out.trans HKr.out)
          have Hro : Hid (Rd wr X (wcl (ps.map fun k => W.getD k.toNat []))) := by
            have h := Ho.out.rd
            rw [hta] at h
            exact h
          clear hta Ho Hin Hfr
          go_wp2_with fail
          go_ret
          exact ⟨.inr ⟨none, 0, 0, X, j, d, [], _, HN.out, rfl, by rw [List.length_map, Hm.out], rfl, Hgr.out, Rd.nil _ _, Hro.out⟩, HKf.out⟩
end Go.Proofs.YtojppmnmhdgnnaaGreat
