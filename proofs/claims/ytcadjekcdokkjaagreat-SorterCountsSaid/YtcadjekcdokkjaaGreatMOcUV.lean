/- Walks: a value that may be, as bytes. Walks: a value that may be, as bytes: both ways at once. -/
import Derived.Test.YtcadjekcdokkjaaGreatMOcPT
namespace Go.Proofs.YtcadjekcdokkjaaGreat
set_option linter.unusedVariables false
set_option linter.unusedSimpArgs false
open Go.RowKit
attribute [local go_sem ↓] Go.wp_at_zero Go.wp_at_succ
set_option maxHeartbeats 4000000 in
set_option maxRecDepth 100000 in
theorem rput_nil (b : List UInt8) (bl bc : Nat) (A : Option Addr) (w : World) (hb : b.length = bl) (hr : Rd w A (Bs b)) (hbl : bl ≤ 100000) :
  Calls Tryz.prog 67 #[.slice A bl bc, .agg #[.int .u8 0, .int .i64 0, .string (St8 [])]] w fun e w' => ∃ A' c', e = .returned (.slice A' (bl + 1) c') ∧ Own w' w.heap.size 5 1 A' (bl + 1) c' (Bs (b ++ [byteN 0])) ∧ Below w.heap.size w w' := by
 have Hb := Lib.hid hb
 have hbW : Below w.heap.size w (w.alloc (.cells #[.int .u8 0, .int .i64 0, .string (St8 [])] 38)) := (Below.refl _ _).alloc (Nat.le_refl _) _
 have hkW := Blk.new w 38 #[.int .u8 0, .int .i64 0, .string (St8 [])]
 have hrW := hr.below hbW
 have hri := Lib.hid (right_any ⟨0, 0, []⟩ (w.alloc (.cells #[.int .u8 0, .int .i64 0, .string (St8 [])] 38)))
 have hrv : rightV ⟨0, 0, []⟩ = true := by simp [rightV]
 rw [hrv] at hri
 unfold Va.agg at hri
 clear hb hr hrv
 go_enter Tryz.func67, Tryz.ntmps67
 go_wp2_with fail
 refine hri.out.mono ?_
 rintro e w1 ⟨rfl, hb1⟩
 have hk1 := hkW.below hb1
 have hr1 := hrW.below hb1
 have hb01 := hbW.trans (hb1.mono hbW.size)
 have hz1 := hb01.size
 clear hkW hrW hb1 hbW hri
 have ho1 : Own (w1.alloc (.cells #[] 5)) w.heap.size 5 1 (some ⟨w1.heap.size, 0, none⟩) 0 0 [] := World.ownsRow_made w1 #[] 0 hz1 (by unfold maxLen; omega) rfl
 have hbA : Below w1.heap.size w1 (w1.alloc (.cells #[] 5)) := (Below.refl _ _).alloc (Nat.le_refl _) _
 have hkA := hk1.below hbA
 have hb0A := hb01.trans (hbA.mono hz1)
 go_wp2_with (first | (at_builtin; refine hold ?_) | (at_make; refine hold ?_))
 (with_reducible refine unhold ?_)
 refine wpList_apd rfl _ _ _ rfl E8 w.heap.size _ 0 _ [] rfl ho1 _ bl _ (Bs b) rfl (by rw [List.length_map, Hb.out, Nat.mul_one]) (hr1.below hbA) (Bs_one b) bl (Nat.zero_add _) (Bs b) rfl (by omega) (by omega) hb0A.size ?_
 intro A2 c2 w2 ho2 hg2 _
 have hk2 : Blk w2 w.heap.size 38 _ := Blk.keeps hkA (by decide) (ho1.apd_keeps hg2)
 have hb2 := hb0A.grown hg2 hb0A.size ho1.row_ge
 have k0 := hk2.cell 0
 simp only [List.getElem?_cons_zero] at k0
 clear ho1 hbA hkA hb0A hg2 hk1 hr1 hb01
 have hbB : Below w2.heap.size w2 (w2.alloc (.cells #[.int .u8 0] 5)) := (Below.refl _ _).alloc (Nat.le_refl _) _
 have hnew := (Blk.new w2 5 #[.int .u8 0]).range
 have hoB := Own.below ho2 hbB
 have hkB := hk2.below hbB
 have hb0B := hb2.trans (hbB.mono hb2.size)
 clear ho2 hbB
 go_wp2_with (first | (at_builtin; refine hold ?_) | (at_make; refine hold ?_))
 (with_reducible refine unhold ?_)
 refine wpList_apd rfl _ _ _ rfl E8 w.heap.size _ bl _ (Bs b) rfl hoB _ 1 _ [.int .u8 0] rfl rfl (fun _ => ⟨_, _, rfl, hnew⟩) (by simp [Value.oneCell']) (bl + 1) rfl (Bs (b ++ [byteN 0])) (bs_byte (m := 0) (by omega)) (by omega) (by omega) hb0B.size ?_
 intro A3 c3 w3 ho3 hg3 _
 have hk3 : Blk w3 w.heap.size 38 _ := Blk.keeps hkB (by decide) (hoB.apd_keeps hg3)
 have hb3 := hb0B.grown hg3 hb0B.size hoB.row_ge
 clear hoB hkB hb0B hg3 hnew hk2 hb2 k0
 have l0 := hk3.cell 0
 have l1 := hk3.cell 1
 have l2 := hk3.cell 2
 simp only [List.getElem?_cons_zero, List.getElem?_cons_succ] at l0 l1 l2
 have hz3 := hb3.size
 clear hk3
 go_wp2_with fail
 go_ret
 exact ⟨_, _, rfl, ho3, hb3⟩
set_option maxHeartbeats 4000000 in
set_option maxRecDepth 100000 in
theorem rput_no (b : List UInt8) (bl bc : Nat) (A : Option Addr) (w : World) (hb : b.length = bl) (hr : Rd w A (Bs b)) (hbl : bl ≤ 100000) :
  Calls Tryz.prog 67 #[.slice A bl bc, .agg #[.int .u8 1, .int .i64 0, .string (St8 [])]] w fun e w' => ∃ A' c', e = .returned (.slice A' (bl + (1 + (numB (zigN 0)).length)) c') ∧ Own w' w.heap.size 5 1 A' (bl + (1 + (numB (zigN 0)).length)) c' (Bs (b ++ (byteN 1 :: numB (zigN 0)))) ∧ Below w.heap.size w w' := by
 have Hb := Lib.hid hb
 have hbW : Below w.heap.size w (w.alloc (.cells #[.int .u8 1, .int .i64 0, .string (St8 [])] 38)) := (Below.refl _ _).alloc (Nat.le_refl _) _
 have hkW := Blk.new w 38 #[.int .u8 1, .int .i64 0, .string (St8 [])]
 have hrW := hr.below hbW
 have hri := Lib.hid (right_any ⟨1, 0, []⟩ (w.alloc (.cells #[.int .u8 1, .int .i64 0, .string (St8 [])] 38)))
 have hrv : rightV ⟨1, 0, []⟩ = true := by simp [rightV]
 rw [hrv] at hri
 unfold Va.agg at hri
 clear hb hr hrv
 go_enter Tryz.func67, Tryz.ntmps67
 go_wp2_with fail
 refine hri.out.mono ?_
 rintro e w1 ⟨rfl, hb1⟩
 have hk1 := hkW.below hb1
 have hr1 := hrW.below hb1
 have hb01 := hbW.trans (hb1.mono hbW.size)
 have hz1 := hb01.size
 clear hkW hrW hb1 hbW hri
 have ho1 : Own (w1.alloc (.cells #[] 5)) w.heap.size 5 1 (some ⟨w1.heap.size, 0, none⟩) 0 0 [] := World.ownsRow_made w1 #[] 0 hz1 (by unfold maxLen; omega) rfl
 have hbA : Below w1.heap.size w1 (w1.alloc (.cells #[] 5)) := (Below.refl _ _).alloc (Nat.le_refl _) _
 have hkA := hk1.below hbA
 have hb0A := hb01.trans (hbA.mono hz1)
 go_wp2_with (first | (at_builtin; refine hold ?_) | (at_make; refine hold ?_))
 (with_reducible refine unhold ?_)
 refine wpList_apd rfl _ _ _ rfl E8 w.heap.size _ 0 _ [] rfl ho1 _ bl _ (Bs b) rfl (by rw [List.length_map, Hb.out, Nat.mul_one]) (hr1.below hbA) (Bs_one b) bl (Nat.zero_add _) (Bs b) rfl (by omega) (by omega) hb0A.size ?_
 intro A2 c2 w2 ho2 hg2 _
 have hk2 : Blk w2 w.heap.size 38 _ := Blk.keeps hkA (by decide) (ho1.apd_keeps hg2)
 have hb2 := hb0A.grown hg2 hb0A.size ho1.row_ge
 have k0 := hk2.cell 0
 simp only [List.getElem?_cons_zero] at k0
 clear ho1 hbA hkA hb0A hg2 hk1 hr1 hb01
 have hbB : Below w2.heap.size w2 (w2.alloc (.cells #[.int .u8 1] 5)) := (Below.refl _ _).alloc (Nat.le_refl _) _
 have hnew := (Blk.new w2 5 #[.int .u8 1]).range
 have hoB := Own.below ho2 hbB
 have hkB := hk2.below hbB
 have hb0B := hb2.trans (hbB.mono hb2.size)
 clear ho2 hbB
 go_wp2_with (first | (at_builtin; refine hold ?_) | (at_make; refine hold ?_))
 (with_reducible refine unhold ?_)
 refine wpList_apd rfl _ _ _ rfl E8 w.heap.size _ bl _ (Bs b) rfl hoB _ 1 _ [.int .u8 1] rfl rfl (fun _ => ⟨_, _, rfl, hnew⟩) (by simp [Value.oneCell']) (bl + 1) rfl (Bs (b ++ [byteN 1])) (bs_byte (m := 1) (by omega)) (by omega) (by omega) hb0B.size ?_
 intro A3 c3 w3 ho3 hg3 _
 have hk3 : Blk w3 w.heap.size 38 _ := Blk.keeps hkB (by decide) (hoB.apd_keeps hg3)
 have hb3 := hb0B.grown hg3 hb0B.size hoB.row_ge
 clear hoB hkB hb0B hg3 hnew hk2 hb2 k0
 have l0 := hk3.cell 0
 have l1 := hk3.cell 1
 have l2 := hk3.cell 2
 simp only [List.getElem?_cons_zero, List.getElem?_cons_succ] at l0 l1 l2
 have hz3 := hb3.size
 have hci := rint_any (b ++ [byteN 1]) (bl + 1) c3 0 A3 w3 (by rw [List.length_append, Hb.out]; rfl) ho3.rd (by omega) (by omega)
 rw [show bl + 1 + (numB (zigN 0)).length = bl + (1 + (numB (zigN 0)).length) from by omega, show (b ++ [byteN 1]) ++ numB (zigN 0) = b ++ (byteN 1 :: numB (zigN 0)) from by simp] at hci
 have Hci := Lib.hid hci
 clear hci
 generalize hL : (numB (zigN 0)).length = L at Hci
 have HL := Lib.hid hL
 clear hL hk3
 go_wp2_with fail
 refine Hci.out.mono ?_
 rintro e w4 ⟨A4, c4, rfl, ho4, hb4⟩
 go_wp2_with fail
 go_ret
 rw [HL.out]
 exact ⟨_, _, rfl, Own.base ho4 hz3, hb3.trans (hb4.mono hz3)⟩
set_option maxHeartbeats 4000000 in
set_option maxRecDepth 100000 in
theorem rput_yes (b : List UInt8) (bl bc : Nat) (A : Option Addr) (w : World) (hb : b.length = bl) (hr : Rd w A (Bs b)) (hbl : bl ≤ 100000) :
  Calls Tryz.prog 67 #[.slice A bl bc, .agg #[.int .u8 1, .int .i64 1, .string (St8 [])]] w fun e w' => ∃ A' c', e = .returned (.slice A' (bl + (1 + (numB (zigN 1)).length)) c') ∧ Own w' w.heap.size 5 1 A' (bl + (1 + (numB (zigN 1)).length)) c' (Bs (b ++ (byteN 1 :: numB (zigN 1)))) ∧ Below w.heap.size w w' := by
 have Hb := Lib.hid hb
 have hbW : Below w.heap.size w (w.alloc (.cells #[.int .u8 1, .int .i64 1, .string (St8 [])] 38)) := (Below.refl _ _).alloc (Nat.le_refl _) _
 have hkW := Blk.new w 38 #[.int .u8 1, .int .i64 1, .string (St8 [])]
 have hrW := hr.below hbW
 have hri := Lib.hid (right_any ⟨1, 1, []⟩ (w.alloc (.cells #[.int .u8 1, .int .i64 1, .string (St8 [])] 38)))
 have hrv : rightV ⟨1, 1, []⟩ = true := by simp [rightV]
 rw [hrv] at hri
 unfold Va.agg at hri
 clear hb hr hrv
 go_enter Tryz.func67, Tryz.ntmps67
 go_wp2_with fail
 refine hri.out.mono ?_
 rintro e w1 ⟨rfl, hb1⟩
 have hk1 := hkW.below hb1
 have hr1 := hrW.below hb1
 have hb01 := hbW.trans (hb1.mono hbW.size)
 have hz1 := hb01.size
 clear hkW hrW hb1 hbW hri
 have ho1 : Own (w1.alloc (.cells #[] 5)) w.heap.size 5 1 (some ⟨w1.heap.size, 0, none⟩) 0 0 [] := World.ownsRow_made w1 #[] 0 hz1 (by unfold maxLen; omega) rfl
 have hbA : Below w1.heap.size w1 (w1.alloc (.cells #[] 5)) := (Below.refl _ _).alloc (Nat.le_refl _) _
 have hkA := hk1.below hbA
 have hb0A := hb01.trans (hbA.mono hz1)
 go_wp2_with (first | (at_builtin; refine hold ?_) | (at_make; refine hold ?_))
 (with_reducible refine unhold ?_)
 refine wpList_apd rfl _ _ _ rfl E8 w.heap.size _ 0 _ [] rfl ho1 _ bl _ (Bs b) rfl (by rw [List.length_map, Hb.out, Nat.mul_one]) (hr1.below hbA) (Bs_one b) bl (Nat.zero_add _) (Bs b) rfl (by omega) (by omega) hb0A.size ?_
 intro A2 c2 w2 ho2 hg2 _
 have hk2 : Blk w2 w.heap.size 38 _ := Blk.keeps hkA (by decide) (ho1.apd_keeps hg2)
 have hb2 := hb0A.grown hg2 hb0A.size ho1.row_ge
 have k0 := hk2.cell 0
 simp only [List.getElem?_cons_zero] at k0
 clear ho1 hbA hkA hb0A hg2 hk1 hr1 hb01
 have hbB : Below w2.heap.size w2 (w2.alloc (.cells #[.int .u8 1] 5)) := (Below.refl _ _).alloc (Nat.le_refl _) _
 have hnew := (Blk.new w2 5 #[.int .u8 1]).range
 have hoB := Own.below ho2 hbB
 have hkB := hk2.below hbB
 have hb0B := hb2.trans (hbB.mono hb2.size)
 clear ho2 hbB
 go_wp2_with (first | (at_builtin; refine hold ?_) | (at_make; refine hold ?_))
 (with_reducible refine unhold ?_)
 refine wpList_apd rfl _ _ _ rfl E8 w.heap.size _ bl _ (Bs b) rfl hoB _ 1 _ [.int .u8 1] rfl rfl (fun _ => ⟨_, _, rfl, hnew⟩) (by simp [Value.oneCell']) (bl + 1) rfl (Bs (b ++ [byteN 1])) (bs_byte (m := 1) (by omega)) (by omega) (by omega) hb0B.size ?_
 intro A3 c3 w3 ho3 hg3 _
 have hk3 : Blk w3 w.heap.size 38 _ := Blk.keeps hkB (by decide) (hoB.apd_keeps hg3)
 have hb3 := hb0B.grown hg3 hb0B.size hoB.row_ge
 clear hoB hkB hb0B hg3 hnew hk2 hb2 k0
 have l0 := hk3.cell 0
 have l1 := hk3.cell 1
 have l2 := hk3.cell 2
 simp only [List.getElem?_cons_zero, List.getElem?_cons_succ] at l0 l1 l2
 have hz3 := hb3.size
 have hci := rint_any (b ++ [byteN 1]) (bl + 1) c3 1 A3 w3 (by rw [List.length_append, Hb.out]; rfl) ho3.rd (by omega) (by omega)
 rw [show bl + 1 + (numB (zigN 1)).length = bl + (1 + (numB (zigN 1)).length) from by omega, show (b ++ [byteN 1]) ++ numB (zigN 1) = b ++ (byteN 1 :: numB (zigN 1)) from by simp] at hci
 have Hci := Lib.hid hci
 clear hci
 generalize hL : (numB (zigN 1)).length = L at Hci
 have HL := Lib.hid hL
 clear hL hk3
 go_wp2_with fail
 refine Hci.out.mono ?_
 rintro e w4 ⟨A4, c4, rfl, ho4, hb4⟩
 go_wp2_with fail
 go_ret
 rw [HL.out]
 exact ⟨_, _, rfl, Own.base ho4 hz3, hb3.trans (hb4.mono hz3)⟩
set_option maxHeartbeats 4000000 in
set_option maxRecDepth 100000 in
theorem rput_int (b : List UInt8) (bl bc : Nat) (n : Int) (hn : -9223372036854775808 ≤ n ∧ n ≤ 9223372036854775807) (A : Option Addr) (w : World) (hb : b.length = bl) (hr : Rd w A (Bs b)) (hbl : bl ≤ 100000) :
  Calls Tryz.prog 67 #[.slice A bl bc, .agg #[.int .u8 2, .int .i64 n, .string (St8 [])]] w fun e w' => ∃ A' c', e = .returned (.slice A' (bl + (1 + (numB (zigN n)).length)) c') ∧ Own w' w.heap.size 5 1 A' (bl + (1 + (numB (zigN n)).length)) c' (Bs (b ++ (byteN 2 :: numB (zigN n)))) ∧ Below w.heap.size w w' := by
 have Hb := Lib.hid hb
 have hbW : Below w.heap.size w (w.alloc (.cells #[.int .u8 2, .int .i64 n, .string (St8 [])] 38)) := (Below.refl _ _).alloc (Nat.le_refl _) _
 have hkW := Blk.new w 38 #[.int .u8 2, .int .i64 n, .string (St8 [])]
 have hrW := hr.below hbW
 have hri := Lib.hid (right_any ⟨2, n, []⟩ (w.alloc (.cells #[.int .u8 2, .int .i64 n, .string (St8 [])] 38)))
 have hrv : rightV ⟨2, n, []⟩ = true := by simp [rightV]
 rw [hrv] at hri
 unfold Va.agg at hri
 clear hb hr hrv
 go_enter Tryz.func67, Tryz.ntmps67
 go_wp2_with fail
 refine hri.out.mono ?_
 rintro e w1 ⟨rfl, hb1⟩
 have hk1 := hkW.below hb1
 have hr1 := hrW.below hb1
 have hb01 := hbW.trans (hb1.mono hbW.size)
 have hz1 := hb01.size
 clear hkW hrW hb1 hbW hri
 have ho1 : Own (w1.alloc (.cells #[] 5)) w.heap.size 5 1 (some ⟨w1.heap.size, 0, none⟩) 0 0 [] := World.ownsRow_made w1 #[] 0 hz1 (by unfold maxLen; omega) rfl
 have hbA : Below w1.heap.size w1 (w1.alloc (.cells #[] 5)) := (Below.refl _ _).alloc (Nat.le_refl _) _
 have hkA := hk1.below hbA
 have hb0A := hb01.trans (hbA.mono hz1)
 go_wp2_with (first | (at_builtin; refine hold ?_) | (at_make; refine hold ?_))
 (with_reducible refine unhold ?_)
 refine wpList_apd rfl _ _ _ rfl E8 w.heap.size _ 0 _ [] rfl ho1 _ bl _ (Bs b) rfl (by rw [List.length_map, Hb.out, Nat.mul_one]) (hr1.below hbA) (Bs_one b) bl (Nat.zero_add _) (Bs b) rfl (by omega) (by omega) hb0A.size ?_
 intro A2 c2 w2 ho2 hg2 _
 have hk2 : Blk w2 w.heap.size 38 _ := Blk.keeps hkA (by decide) (ho1.apd_keeps hg2)
 have hb2 := hb0A.grown hg2 hb0A.size ho1.row_ge
 have k0 := hk2.cell 0
 simp only [List.getElem?_cons_zero] at k0
 clear ho1 hbA hkA hb0A hg2 hk1 hr1 hb01
 have hbB : Below w2.heap.size w2 (w2.alloc (.cells #[.int .u8 2] 5)) := (Below.refl _ _).alloc (Nat.le_refl _) _
 have hnew := (Blk.new w2 5 #[.int .u8 2]).range
 have hoB := Own.below ho2 hbB
 have hkB := hk2.below hbB
 have hb0B := hb2.trans (hbB.mono hb2.size)
 clear ho2 hbB
 go_wp2_with (first | (at_builtin; refine hold ?_) | (at_make; refine hold ?_))
 (with_reducible refine unhold ?_)
 refine wpList_apd rfl _ _ _ rfl E8 w.heap.size _ bl _ (Bs b) rfl hoB _ 1 _ [.int .u8 2] rfl rfl (fun _ => ⟨_, _, rfl, hnew⟩) (by simp [Value.oneCell']) (bl + 1) rfl (Bs (b ++ [byteN 2])) (bs_byte (m := 2) (by omega)) (by omega) (by omega) hb0B.size ?_
 intro A3 c3 w3 ho3 hg3 _
 have hk3 : Blk w3 w.heap.size 38 _ := Blk.keeps hkB (by decide) (hoB.apd_keeps hg3)
 have hb3 := hb0B.grown hg3 hb0B.size hoB.row_ge
 clear hoB hkB hb0B hg3 hnew hk2 hb2 k0
 have l0 := hk3.cell 0
 have l1 := hk3.cell 1
 have l2 := hk3.cell 2
 simp only [List.getElem?_cons_zero, List.getElem?_cons_succ] at l0 l1 l2
 have hz3 := hb3.size
 have hci := rint_any (b ++ [byteN 2]) (bl + 1) c3 n A3 w3 (by rw [List.length_append, Hb.out]; rfl) ho3.rd (by omega) hn
 rw [show bl + 1 + (numB (zigN n)).length = bl + (1 + (numB (zigN n)).length) from by omega, show (b ++ [byteN 2]) ++ numB (zigN n) = b ++ (byteN 2 :: numB (zigN n)) from by simp] at hci
 have Hci := Lib.hid hci
 clear hci
 generalize hL : (numB (zigN n)).length = L at Hci
 have HL := Lib.hid hL
 clear hL hk3
 go_wp2_with fail
 refine Hci.out.mono ?_
 rintro e w4 ⟨A4, c4, rfl, ho4, hb4⟩
 go_wp2_with fail
 go_ret
 rw [HL.out]
 exact ⟨_, _, rfl, Own.base ho4 hz3, hb3.trans (hb4.mono hz3)⟩
set_option maxHeartbeats 4000000 in
set_option maxRecDepth 100000 in
theorem rput_txt (b : List UInt8) (bl bc : Nat) (s : List UInt8) (k : Nat) (hl : s.length ≤ 1024) (hs : s.length = k) (A : Option Addr) (w : World) (hb : b.length = bl) (hr : Rd w A (Bs b)) (hbl : bl ≤ 100000) :
  Calls Tryz.prog 67 #[.slice A bl bc, .agg #[.int .u8 3, .int .i64 0, .string (St8 s)]] w fun e w' => ∃ A' c', e = .returned (.slice A' (bl + (1 + ((numB k).length + k))) c') ∧ Own w' w.heap.size 5 1 A' (bl + (1 + ((numB k).length + k))) c' (Bs (b ++ (byteN 3 :: (numB k ++ s)))) ∧ Below w.heap.size w w' := by
 have Hb := Lib.hid hb
 have hbW : Below w.heap.size w (w.alloc (.cells #[.int .u8 3, .int .i64 0, .string (St8 s)] 38)) := (Below.refl _ _).alloc (Nat.le_refl _) _
 have hkW := Blk.new w 38 #[.int .u8 3, .int .i64 0, .string (St8 s)]
 have hrW := hr.below hbW
 have hri := Lib.hid (right_any ⟨3, 0, s⟩ (w.alloc (.cells #[.int .u8 3, .int .i64 0, .string (St8 s)] 38)))
 have hrv : rightV ⟨3, 0, s⟩ = true := by unfold rightV; simp [hl]
 rw [hrv] at hri
 unfold Va.agg at hri
 clear hb hr hrv
 go_enter Tryz.func67, Tryz.ntmps67
 go_wp2_with fail
 refine hri.out.mono ?_
 rintro e w1 ⟨rfl, hb1⟩
 have hk1 := hkW.below hb1
 have hr1 := hrW.below hb1
 have hb01 := hbW.trans (hb1.mono hbW.size)
 have hz1 := hb01.size
 clear hkW hrW hb1 hbW hri
 have ho1 : Own (w1.alloc (.cells #[] 5)) w.heap.size 5 1 (some ⟨w1.heap.size, 0, none⟩) 0 0 [] := World.ownsRow_made w1 #[] 0 hz1 (by unfold maxLen; omega) rfl
 have hbA : Below w1.heap.size w1 (w1.alloc (.cells #[] 5)) := (Below.refl _ _).alloc (Nat.le_refl _) _
 have hkA := hk1.below hbA
 have hb0A := hb01.trans (hbA.mono hz1)
 go_wp2_with (first | (at_builtin; refine hold ?_) | (at_make; refine hold ?_))
 (with_reducible refine unhold ?_)
 refine wpList_apd rfl _ _ _ rfl E8 w.heap.size _ 0 _ [] rfl ho1 _ bl _ (Bs b) rfl (by rw [List.length_map, Hb.out, Nat.mul_one]) (hr1.below hbA) (Bs_one b) bl (Nat.zero_add _) (Bs b) rfl (by omega) (by omega) hb0A.size ?_
 intro A2 c2 w2 ho2 hg2 _
 have hk2 : Blk w2 w.heap.size 38 _ := Blk.keeps hkA (by decide) (ho1.apd_keeps hg2)
 have hb2 := hb0A.grown hg2 hb0A.size ho1.row_ge
 have k0 := hk2.cell 0
 simp only [List.getElem?_cons_zero] at k0
 clear ho1 hbA hkA hb0A hg2 hk1 hr1 hb01
 have hbB : Below w2.heap.size w2 (w2.alloc (.cells #[.int .u8 3] 5)) := (Below.refl _ _).alloc (Nat.le_refl _) _
 have hnew := (Blk.new w2 5 #[.int .u8 3]).range
 have hoB := Own.below ho2 hbB
 have hkB := hk2.below hbB
 have hb0B := hb2.trans (hbB.mono hb2.size)
 clear ho2 hbB
 go_wp2_with (first | (at_builtin; refine hold ?_) | (at_make; refine hold ?_))
 (with_reducible refine unhold ?_)
 refine wpList_apd rfl _ _ _ rfl E8 w.heap.size _ bl _ (Bs b) rfl hoB _ 1 _ [.int .u8 3] rfl rfl (fun _ => ⟨_, _, rfl, hnew⟩) (by simp [Value.oneCell']) (bl + 1) rfl (Bs (b ++ [byteN 3])) (bs_byte (m := 3) (by omega)) (by omega) (by omega) hb0B.size ?_
 intro A3 c3 w3 ho3 hg3 _
 have hk3 : Blk w3 w.heap.size 38 _ := Blk.keeps hkB (by decide) (hoB.apd_keeps hg3)
 have hb3 := hb0B.grown hg3 hb0B.size hoB.row_ge
 clear hoB hkB hb0B hg3 hnew hk2 hb2 k0
 have l0 := hk3.cell 0
 have l1 := hk3.cell 1
 have l2 := hk3.cell 2
 simp only [List.getElem?_cons_zero, List.getElem?_cons_succ] at l0 l1 l2
 have hz3 := hb3.size
 have hct := fun w' (h : Below w3.heap.size w3 w') => rtext_any (b ++ [byteN 3]) s (bl + 1) c3 k A3 w' (by rw [List.length_append, Hb.out]; rfl) hs (ho3.rd.below h) (by omega) (by omega)
 rw [show bl + 1 + (numB k).length + k = bl + (1 + ((numB k).length + k)) from by omega, show (b ++ [byteN 3]) ++ (numB k ++ s) = b ++ (byteN 3 :: (numB k ++ s)) from by simp] at hct
 have Hct := Lib.hid hct
 have Hs := Lib.hid hs
 clear hct
 generalize hL : (numB k).length = L at Hct
 have HL := Lib.hid hL
 clear hL hk3 hs
 go_wp2_with fail
 refine (Hct.out w3 (Below.refl _ _)).mono ?_
 rintro e w6 ⟨A6, c6, rfl, ho6, hb6⟩
 go_wp2_with fail
 go_ret
 rw [HL.out]
 exact ⟨_, _, rfl, Own.base ho6 hz3, hb3.trans (hb6.mono hz3)⟩
set_option maxHeartbeats 4000000 in
set_option maxRecDepth 100000 in
theorem cput_nil (b : List UInt8) (bl bc : Nat) (A : Option Addr) (w : World) (hb : b.length = bl) (hr : Rd w A (Bs b)) (hbl : bl ≤ 100000) :
  Calls Tryz.prog 130 #[.slice A bl bc, .agg #[.int .u8 0, .int .i64 0, .string (St8 [])]] w fun e w' => ∃ A' c', e = .returned (.slice A' (bl + 1) c') ∧ Own w' w.heap.size 5 1 A' (bl + 1) c' (Bs (b ++ [byteN 0])) ∧ Below w.heap.size w w' := by
 have Hb := Lib.hid hb
 have hbW : Below w.heap.size w (w.alloc (.cells #[.int .u8 0, .int .i64 0, .string (St8 [])] 38)) := (Below.refl _ _).alloc (Nat.le_refl _) _
 have hkW := Blk.new w 38 #[.int .u8 0, .int .i64 0, .string (St8 [])]
 have hrW := hr.below hbW
 have hri := Lib.hid (cright_nil (w.alloc (.cells #[.int .u8 0, .int .i64 0, .string (St8 [])] 38)))
 clear hb hr
 go_enter Tryz.func130, Tryz.ntmps130
 go_wp2_with fail
 refine hri.out.mono ?_
 rintro e w1 ⟨rfl, hb1⟩
 have hk1 := hkW.below hb1
 have hr1 := hrW.below hb1
 have hb01 := hbW.trans (hb1.mono hbW.size)
 have hz1 := hb01.size
 clear hkW hrW hb1 hbW hri
 have k0 := hk1.cell 0
 simp only [List.getElem?_cons_zero] at k0
 have k0d : w1.drew.cell? ⟨w.heap.size, 0, none⟩ = some (.int .u8 0) := k0
 have hr1d : Hid (Rd w1.drew A (Bs b)) := hr1.below (Below.refl _ _).drew
 have hb01d : Hid (Below w.heap.size w w1.drew) := hb01.drew
 have hk1d : Hid (Blk w1.drew w.heap.size 38 [.int .u8 0, .int .i64 0, .string (St8 [])]) := hk1
 have hbX : Below w1.drew.heap.size w1.drew (w1.drew.alloc (.cells #[.int .u8 0] 5)) := (Below.refl _ _).alloc (Nat.le_refl _) _
 have hrX := Lib.hid (hr1d.out.below hbX)
 have hb0X := Lib.hid (hb01d.out.trans (hbX.mono hb01d.out.size))
 have hkX := Lib.hid (hk1d.out.below hbX)
 have hnX := Lib.hid (Blk.new w1.drew 5 #[.int .u8 0])
 have k0X := hkX.out.cell 0
 simp only [List.getElem?_cons_zero] at k0X
 have hnil0 : Hid (∀ g : Nat, (Value.slice none 0 0).ownBlock = some g → w.heap.size ≤ g) := Lib.hid (by intro g hg; cases hg)
 have hnil1 : Hid (∀ (u : World) (g : Nat), (Value.slice none 0 0).ownBlock = some g → u.heap.size ≤ g) := Lib.hid (by intro u g hg; cases hg)
 have tok1 : True := trivial
 have hzX := hb0X.out.size
 clear hk1 hr1 hb01 k0 hbX
 go_wp2_with fail
 go_region_held3 (fun w' => w'.cell? ⟨w.heap.size, 0, none⟩ = some (.int .u8 0))
  (first | assumption | exact k02 | exact k0B | exact k03 | exact k0X | go_cell)
  (first | (have _t := tok1; refine step_apd rfl (.const (.slice none 0 0)) (.tmp 10) 36 rfl E8 w.heap.size none 0 0 [] rfl (Own.nil _ w.heap.size 5 1) A bl bc (Bs b) (by simp [Act.eval, Act.put]) (by rw [List.length_map, Hb.out, Nat.mul_one]) hr1d.out (Bs_one b) bl (Nat.zero_add _) (Bs b) rfl (by omega) (by omega) hz1 ?_; intro A2 c2 w2 ho2 hg2 _; have hk2 : Blk w2 w.heap.size 38 _ := hk1d.out.below ((Below.refl _ _).grown hg2 (Nat.le_refl _) (hnil1.out _)); have k02 : w2.cell? ⟨w.heap.size, 0, none⟩ = some (.int .u8 0) := hk2.cell 0; have hb2 := Lib.hid (hb01d.out.grown hg2 hb01d.out.size hnil0.out); have hbB : Below w2.heap.size w2 (w2.alloc (.cells #[.int .u8 0] 5)) := (Below.refl _ _).alloc (Nat.le_refl _) _; have hnew := Lib.hid (Blk.new w2 5 #[.int .u8 0]).range; have hoB := Lib.hid (Own.below ho2 hbB); have hkB := Lib.hid (hk2.below hbB); have k0B : (w2.alloc (.cells #[.int .u8 0] 5)).cell? ⟨w.heap.size, 0, none⟩ = some (.int .u8 0) := hkB.out.cell 0; have hb0B := Lib.hid (hb2.out.trans (hbB.mono hb2.out.size)); clear tok1 _t ho2 hg2 hk2 hbB)
         | (have _t := tok1; refine step_apd rfl (.const (.slice none 0 0)) (.tmp 10) 36 rfl E8 w.heap.size none 0 0 [] rfl (Own.nil _ w.heap.size 5 1) A bl bc (Bs b) (by simp [Act.eval, Act.put]) (by rw [List.length_map, Hb.out, Nat.mul_one]) hrX.out (Bs_one b) bl (Nat.zero_add _) (Bs b) rfl (by omega) (by omega) hzX ?_; intro A2 c2 w2 ho2 hg2 _; have hbx2 := (Below.refl _ _).grown hg2 (Nat.le_refl _) (hnil1.out _); have hkB := Lib.hid (hkX.out.below hbx2); have k02 : w2.cell? ⟨w.heap.size, 0, none⟩ = some (.int .u8 0) := hkB.out.cell 0; have hb0B := Lib.hid (hb0X.out.grown hg2 hb0X.out.size hnil0.out); have hnew := Lib.hid (hnX.out.below hbx2).range; have hoB := Lib.hid ho2; have tok2 : True := trivial; clear tok1 _t ho2 hg2 hbx2)
         | (have _t := tok2; refine step_apd rfl (.tmp 11) (.tmp 14) 36 rfl E8 w.heap.size A2 bl c2 (Bs b) (by simp [Act.eval, Act.put]) hoB.out (some ⟨w1.drew.heap.size, 0, none⟩) 1 1 [.int .u8 0] (by simp [Act.eval, Act.put]) rfl (fun _ => ⟨_, _, rfl, hnew.out⟩) (by simp [Value.oneCell']) (bl + 1) rfl (Bs (b ++ [byteN 0])) (bs_byte (m := 0) (by omega)) (by omega) (by omega) hb0B.out.size ?_; intro A3 c3 w3 ho3 hg3 _; have hk3 : Blk w3 w.heap.size 38 _ := Blk.keeps hkB.out (by decide) (hoB.out.apd_keeps hg3); have k03 : w3.cell? ⟨w.heap.size, 0, none⟩ = some (.int .u8 0) := hk3.cell 0; have hb3 := hb0B.out.grown hg3 hb0B.out.size hoB.out.row_ge; clear _t tok2)
         | (refine step_apd rfl (.tmp 11) (.tmp 14) 36 rfl E8 w.heap.size A2 bl c2 (Bs b) (by simp [Act.eval, Act.put]) hoB.out (some ⟨w2.heap.size, 0, none⟩) 1 1 [.int .u8 0] (by simp [Act.eval, Act.put]) rfl (fun _ => ⟨_, _, rfl, hnew.out⟩) (by simp [Value.oneCell']) (bl + 1) rfl (Bs (b ++ [byteN 0])) (bs_byte (m := 0) (by omega)) (by omega) (by omega) hb0B.out.size ?_; intro A3 c3 w3 ho3 hg3 _; have hk3 : Blk w3 w.heap.size 38 _ := Blk.keeps hkB.out (by decide) (hoB.out.apd_keeps hg3); have k03 : w3.cell? ⟨w.heap.size, 0, none⟩ = some (.int .u8 0) := hk3.cell 0; have hb3 := hb0B.out.grown hg3 hb0B.out.size hoB.out.row_ge))
 all_goals
  have l0 := hk3.cell 0
  have l1 := hk3.cell 1
  have l2 := hk3.cell 2
  simp only [List.getElem?_cons_zero, List.getElem?_cons_succ] at l0 l1 l2
  have hz3 := hb3.size
  clear hk3
  go_wp2_with fail
  go_ret
  exact ⟨_, _, rfl, (show Bs (b ++ [byteN 0]) = List.map B b ++ [B (byteN 0)] from List.map_append ..) ▸ ho3, hb3⟩
set_option maxHeartbeats 4000000 in
set_option maxRecDepth 100000 in
theorem cput_no (b : List UInt8) (bl bc : Nat) (A : Option Addr) (w : World) (hb : b.length = bl) (hr : Rd w A (Bs b)) (hbl : bl ≤ 100000) :
  Calls Tryz.prog 130 #[.slice A bl bc, .agg #[.int .u8 1, .int .i64 0, .string (St8 [])]] w fun e w' => ∃ A' c', e = .returned (.slice A' (bl + (1 + (numB (zigN 0)).length)) c') ∧ Own w' w.heap.size 5 1 A' (bl + (1 + (numB (zigN 0)).length)) c' (Bs (b ++ (byteN 1 :: numB (zigN 0)))) ∧ Below w.heap.size w w' := by
 have Hb := Lib.hid hb
 have hbW : Below w.heap.size w (w.alloc (.cells #[.int .u8 1, .int .i64 0, .string (St8 [])] 38)) := (Below.refl _ _).alloc (Nat.le_refl _) _
 have hkW := Blk.new w 38 #[.int .u8 1, .int .i64 0, .string (St8 [])]
 have hrW := hr.below hbW
 have hri := Lib.hid (cright_no (w.alloc (.cells #[.int .u8 1, .int .i64 0, .string (St8 [])] 38)))
 clear hb hr
 go_enter Tryz.func130, Tryz.ntmps130
 go_wp2_with fail
 refine hri.out.mono ?_
 rintro e w1 ⟨rfl, hb1⟩
 have hk1 := hkW.below hb1
 have hr1 := hrW.below hb1
 have hb01 := hbW.trans (hb1.mono hbW.size)
 have hz1 := hb01.size
 clear hkW hrW hb1 hbW hri
 have k0 := hk1.cell 0
 simp only [List.getElem?_cons_zero] at k0
 have k0d : w1.drew.cell? ⟨w.heap.size, 0, none⟩ = some (.int .u8 1) := k0
 have hr1d : Hid (Rd w1.drew A (Bs b)) := hr1.below (Below.refl _ _).drew
 have hb01d : Hid (Below w.heap.size w w1.drew) := hb01.drew
 have hk1d : Hid (Blk w1.drew w.heap.size 38 [.int .u8 1, .int .i64 0, .string (St8 [])]) := hk1
 have hbX : Below w1.drew.heap.size w1.drew (w1.drew.alloc (.cells #[.int .u8 1] 5)) := (Below.refl _ _).alloc (Nat.le_refl _) _
 have hrX := Lib.hid (hr1d.out.below hbX)
 have hb0X := Lib.hid (hb01d.out.trans (hbX.mono hb01d.out.size))
 have hkX := Lib.hid (hk1d.out.below hbX)
 have hnX := Lib.hid (Blk.new w1.drew 5 #[.int .u8 1])
 have k0X := hkX.out.cell 0
 simp only [List.getElem?_cons_zero] at k0X
 have hnil0 : Hid (∀ g : Nat, (Value.slice none 0 0).ownBlock = some g → w.heap.size ≤ g) := Lib.hid (by intro g hg; cases hg)
 have hnil1 : Hid (∀ (u : World) (g : Nat), (Value.slice none 0 0).ownBlock = some g → u.heap.size ≤ g) := Lib.hid (by intro u g hg; cases hg)
 have tok1 : True := trivial
 have hzX := hb0X.out.size
 clear hk1 hr1 hb01 k0 hbX
 go_wp2_with fail
 go_region_held3 (fun w' => w'.cell? ⟨w.heap.size, 0, none⟩ = some (.int .u8 1))
  (first | assumption | exact k02 | exact k0B | exact k03 | exact k0X | go_cell)
  (first | (have _t := tok1; refine step_apd rfl (.const (.slice none 0 0)) (.tmp 10) 36 rfl E8 w.heap.size none 0 0 [] rfl (Own.nil _ w.heap.size 5 1) A bl bc (Bs b) (by simp [Act.eval, Act.put]) (by rw [List.length_map, Hb.out, Nat.mul_one]) hr1d.out (Bs_one b) bl (Nat.zero_add _) (Bs b) rfl (by omega) (by omega) hz1 ?_; intro A2 c2 w2 ho2 hg2 _; have hk2 : Blk w2 w.heap.size 38 _ := hk1d.out.below ((Below.refl _ _).grown hg2 (Nat.le_refl _) (hnil1.out _)); have k02 : w2.cell? ⟨w.heap.size, 0, none⟩ = some (.int .u8 1) := hk2.cell 0; have hb2 := Lib.hid (hb01d.out.grown hg2 hb01d.out.size hnil0.out); have hbB : Below w2.heap.size w2 (w2.alloc (.cells #[.int .u8 1] 5)) := (Below.refl _ _).alloc (Nat.le_refl _) _; have hnew := Lib.hid (Blk.new w2 5 #[.int .u8 1]).range; have hoB := Lib.hid (Own.below ho2 hbB); have hkB := Lib.hid (hk2.below hbB); have k0B : (w2.alloc (.cells #[.int .u8 1] 5)).cell? ⟨w.heap.size, 0, none⟩ = some (.int .u8 1) := hkB.out.cell 0; have hb0B := Lib.hid (hb2.out.trans (hbB.mono hb2.out.size)); clear tok1 _t ho2 hg2 hk2 hbB)
         | (have _t := tok1; refine step_apd rfl (.const (.slice none 0 0)) (.tmp 10) 36 rfl E8 w.heap.size none 0 0 [] rfl (Own.nil _ w.heap.size 5 1) A bl bc (Bs b) (by simp [Act.eval, Act.put]) (by rw [List.length_map, Hb.out, Nat.mul_one]) hrX.out (Bs_one b) bl (Nat.zero_add _) (Bs b) rfl (by omega) (by omega) hzX ?_; intro A2 c2 w2 ho2 hg2 _; have hbx2 := (Below.refl _ _).grown hg2 (Nat.le_refl _) (hnil1.out _); have hkB := Lib.hid (hkX.out.below hbx2); have k02 : w2.cell? ⟨w.heap.size, 0, none⟩ = some (.int .u8 1) := hkB.out.cell 0; have hb0B := Lib.hid (hb0X.out.grown hg2 hb0X.out.size hnil0.out); have hnew := Lib.hid (hnX.out.below hbx2).range; have hoB := Lib.hid ho2; have tok2 : True := trivial; clear tok1 _t ho2 hg2 hbx2)
         | (have _t := tok2; refine step_apd rfl (.tmp 11) (.tmp 14) 36 rfl E8 w.heap.size A2 bl c2 (Bs b) (by simp [Act.eval, Act.put]) hoB.out (some ⟨w1.drew.heap.size, 0, none⟩) 1 1 [.int .u8 1] (by simp [Act.eval, Act.put]) rfl (fun _ => ⟨_, _, rfl, hnew.out⟩) (by simp [Value.oneCell']) (bl + 1) rfl (Bs (b ++ [byteN 1])) (bs_byte (m := 1) (by omega)) (by omega) (by omega) hb0B.out.size ?_; intro A3 c3 w3 ho3 hg3 _; have hk3 : Blk w3 w.heap.size 38 _ := Blk.keeps hkB.out (by decide) (hoB.out.apd_keeps hg3); have k03 : w3.cell? ⟨w.heap.size, 0, none⟩ = some (.int .u8 1) := hk3.cell 0; have hb3 := hb0B.out.grown hg3 hb0B.out.size hoB.out.row_ge; clear _t tok2)
         | (refine step_apd rfl (.tmp 11) (.tmp 14) 36 rfl E8 w.heap.size A2 bl c2 (Bs b) (by simp [Act.eval, Act.put]) hoB.out (some ⟨w2.heap.size, 0, none⟩) 1 1 [.int .u8 1] (by simp [Act.eval, Act.put]) rfl (fun _ => ⟨_, _, rfl, hnew.out⟩) (by simp [Value.oneCell']) (bl + 1) rfl (Bs (b ++ [byteN 1])) (bs_byte (m := 1) (by omega)) (by omega) (by omega) hb0B.out.size ?_; intro A3 c3 w3 ho3 hg3 _; have hk3 : Blk w3 w.heap.size 38 _ := Blk.keeps hkB.out (by decide) (hoB.out.apd_keeps hg3); have k03 : w3.cell? ⟨w.heap.size, 0, none⟩ = some (.int .u8 1) := hk3.cell 0; have hb3 := hb0B.out.grown hg3 hb0B.out.size hoB.out.row_ge))
 all_goals
  have l0 := hk3.cell 0
  have l1 := hk3.cell 1
  have l2 := hk3.cell 2
  simp only [List.getElem?_cons_zero, List.getElem?_cons_succ] at l0 l1 l2
  have hz3 := hb3.size
  have hci := int_any (b ++ [byteN 1]) (bl + 1) c3 0 A3 w3 (by rw [List.length_append, Hb.out]; rfl) ho3.rd (by omega) (by omega)
  rw [show bl + 1 + (numB (zigN 0)).length = bl + (1 + (numB (zigN 0)).length) from by omega, show (b ++ [byteN 1]) ++ numB (zigN 0) = b ++ (byteN 1 :: numB (zigN 0)) from by simp] at hci
  have Hci := Lib.hid hci
  clear hci
  generalize hL : (numB (zigN 0)).length = L at Hci
  have HL := Lib.hid hL
  clear hL hk3
  go_wp2_with fail
  refine Hci.out.mono ?_
  rintro e w4 ⟨A4, c4, rfl, ho4, hb4⟩
  go_wp2_with fail
  go_ret
  rw [HL.out]
  exact ⟨_, _, rfl, Own.base ho4 hz3, hb3.trans (hb4.mono hz3)⟩
set_option maxHeartbeats 4000000 in
set_option maxRecDepth 100000 in
theorem cput_yes (b : List UInt8) (bl bc : Nat) (A : Option Addr) (w : World) (hb : b.length = bl) (hr : Rd w A (Bs b)) (hbl : bl ≤ 100000) :
  Calls Tryz.prog 130 #[.slice A bl bc, .agg #[.int .u8 1, .int .i64 1, .string (St8 [])]] w fun e w' => ∃ A' c', e = .returned (.slice A' (bl + (1 + (numB (zigN 1)).length)) c') ∧ Own w' w.heap.size 5 1 A' (bl + (1 + (numB (zigN 1)).length)) c' (Bs (b ++ (byteN 1 :: numB (zigN 1)))) ∧ Below w.heap.size w w' := by
 have Hb := Lib.hid hb
 have hbW : Below w.heap.size w (w.alloc (.cells #[.int .u8 1, .int .i64 1, .string (St8 [])] 38)) := (Below.refl _ _).alloc (Nat.le_refl _) _
 have hkW := Blk.new w 38 #[.int .u8 1, .int .i64 1, .string (St8 [])]
 have hrW := hr.below hbW
 have hri := Lib.hid (cright_yes (w.alloc (.cells #[.int .u8 1, .int .i64 1, .string (St8 [])] 38)))
 clear hb hr
 go_enter Tryz.func130, Tryz.ntmps130
 go_wp2_with fail
 refine hri.out.mono ?_
 rintro e w1 ⟨rfl, hb1⟩
 have hk1 := hkW.below hb1
 have hr1 := hrW.below hb1
 have hb01 := hbW.trans (hb1.mono hbW.size)
 have hz1 := hb01.size
 clear hkW hrW hb1 hbW hri
 have k0 := hk1.cell 0
 simp only [List.getElem?_cons_zero] at k0
 have k0d : w1.drew.cell? ⟨w.heap.size, 0, none⟩ = some (.int .u8 1) := k0
 have hr1d : Hid (Rd w1.drew A (Bs b)) := hr1.below (Below.refl _ _).drew
 have hb01d : Hid (Below w.heap.size w w1.drew) := hb01.drew
 have hk1d : Hid (Blk w1.drew w.heap.size 38 [.int .u8 1, .int .i64 1, .string (St8 [])]) := hk1
 have hbX : Below w1.drew.heap.size w1.drew (w1.drew.alloc (.cells #[.int .u8 1] 5)) := (Below.refl _ _).alloc (Nat.le_refl _) _
 have hrX := Lib.hid (hr1d.out.below hbX)
 have hb0X := Lib.hid (hb01d.out.trans (hbX.mono hb01d.out.size))
 have hkX := Lib.hid (hk1d.out.below hbX)
 have hnX := Lib.hid (Blk.new w1.drew 5 #[.int .u8 1])
 have k0X := hkX.out.cell 0
 simp only [List.getElem?_cons_zero] at k0X
 have hnil0 : Hid (∀ g : Nat, (Value.slice none 0 0).ownBlock = some g → w.heap.size ≤ g) := Lib.hid (by intro g hg; cases hg)
 have hnil1 : Hid (∀ (u : World) (g : Nat), (Value.slice none 0 0).ownBlock = some g → u.heap.size ≤ g) := Lib.hid (by intro u g hg; cases hg)
 have tok1 : True := trivial
 have hzX := hb0X.out.size
 clear hk1 hr1 hb01 k0 hbX
 go_wp2_with fail
 go_region_held3 (fun w' => w'.cell? ⟨w.heap.size, 0, none⟩ = some (.int .u8 1))
  (first | assumption | exact k02 | exact k0B | exact k03 | exact k0X | go_cell)
  (first | (have _t := tok1; refine step_apd rfl (.const (.slice none 0 0)) (.tmp 10) 36 rfl E8 w.heap.size none 0 0 [] rfl (Own.nil _ w.heap.size 5 1) A bl bc (Bs b) (by simp [Act.eval, Act.put]) (by rw [List.length_map, Hb.out, Nat.mul_one]) hr1d.out (Bs_one b) bl (Nat.zero_add _) (Bs b) rfl (by omega) (by omega) hz1 ?_; intro A2 c2 w2 ho2 hg2 _; have hk2 : Blk w2 w.heap.size 38 _ := hk1d.out.below ((Below.refl _ _).grown hg2 (Nat.le_refl _) (hnil1.out _)); have k02 : w2.cell? ⟨w.heap.size, 0, none⟩ = some (.int .u8 1) := hk2.cell 0; have hb2 := Lib.hid (hb01d.out.grown hg2 hb01d.out.size hnil0.out); have hbB : Below w2.heap.size w2 (w2.alloc (.cells #[.int .u8 1] 5)) := (Below.refl _ _).alloc (Nat.le_refl _) _; have hnew := Lib.hid (Blk.new w2 5 #[.int .u8 1]).range; have hoB := Lib.hid (Own.below ho2 hbB); have hkB := Lib.hid (hk2.below hbB); have k0B : (w2.alloc (.cells #[.int .u8 1] 5)).cell? ⟨w.heap.size, 0, none⟩ = some (.int .u8 1) := hkB.out.cell 0; have hb0B := Lib.hid (hb2.out.trans (hbB.mono hb2.out.size)); clear tok1 _t ho2 hg2 hk2 hbB)
         | (have _t := tok1; refine step_apd rfl (.const (.slice none 0 0)) (.tmp 10) 36 rfl E8 w.heap.size none 0 0 [] rfl (Own.nil _ w.heap.size 5 1) A bl bc (Bs b) (by simp [Act.eval, Act.put]) (by rw [List.length_map, Hb.out, Nat.mul_one]) hrX.out (Bs_one b) bl (Nat.zero_add _) (Bs b) rfl (by omega) (by omega) hzX ?_; intro A2 c2 w2 ho2 hg2 _; have hbx2 := (Below.refl _ _).grown hg2 (Nat.le_refl _) (hnil1.out _); have hkB := Lib.hid (hkX.out.below hbx2); have k02 : w2.cell? ⟨w.heap.size, 0, none⟩ = some (.int .u8 1) := hkB.out.cell 0; have hb0B := Lib.hid (hb0X.out.grown hg2 hb0X.out.size hnil0.out); have hnew := Lib.hid (hnX.out.below hbx2).range; have hoB := Lib.hid ho2; have tok2 : True := trivial; clear tok1 _t ho2 hg2 hbx2)
         | (have _t := tok2; refine step_apd rfl (.tmp 11) (.tmp 14) 36 rfl E8 w.heap.size A2 bl c2 (Bs b) (by simp [Act.eval, Act.put]) hoB.out (some ⟨w1.drew.heap.size, 0, none⟩) 1 1 [.int .u8 1] (by simp [Act.eval, Act.put]) rfl (fun _ => ⟨_, _, rfl, hnew.out⟩) (by simp [Value.oneCell']) (bl + 1) rfl (Bs (b ++ [byteN 1])) (bs_byte (m := 1) (by omega)) (by omega) (by omega) hb0B.out.size ?_; intro A3 c3 w3 ho3 hg3 _; have hk3 : Blk w3 w.heap.size 38 _ := Blk.keeps hkB.out (by decide) (hoB.out.apd_keeps hg3); have k03 : w3.cell? ⟨w.heap.size, 0, none⟩ = some (.int .u8 1) := hk3.cell 0; have hb3 := hb0B.out.grown hg3 hb0B.out.size hoB.out.row_ge; clear _t tok2)
         | (refine step_apd rfl (.tmp 11) (.tmp 14) 36 rfl E8 w.heap.size A2 bl c2 (Bs b) (by simp [Act.eval, Act.put]) hoB.out (some ⟨w2.heap.size, 0, none⟩) 1 1 [.int .u8 1] (by simp [Act.eval, Act.put]) rfl (fun _ => ⟨_, _, rfl, hnew.out⟩) (by simp [Value.oneCell']) (bl + 1) rfl (Bs (b ++ [byteN 1])) (bs_byte (m := 1) (by omega)) (by omega) (by omega) hb0B.out.size ?_; intro A3 c3 w3 ho3 hg3 _; have hk3 : Blk w3 w.heap.size 38 _ := Blk.keeps hkB.out (by decide) (hoB.out.apd_keeps hg3); have k03 : w3.cell? ⟨w.heap.size, 0, none⟩ = some (.int .u8 1) := hk3.cell 0; have hb3 := hb0B.out.grown hg3 hb0B.out.size hoB.out.row_ge))
 all_goals
  have l0 := hk3.cell 0
  have l1 := hk3.cell 1
  have l2 := hk3.cell 2
  simp only [List.getElem?_cons_zero, List.getElem?_cons_succ] at l0 l1 l2
  have hz3 := hb3.size
  have hci := int_any (b ++ [byteN 1]) (bl + 1) c3 1 A3 w3 (by rw [List.length_append, Hb.out]; rfl) ho3.rd (by omega) (by omega)
  rw [show bl + 1 + (numB (zigN 1)).length = bl + (1 + (numB (zigN 1)).length) from by omega, show (b ++ [byteN 1]) ++ numB (zigN 1) = b ++ (byteN 1 :: numB (zigN 1)) from by simp] at hci
  have Hci := Lib.hid hci
  clear hci
  generalize hL : (numB (zigN 1)).length = L at Hci
  have HL := Lib.hid hL
  clear hL hk3
  go_wp2_with fail
  refine Hci.out.mono ?_
  rintro e w4 ⟨A4, c4, rfl, ho4, hb4⟩
  go_wp2_with fail
  go_ret
  rw [HL.out]
  exact ⟨_, _, rfl, Own.base ho4 hz3, hb3.trans (hb4.mono hz3)⟩
set_option maxHeartbeats 4000000 in
set_option maxRecDepth 100000 in
theorem cput_int (b : List UInt8) (bl bc : Nat) (n : Int) (hn : -9223372036854775808 ≤ n ∧ n ≤ 9223372036854775807) (A : Option Addr) (w : World) (hb : b.length = bl) (hr : Rd w A (Bs b)) (hbl : bl ≤ 100000) :
  Calls Tryz.prog 130 #[.slice A bl bc, .agg #[.int .u8 2, .int .i64 n, .string (St8 [])]] w fun e w' => ∃ A' c', e = .returned (.slice A' (bl + (1 + (numB (zigN n)).length)) c') ∧ Own w' w.heap.size 5 1 A' (bl + (1 + (numB (zigN n)).length)) c' (Bs (b ++ (byteN 2 :: numB (zigN n)))) ∧ Below w.heap.size w w' := by
 have Hb := Lib.hid hb
 have hbW : Below w.heap.size w (w.alloc (.cells #[.int .u8 2, .int .i64 n, .string (St8 [])] 38)) := (Below.refl _ _).alloc (Nat.le_refl _) _
 have hkW := Blk.new w 38 #[.int .u8 2, .int .i64 n, .string (St8 [])]
 have hrW := hr.below hbW
 have hri := Lib.hid (cright_int n (w.alloc (.cells #[.int .u8 2, .int .i64 n, .string (St8 [])] 38)))
 clear hb hr
 go_enter Tryz.func130, Tryz.ntmps130
 go_wp2_with fail
 refine hri.out.mono ?_
 rintro e w1 ⟨rfl, hb1⟩
 have hk1 := hkW.below hb1
 have hr1 := hrW.below hb1
 have hb01 := hbW.trans (hb1.mono hbW.size)
 have hz1 := hb01.size
 clear hkW hrW hb1 hbW hri
 have k0 := hk1.cell 0
 simp only [List.getElem?_cons_zero] at k0
 have k0d : w1.drew.cell? ⟨w.heap.size, 0, none⟩ = some (.int .u8 2) := k0
 have hr1d : Hid (Rd w1.drew A (Bs b)) := hr1.below (Below.refl _ _).drew
 have hb01d : Hid (Below w.heap.size w w1.drew) := hb01.drew
 have hk1d : Hid (Blk w1.drew w.heap.size 38 [.int .u8 2, .int .i64 n, .string (St8 [])]) := hk1
 have hbX : Below w1.drew.heap.size w1.drew (w1.drew.alloc (.cells #[.int .u8 2] 5)) := (Below.refl _ _).alloc (Nat.le_refl _) _
 have hrX := Lib.hid (hr1d.out.below hbX)
 have hb0X := Lib.hid (hb01d.out.trans (hbX.mono hb01d.out.size))
 have hkX := Lib.hid (hk1d.out.below hbX)
 have hnX := Lib.hid (Blk.new w1.drew 5 #[.int .u8 2])
 have k0X := hkX.out.cell 0
 simp only [List.getElem?_cons_zero] at k0X
 have hnil0 : Hid (∀ g : Nat, (Value.slice none 0 0).ownBlock = some g → w.heap.size ≤ g) := Lib.hid (by intro g hg; cases hg)
 have hnil1 : Hid (∀ (u : World) (g : Nat), (Value.slice none 0 0).ownBlock = some g → u.heap.size ≤ g) := Lib.hid (by intro u g hg; cases hg)
 have tok1 : True := trivial
 have hzX := hb0X.out.size
 clear hk1 hr1 hb01 k0 hbX
 go_wp2_with fail
 go_region_held3 (fun w' => w'.cell? ⟨w.heap.size, 0, none⟩ = some (.int .u8 2))
  (first | assumption | exact k02 | exact k0B | exact k03 | exact k0X | go_cell)
  (first | (have _t := tok1; refine step_apd rfl (.const (.slice none 0 0)) (.tmp 10) 36 rfl E8 w.heap.size none 0 0 [] rfl (Own.nil _ w.heap.size 5 1) A bl bc (Bs b) (by simp [Act.eval, Act.put]) (by rw [List.length_map, Hb.out, Nat.mul_one]) hr1d.out (Bs_one b) bl (Nat.zero_add _) (Bs b) rfl (by omega) (by omega) hz1 ?_; intro A2 c2 w2 ho2 hg2 _; have hk2 : Blk w2 w.heap.size 38 _ := hk1d.out.below ((Below.refl _ _).grown hg2 (Nat.le_refl _) (hnil1.out _)); have k02 : w2.cell? ⟨w.heap.size, 0, none⟩ = some (.int .u8 2) := hk2.cell 0; have hb2 := Lib.hid (hb01d.out.grown hg2 hb01d.out.size hnil0.out); have hbB : Below w2.heap.size w2 (w2.alloc (.cells #[.int .u8 2] 5)) := (Below.refl _ _).alloc (Nat.le_refl _) _; have hnew := Lib.hid (Blk.new w2 5 #[.int .u8 2]).range; have hoB := Lib.hid (Own.below ho2 hbB); have hkB := Lib.hid (hk2.below hbB); have k0B : (w2.alloc (.cells #[.int .u8 2] 5)).cell? ⟨w.heap.size, 0, none⟩ = some (.int .u8 2) := hkB.out.cell 0; have hb0B := Lib.hid (hb2.out.trans (hbB.mono hb2.out.size)); clear tok1 _t ho2 hg2 hk2 hbB)
         | (have _t := tok1; refine step_apd rfl (.const (.slice none 0 0)) (.tmp 10) 36 rfl E8 w.heap.size none 0 0 [] rfl (Own.nil _ w.heap.size 5 1) A bl bc (Bs b) (by simp [Act.eval, Act.put]) (by rw [List.length_map, Hb.out, Nat.mul_one]) hrX.out (Bs_one b) bl (Nat.zero_add _) (Bs b) rfl (by omega) (by omega) hzX ?_; intro A2 c2 w2 ho2 hg2 _; have hbx2 := (Below.refl _ _).grown hg2 (Nat.le_refl _) (hnil1.out _); have hkB := Lib.hid (hkX.out.below hbx2); have k02 : w2.cell? ⟨w.heap.size, 0, none⟩ = some (.int .u8 2) := hkB.out.cell 0; have hb0B := Lib.hid (hb0X.out.grown hg2 hb0X.out.size hnil0.out); have hnew := Lib.hid (hnX.out.below hbx2).range; have hoB := Lib.hid ho2; have tok2 : True := trivial; clear tok1 _t ho2 hg2 hbx2)
         | (have _t := tok2; refine step_apd rfl (.tmp 11) (.tmp 14) 36 rfl E8 w.heap.size A2 bl c2 (Bs b) (by simp [Act.eval, Act.put]) hoB.out (some ⟨w1.drew.heap.size, 0, none⟩) 1 1 [.int .u8 2] (by simp [Act.eval, Act.put]) rfl (fun _ => ⟨_, _, rfl, hnew.out⟩) (by simp [Value.oneCell']) (bl + 1) rfl (Bs (b ++ [byteN 2])) (bs_byte (m := 2) (by omega)) (by omega) (by omega) hb0B.out.size ?_; intro A3 c3 w3 ho3 hg3 _; have hk3 : Blk w3 w.heap.size 38 _ := Blk.keeps hkB.out (by decide) (hoB.out.apd_keeps hg3); have k03 : w3.cell? ⟨w.heap.size, 0, none⟩ = some (.int .u8 2) := hk3.cell 0; have hb3 := hb0B.out.grown hg3 hb0B.out.size hoB.out.row_ge; clear _t tok2)
         | (refine step_apd rfl (.tmp 11) (.tmp 14) 36 rfl E8 w.heap.size A2 bl c2 (Bs b) (by simp [Act.eval, Act.put]) hoB.out (some ⟨w2.heap.size, 0, none⟩) 1 1 [.int .u8 2] (by simp [Act.eval, Act.put]) rfl (fun _ => ⟨_, _, rfl, hnew.out⟩) (by simp [Value.oneCell']) (bl + 1) rfl (Bs (b ++ [byteN 2])) (bs_byte (m := 2) (by omega)) (by omega) (by omega) hb0B.out.size ?_; intro A3 c3 w3 ho3 hg3 _; have hk3 : Blk w3 w.heap.size 38 _ := Blk.keeps hkB.out (by decide) (hoB.out.apd_keeps hg3); have k03 : w3.cell? ⟨w.heap.size, 0, none⟩ = some (.int .u8 2) := hk3.cell 0; have hb3 := hb0B.out.grown hg3 hb0B.out.size hoB.out.row_ge))
 all_goals
  have l0 := hk3.cell 0
  have l1 := hk3.cell 1
  have l2 := hk3.cell 2
  simp only [List.getElem?_cons_zero, List.getElem?_cons_succ] at l0 l1 l2
  have hz3 := hb3.size
  have hci := int_any (b ++ [byteN 2]) (bl + 1) c3 n A3 w3 (by rw [List.length_append, Hb.out]; rfl) ho3.rd (by omega) hn
  rw [show bl + 1 + (numB (zigN n)).length = bl + (1 + (numB (zigN n)).length) from by omega, show (b ++ [byteN 2]) ++ numB (zigN n) = b ++ (byteN 2 :: numB (zigN n)) from by simp] at hci
  have Hci := Lib.hid hci
  clear hci
  generalize hL : (numB (zigN n)).length = L at Hci
  have HL := Lib.hid hL
  clear hL hk3
  go_wp2_with fail
  refine Hci.out.mono ?_
  rintro e w4 ⟨A4, c4, rfl, ho4, hb4⟩
  go_wp2_with fail
  go_ret
  rw [HL.out]
  exact ⟨_, _, rfl, Own.base ho4 hz3, hb3.trans (hb4.mono hz3)⟩
set_option maxHeartbeats 4000000 in
set_option maxRecDepth 100000 in
theorem cput_txt (b : List UInt8) (bl bc : Nat) (s : List UInt8) (k : Nat) (hl : s.length ≤ 1024) (hs : s.length = k) (A : Option Addr) (w : World) (hb : b.length = bl) (hr : Rd w A (Bs b)) (hbl : bl ≤ 100000) :
  Calls Tryz.prog 130 #[.slice A bl bc, .agg #[.int .u8 3, .int .i64 0, .string (St8 s)]] w fun e w' => ∃ A' c', e = .returned (.slice A' (bl + (1 + ((numB k).length + k))) c') ∧ Own w' w.heap.size 5 1 A' (bl + (1 + ((numB k).length + k))) c' (Bs (b ++ (byteN 3 :: (numB k ++ s)))) ∧ Below w.heap.size w w' := by
 have Hb := Lib.hid hb
 have hbW : Below w.heap.size w (w.alloc (.cells #[.int .u8 3, .int .i64 0, .string (St8 s)] 38)) := (Below.refl _ _).alloc (Nat.le_refl _) _
 have hkW := Blk.new w 38 #[.int .u8 3, .int .i64 0, .string (St8 s)]
 have hrW := hr.below hbW
 have hri := Lib.hid (cright_txt s hl (w.alloc (.cells #[.int .u8 3, .int .i64 0, .string (St8 s)] 38)))
 clear hb hr
 go_enter Tryz.func130, Tryz.ntmps130
 go_wp2_with fail
 refine hri.out.mono ?_
 rintro e w1 ⟨rfl, hb1⟩
 have hk1 := hkW.below hb1
 have hr1 := hrW.below hb1
 have hb01 := hbW.trans (hb1.mono hbW.size)
 have hz1 := hb01.size
 clear hkW hrW hb1 hbW hri
 have k0 := hk1.cell 0
 simp only [List.getElem?_cons_zero] at k0
 have k0d : w1.drew.cell? ⟨w.heap.size, 0, none⟩ = some (.int .u8 3) := k0
 have hr1d : Hid (Rd w1.drew A (Bs b)) := hr1.below (Below.refl _ _).drew
 have hb01d : Hid (Below w.heap.size w w1.drew) := hb01.drew
 have hk1d : Hid (Blk w1.drew w.heap.size 38 [.int .u8 3, .int .i64 0, .string (St8 s)]) := hk1
 have hbX : Below w1.drew.heap.size w1.drew (w1.drew.alloc (.cells #[.int .u8 3] 5)) := (Below.refl _ _).alloc (Nat.le_refl _) _
 have hrX := Lib.hid (hr1d.out.below hbX)
 have hb0X := Lib.hid (hb01d.out.trans (hbX.mono hb01d.out.size))
 have hkX := Lib.hid (hk1d.out.below hbX)
 have hnX := Lib.hid (Blk.new w1.drew 5 #[.int .u8 3])
 have k0X := hkX.out.cell 0
 simp only [List.getElem?_cons_zero] at k0X
 have hnil0 : Hid (∀ g : Nat, (Value.slice none 0 0).ownBlock = some g → w.heap.size ≤ g) := Lib.hid (by intro g hg; cases hg)
 have hnil1 : Hid (∀ (u : World) (g : Nat), (Value.slice none 0 0).ownBlock = some g → u.heap.size ≤ g) := Lib.hid (by intro u g hg; cases hg)
 have tok1 : True := trivial
 have hzX := hb0X.out.size
 clear hk1 hr1 hb01 k0 hbX
 go_wp2_with fail
 go_region_held3 (fun w' => w'.cell? ⟨w.heap.size, 0, none⟩ = some (.int .u8 3))
  (first | assumption | exact k02 | exact k0B | exact k03 | exact k0X | go_cell)
  (first | (have _t := tok1; refine step_apd rfl (.const (.slice none 0 0)) (.tmp 10) 36 rfl E8 w.heap.size none 0 0 [] rfl (Own.nil _ w.heap.size 5 1) A bl bc (Bs b) (by simp [Act.eval, Act.put]) (by rw [List.length_map, Hb.out, Nat.mul_one]) hr1d.out (Bs_one b) bl (Nat.zero_add _) (Bs b) rfl (by omega) (by omega) hz1 ?_; intro A2 c2 w2 ho2 hg2 _; have hk2 : Blk w2 w.heap.size 38 _ := hk1d.out.below ((Below.refl _ _).grown hg2 (Nat.le_refl _) (hnil1.out _)); have k02 : w2.cell? ⟨w.heap.size, 0, none⟩ = some (.int .u8 3) := hk2.cell 0; have hb2 := Lib.hid (hb01d.out.grown hg2 hb01d.out.size hnil0.out); have hbB : Below w2.heap.size w2 (w2.alloc (.cells #[.int .u8 3] 5)) := (Below.refl _ _).alloc (Nat.le_refl _) _; have hnew := Lib.hid (Blk.new w2 5 #[.int .u8 3]).range; have hoB := Lib.hid (Own.below ho2 hbB); have hkB := Lib.hid (hk2.below hbB); have k0B : (w2.alloc (.cells #[.int .u8 3] 5)).cell? ⟨w.heap.size, 0, none⟩ = some (.int .u8 3) := hkB.out.cell 0; have hb0B := Lib.hid (hb2.out.trans (hbB.mono hb2.out.size)); clear tok1 _t ho2 hg2 hk2 hbB)
         | (have _t := tok1; refine step_apd rfl (.const (.slice none 0 0)) (.tmp 10) 36 rfl E8 w.heap.size none 0 0 [] rfl (Own.nil _ w.heap.size 5 1) A bl bc (Bs b) (by simp [Act.eval, Act.put]) (by rw [List.length_map, Hb.out, Nat.mul_one]) hrX.out (Bs_one b) bl (Nat.zero_add _) (Bs b) rfl (by omega) (by omega) hzX ?_; intro A2 c2 w2 ho2 hg2 _; have hbx2 := (Below.refl _ _).grown hg2 (Nat.le_refl _) (hnil1.out _); have hkB := Lib.hid (hkX.out.below hbx2); have k02 : w2.cell? ⟨w.heap.size, 0, none⟩ = some (.int .u8 3) := hkB.out.cell 0; have hb0B := Lib.hid (hb0X.out.grown hg2 hb0X.out.size hnil0.out); have hnew := Lib.hid (hnX.out.below hbx2).range; have hoB := Lib.hid ho2; have tok2 : True := trivial; clear tok1 _t ho2 hg2 hbx2)
         | (have _t := tok2; refine step_apd rfl (.tmp 11) (.tmp 14) 36 rfl E8 w.heap.size A2 bl c2 (Bs b) (by simp [Act.eval, Act.put]) hoB.out (some ⟨w1.drew.heap.size, 0, none⟩) 1 1 [.int .u8 3] (by simp [Act.eval, Act.put]) rfl (fun _ => ⟨_, _, rfl, hnew.out⟩) (by simp [Value.oneCell']) (bl + 1) rfl (Bs (b ++ [byteN 3])) (bs_byte (m := 3) (by omega)) (by omega) (by omega) hb0B.out.size ?_; intro A3 c3 w3 ho3 hg3 _; have hk3 : Blk w3 w.heap.size 38 _ := Blk.keeps hkB.out (by decide) (hoB.out.apd_keeps hg3); have k03 : w3.cell? ⟨w.heap.size, 0, none⟩ = some (.int .u8 3) := hk3.cell 0; have hb3 := hb0B.out.grown hg3 hb0B.out.size hoB.out.row_ge; clear _t tok2)
         | (refine step_apd rfl (.tmp 11) (.tmp 14) 36 rfl E8 w.heap.size A2 bl c2 (Bs b) (by simp [Act.eval, Act.put]) hoB.out (some ⟨w2.heap.size, 0, none⟩) 1 1 [.int .u8 3] (by simp [Act.eval, Act.put]) rfl (fun _ => ⟨_, _, rfl, hnew.out⟩) (by simp [Value.oneCell']) (bl + 1) rfl (Bs (b ++ [byteN 3])) (bs_byte (m := 3) (by omega)) (by omega) (by omega) hb0B.out.size ?_; intro A3 c3 w3 ho3 hg3 _; have hk3 : Blk w3 w.heap.size 38 _ := Blk.keeps hkB.out (by decide) (hoB.out.apd_keeps hg3); have k03 : w3.cell? ⟨w.heap.size, 0, none⟩ = some (.int .u8 3) := hk3.cell 0; have hb3 := hb0B.out.grown hg3 hb0B.out.size hoB.out.row_ge))
 all_goals
  have l0 := hk3.cell 0
  have l1 := hk3.cell 1
  have l2 := hk3.cell 2
  simp only [List.getElem?_cons_zero, List.getElem?_cons_succ] at l0 l1 l2
  have hz3 := hb3.size
  have hct := fun w' (h : Below w3.heap.size w3 w') => text_any (b ++ [byteN 3]) s (bl + 1) c3 k A3 w' (by rw [List.length_append, Hb.out]; rfl) hs (ho3.rd.below h) (by omega) (by omega)
  rw [show bl + 1 + (numB k).length + k = bl + (1 + ((numB k).length + k)) from by omega, show (b ++ [byteN 3]) ++ (numB k ++ s) = b ++ (byteN 3 :: (numB k ++ s)) from by simp] at hct
  have Hct := Lib.hid hct
  have Hs := Lib.hid hs
  clear hct
  generalize hL : (numB k).length = L at Hct
  have HL := Lib.hid hL
  clear hL hk3 hs
  go_wp2_with fail
  refine (box_txt s hl w3).mono ?_
  rintro e w4 ⟨rfl, hb4⟩
  go_wp2_with fail
  refine (word_any _ w4).mono ?_
  rintro e w5 ⟨rfl, rfl⟩
  have hb04 := hb3.trans (hb4.mono hz3)
  have Hct4 := Lib.hid (Hct.out w4 hb4)
  have hz4 := hb04.size
  clear Hct hb3
  go_wp2_with fail
  refine Hct4.out.mono ?_
  rintro e w6 ⟨A6, c6, rfl, ho6, hb6⟩
  go_wp2_with fail
  go_ret
  rw [HL.out]
  exact ⟨_, _, rfl, Own.base ho6 hz4, hb04.trans (hb6.mono hz4)⟩
end Go.Proofs.YtcadjekcdokkjaaGreat
namespace Go.Proofs.YtcadjekcdokkjaaGreat
set_option linter.unusedVariables false
set_option linter.unusedSimpArgs false
open Go.RowKit
theorem vput_nil : vput ⟨0, 0, []⟩ = [byteN 0] := rfl
theorem vput_bool (n : Int) : vput ⟨1, n, []⟩ = byteN 1 :: numB (zigN n) := rfl
theorem vput_int (n : Int) : vput ⟨2, n, []⟩ = byteN 2 :: numB (zigN n) := rfl
theorem vput_txt (s : List UInt8) : vput ⟨3, 0, s⟩ = byteN 3 :: (numB s.length ++ s) := rfl
theorem rput_any (b : List UInt8) (bl bc : Nat) (v : Va) (A : Option Addr) (w : World) (hb : b.length = bl) (hr : Rd w A (Bs b)) (hbl : bl ≤ 100000) (hv : rightV v = true) (hok : v.ok) :
  Calls Tryz.prog 67 #[.slice A bl bc, v.agg] w fun e w' => ∃ A' c', e = .returned (.slice A' (bl + (vput v).length) c') ∧ Own w' w.heap.size 5 1 A' (bl + (vput v).length) c' (Bs (b ++ vput v)) ∧ Below w.heap.size w w' := by
 rcases right_kinds hv with rfl | ⟨t, rfl⟩ | ⟨n, rfl⟩ | ⟨s, rfl, hs⟩
 ·rw [vput_nil]
  exact rput_nil b bl bc A w hb hr hbl
 ·cases t
  ·rw [vput_bool, List.length_cons, Nat.add_comm _ 1]
   exact rput_no b bl bc A w hb hr hbl
  ·rw [vput_bool, List.length_cons, Nat.add_comm _ 1]
   exact rput_yes b bl bc A w hb hr hbl
 ·rw [vput_int, List.length_cons, Nat.add_comm _ 1]
  exact rput_int b bl bc n hok.n A w hb hr hbl
 ·rw [vput_txt, List.length_cons, List.length_append, Nat.add_comm _ 1]
  exact rput_txt b bl bc s s.length hs rfl A w hb hr hbl
theorem cput_any (b : List UInt8) (bl bc : Nat) (v : Va) (A : Option Addr) (w : World) (hb : b.length = bl) (hr : Rd w A (Bs b)) (hbl : bl ≤ 100000) (hv : rightV v = true) (hok : v.ok) :
  Calls Tryz.prog 130 #[.slice A bl bc, v.agg] w fun e w' => ∃ A' c', e = .returned (.slice A' (bl + (vput v).length) c') ∧ Own w' w.heap.size 5 1 A' (bl + (vput v).length) c' (Bs (b ++ vput v)) ∧ Below w.heap.size w w' := by
 rcases right_kinds hv with rfl | ⟨t, rfl⟩ | ⟨n, rfl⟩ | ⟨s, rfl, hs⟩
 ·rw [vput_nil]
  exact cput_nil b bl bc A w hb hr hbl
 ·cases t
  ·rw [vput_bool, List.length_cons, Nat.add_comm _ 1]
   exact cput_no b bl bc A w hb hr hbl
  ·rw [vput_bool, List.length_cons, Nat.add_comm _ 1]
   exact cput_yes b bl bc A w hb hr hbl
 ·rw [vput_int, List.length_cons, Nat.add_comm _ 1]
  exact cput_int b bl bc n hok.n A w hb hr hbl
 ·rw [vput_txt, List.length_cons, List.length_append, Nat.add_comm _ 1]
  exact cput_txt b bl bc s s.length hs rfl A w hb hr hbl
theorem vput_le {v : Va} (hv : rightV v = true) (hok : v.ok) : (vput v).length ≤ 1034 := by
 rcases right_kinds hv with rfl | ⟨t, rfl⟩ | ⟨n, rfl⟩ | ⟨s, rfl, hs⟩
 ·rw [vput_nil]; decide
 ·have h0 : -9223372036854775808 ≤ (if t = true then (1 : Int) else 0) ∧ (if t = true then (1 : Int) else 0) ≤ 9223372036854775807 := by split <;> omega
  have := numB_len (zigN_lt h0)
  rw [vput_bool, List.length_cons]
  omega
 ·have := numB_len (zigN_lt (n := n) hok.n)
  rw [vput_int, List.length_cons]
  omega
 ·have := numB_len (n := s.length) (by omega)
  rw [vput_txt, List.length_cons, List.length_append]
  omega
end Go.Proofs.YtcadjekcdokkjaaGreat
