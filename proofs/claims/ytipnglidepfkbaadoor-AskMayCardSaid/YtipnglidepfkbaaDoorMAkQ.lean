/- Walks: the examples of the statements on ask. -/
import Derived.Test.YtipnglidepfkbaaDoorMAkK
namespace Go.Proofs.YtipnglidepfkbaaDoor
set_option linter.unusedVariables false
set_option linter.unusedSimpArgs false
open Go.RowKit

attribute [local go_sem ↓] Go.wp_at_zero Go.wp_at_succ

set_option maxRecDepth 100000 in
theorem num_c (n : Int) (w : World) : Calls Tryd.prog 19 #[.int .i64 n] w fun e w' => e = .returned (.agg #[.int .u8 2, .int .i64 n, .string ⟨#[]⟩]) ∧ Below w.heap.size w w' := by
  have hb : Below w.heap.size w (w.alloc (.cells #[.int .u8 2, .int .i64 n, .string ⟨#[]⟩] 44)) := (Below.refl _ _).alloc (Nat.le_refl _) _
  have q0 := (Blk.new w 44 #[.int .u8 2, .int .i64 n, .string ⟨#[]⟩]).cell 0
  have q1 := (Blk.new w 44 #[.int .u8 2, .int .i64 n, .string ⟨#[]⟩]).cell 1
  have q2 := (Blk.new w 44 #[.int .u8 2, .int .i64 n, .string ⟨#[]⟩]).cell 2
  simp only [List.getElem?_cons_zero, List.getElem?_cons_succ] at q0 q1 q2
  go_enter Tryd.func19, Tryd.ntmps19
  go_wp2_with fail
  refine bodyPost_ret (by simp [results, Tryd.results19, go_sem, q0, q1, q2]; try rfl) rfl ?_
  exact ⟨rfl, hb⟩

def exN : List Nd := [⟨2, 0, 2, Va.nil⟩, ⟨6, 0, 0, ⟨2, 5, []⟩⟩, ⟨8, 1, 0, Va.nil⟩]
def exR (k n : Int) : RowM := [⟨k, n, []⟩, Va.nil]
theorem ex_right : rightN [2, 2] exN = true := by decide +kernel
theorem ex_eval4 : evalM exN (exR 2 4) = 2 := by decide +kernel
theorem ex_eval0 : evalM exN (exR 0 0) = 1 := by decide +kernel
theorem ex_eval5 : evalM exN (exR 2 5) = 0 := by decide +kernel
theorem rd_more {w w' : World} {A : Option Addr} {xs : List Value} (h : Rd w A xs) (hb : Below w.heap.size w w') : Hid (Rd w' A xs) := h.below hb

set_option maxHeartbeats 4000000 in
set_option maxRecDepth 100000 in
theorem shown_c (w : World) : Calls Tryd.prog 6 #[] w fun e w' => e = .returned (.bool true) ∧ Below w.heap.size w w' := by
  go_enter Tryd.func6, Tryd.ntmps6
  go_wp2_with fail
  refine (num_c 5 _).mono ?_
  rintro e w0 ⟨rfl, hb0⟩
  have hb1 : Below w0.heap.size w0 (w0.alloc (.cells #[.int .u8 2, .int .i64 0, .int .i64 2, .int .u8 0, .int .i64 0, .string ⟨#[]⟩, .int .u8 6, .int .i64 0, .int .i64 0, .int .u8 2, .int .i64 5, .string ⟨#[]⟩, .int .u8 8, .int .i64 1, .int .i64 0, .int .u8 0, .int .i64 0, .string ⟨#[]⟩] 46)) := (Below.refl _ _).alloc (Nat.le_refl _) _
  have hL1 : Rd (w0.alloc (.cells #[.int .u8 2, .int .i64 0, .int .i64 2, .int .u8 0, .int .i64 0, .string ⟨#[]⟩, .int .u8 6, .int .i64 0, .int .i64 0, .int .u8 2, .int .i64 5, .string ⟨#[]⟩, .int .u8 8, .int .i64 1, .int .i64 0, .int .u8 0, .int .i64 0, .string ⟨#[]⟩] 46)) (some ⟨w0.heap.size, 0, none⟩) (ncells exN) := Rd.of_blk (Blk.new w0 46 #[.int .u8 2, .int .i64 0, .int .i64 2, .int .u8 0, .int .i64 0, .string ⟨#[]⟩, .int .u8 6, .int .i64 0, .int .i64 0, .int .u8 2, .int .i64 5, .string ⟨#[]⟩, .int .u8 8, .int .i64 1, .int .i64 0, .int .u8 0, .int .i64 0, .string ⟨#[]⟩])
  have hz1 : (w0.alloc (.cells #[.int .u8 2, .int .i64 0, .int .i64 2, .int .u8 0, .int .i64 0, .string ⟨#[]⟩, .int .u8 6, .int .i64 0, .int .i64 0, .int .u8 2, .int .i64 5, .string ⟨#[]⟩, .int .u8 8, .int .i64 1, .int .i64 0, .int .u8 0, .int .i64 0, .string ⟨#[]⟩] 46)).heap.size = w0.heap.size + 1 := by rw [World.size_alloc]
  have HR := Lib.hid (fun (kb : Nat) w' (hb : Below (w0.alloc (.cells #[.int .u8 2, .int .i64 0, .int .i64 2, .int .u8 0, .int .i64 0, .string ⟨#[]⟩, .int .u8 6, .int .i64 0, .int .i64 0, .int .u8 2, .int .i64 5, .string ⟨#[]⟩, .int .u8 8, .int .i64 1, .int .i64 0, .int .u8 0, .int .i64 0, .string ⟨#[]⟩] 46)).heap.size (w0.alloc (.cells #[.int .u8 2, .int .i64 0, .int .i64 2, .int .u8 0, .int .i64 0, .string ⟨#[]⟩, .int .u8 6, .int .i64 0, .int .i64 0, .int .u8 2, .int .i64 5, .string ⟨#[]⟩, .int .u8 8, .int .i64 1, .int .i64 0, .int .u8 0, .int .i64 0, .string ⟨#[]⟩] 46)) w') (hk : Rd w' (some ⟨kb, 0, none⟩) (kcells [2, 2])) => aright_any [2, 2] (some ⟨kb, 0, none⟩) 2 2 exN (some ⟨w0.heap.size, 0, none⟩) 3 3 w' hk rfl (by simp [exN, Va.nil]) rfl (hL1.below hb) (by omega))
  have HE := Lib.hid (fun (k n : Int) (b : Nat) w' (hb : Below (w0.alloc (.cells #[.int .u8 2, .int .i64 0, .int .i64 2, .int .u8 0, .int .i64 0, .string ⟨#[]⟩, .int .u8 6, .int .i64 0, .int .i64 0, .int .u8 2, .int .i64 5, .string ⟨#[]⟩, .int .u8 8, .int .i64 1, .int .i64 0, .int .u8 0, .int .i64 0, .string ⟨#[]⟩] 46)).heap.size (w0.alloc (.cells #[.int .u8 2, .int .i64 0, .int .i64 2, .int .u8 0, .int .i64 0, .string ⟨#[]⟩, .int .u8 6, .int .i64 0, .int .i64 0, .int .u8 2, .int .i64 5, .string ⟨#[]⟩, .int .u8 8, .int .i64 1, .int .i64 0, .int .u8 0, .int .i64 0, .string ⟨#[]⟩] 46)) w') (hk : Rd w' (some ⟨b, 0, none⟩) (rcells (exR k n))) => aeval_c exN (exR k n) (some ⟨w0.heap.size, 0, none⟩) (some ⟨b, 0, none⟩) 3 3 2 2 w' rfl rfl (hL1.below hb) hk (by omega) (by omega) (by simp [exN, Va.nil]) (by simp [exR, Va.nil]))
  have Hb2 := Lib.hid (show Below (w0.alloc (.cells #[.int .u8 2, .int .i64 0, .int .i64 2, .int .u8 0, .int .i64 0, .string ⟨#[]⟩, .int .u8 6, .int .i64 0, .int .i64 0, .int .u8 2, .int .i64 5, .string ⟨#[]⟩, .int .u8 8, .int .i64 1, .int .i64 0, .int .u8 0, .int .i64 0, .string ⟨#[]⟩] 46)).heap.size (w0.alloc (.cells #[.int .u8 2, .int .i64 0, .int .i64 2, .int .u8 0, .int .i64 0, .string ⟨#[]⟩, .int .u8 6, .int .i64 0, .int .i64 0, .int .u8 2, .int .i64 5, .string ⟨#[]⟩, .int .u8 8, .int .i64 1, .int .i64 0, .int .u8 0, .int .i64 0, .string ⟨#[]⟩] 46)) ((w0.alloc (.cells #[.int .u8 2, .int .i64 0, .int .i64 2, .int .u8 0, .int .i64 0, .string ⟨#[]⟩, .int .u8 6, .int .i64 0, .int .i64 0, .int .u8 2, .int .i64 5, .string ⟨#[]⟩, .int .u8 8, .int .i64 1, .int .i64 0, .int .u8 0, .int .i64 0, .string ⟨#[]⟩] 46)).alloc (.cells #[.int .u8 2, .int .u8 2] 5)) from (Below.refl _ _).alloc (Nat.le_refl _) _)
  have HK : Hid (Rd ((w0.alloc (.cells #[.int .u8 2, .int .i64 0, .int .i64 2, .int .u8 0, .int .i64 0, .string ⟨#[]⟩, .int .u8 6, .int .i64 0, .int .i64 0, .int .u8 2, .int .i64 5, .string ⟨#[]⟩, .int .u8 8, .int .i64 1, .int .i64 0, .int .u8 0, .int .i64 0, .string ⟨#[]⟩] 46)).alloc (.cells #[.int .u8 2, .int .u8 2] 5)) (some ⟨w0.heap.size + 1, 0, none⟩) (kcells [2, 2])) := by
    have := Rd.of_blk (Blk.new (w0.alloc (.cells #[.int .u8 2, .int .i64 0, .int .i64 2, .int .u8 0, .int .i64 0, .string ⟨#[]⟩, .int .u8 6, .int .i64 0, .int .i64 0, .int .u8 2, .int .i64 5, .string ⟨#[]⟩, .int .u8 8, .int .i64 1, .int .i64 0, .int .u8 0, .int .i64 0, .string ⟨#[]⟩] 46)) 5 #[.int .u8 2, .int .u8 2])
    rw [hz1] at this
    exact this
  have hr := HR.out _ _ Hb2.out HK.out
  rw [if_pos ex_right] at hr
  have Hr := Lib.hid hr
  have Hb1 := Lib.hid (hb0.trans (hb1.mono hb0.size))
  clear hr hb1 hb0 hL1 HR HK
  go_wp2_with fail
  refine Hr.out.mono ?_
  rintro e w3 ⟨rfl, hb3⟩
  have Hb3 := Lib.hid (Hb2.out.trans (hb3.mono Hb2.out.size))
  clear hb3 Hr
  go_wp2_with fail
  refine (num_c 4 _).mono ?_
  rintro e w4 ⟨rfl, hb4⟩
  have Hb3 := Lib.hid (Hb3.out.trans (hb4.mono Hb3.out.size))
  have Hb4 := Lib.hid (Hb3.out.alloc Hb3.out.size (.cells #[.int .u8 2, .int .i64 4, .string ⟨#[]⟩, .int .u8 0, .int .i64 0, .string ⟨#[]⟩] 44))
  have hX4 := Rd.of_blk (Blk.new w4 44 #[.int .u8 2, .int .i64 4, .string ⟨#[]⟩, .int .u8 0, .int .i64 0, .string ⟨#[]⟩])
  have he4 := HE.out 2 4 _ _ Hb4.out hX4
  rw [ex_eval4] at he4
  have He4 := Lib.hid he4
  clear hX4 he4 hb4
  go_wp2_with fail
  refine He4.out.mono ?_
  rintro e w5 ⟨rfl, hb5⟩
  have Hb5 := Lib.hid (Hb4.out.trans (hb5.mono Hb4.out.size))
  clear hb5 He4 Hb4 Hb3
  have Hb6 := Lib.hid (Hb5.out.alloc Hb5.out.size (.cells #[.int .u8 0, .int .i64 0, .string ⟨#[]⟩, .int .u8 0, .int .i64 0, .string ⟨#[]⟩] 44))
  have hX6 := Rd.of_blk (Blk.new w5 44 #[.int .u8 0, .int .i64 0, .string ⟨#[]⟩, .int .u8 0, .int .i64 0, .string ⟨#[]⟩])
  have he6 := HE.out 0 0 _ _ Hb6.out hX6
  rw [ex_eval0] at he6
  have He6 := Lib.hid he6
  clear hX6 he6
  go_wp2_with fail
  refine He6.out.mono ?_
  rintro e w7 ⟨rfl, hb7⟩
  have Hb7 := Lib.hid (Hb6.out.trans (hb7.mono Hb6.out.size))
  clear hb7 He6 Hb6 Hb5
  go_wp2_with fail
  refine (num_c 5 _).mono ?_
  rintro e w8 ⟨rfl, hb8⟩
  have Hb7 := Lib.hid (Hb7.out.trans (hb8.mono Hb7.out.size))
  have Hb8 := Lib.hid (Hb7.out.alloc Hb7.out.size (.cells #[.int .u8 2, .int .i64 5, .string ⟨#[]⟩, .int .u8 0, .int .i64 0, .string ⟨#[]⟩] 44))
  have hX8 := Rd.of_blk (Blk.new w8 44 #[.int .u8 2, .int .i64 5, .string ⟨#[]⟩, .int .u8 0, .int .i64 0, .string ⟨#[]⟩])
  have he8 := HE.out 2 5 _ _ Hb8.out hX8
  rw [ex_eval5] at he8
  have He8 := Lib.hid he8
  clear hX8 he8 hb8
  go_wp2_with fail
  refine He8.out.mono ?_
  rintro e w9 ⟨rfl, hb9⟩
  have Hb9 := Lib.hid (Hb1.out.trans ((Hb8.out.trans (hb9.mono Hb8.out.size)).mono Hb1.out.size))
  go_wp2_with fail
  go_ret
  exact ⟨rfl, Hb9.out⟩
end Go.Proofs.YtipnglidepfkbaaDoor
