/- Walks: whether two rows, and two lists of rows, are the same. Walks: rows laid one behind the other (slices.Concat). -/
import Derived.Test.YtcadjekcdokkjaaGreatMJoMW
import Derived.Lib.AppendZeros
namespace Go.Proofs.YtcadjekcdokkjaaGreat
set_option linter.unusedVariables false
set_option linter.unusedSimpArgs false
open Go.RowKit
attribute [local go_sem ↓] Go.wp_at_zero Go.wp_at_succ
set_option maxRecDepth 100000 in
theorem samerow_ne (l m : RowM) (n k : Nat) (A A' : Option Addr) (c c' : Nat) (w : World) (hl : l.length = n) (hm : m.length = k) (hnk : ¬ n = k) (hn : n ≤ 140737488355328) (hk : k ≤ 140737488355328) :
  Calls Tryz.prog 44 #[.slice A n c, .slice A' k c'] w fun e w' => e = .returned (.bool (decide (l = m))) ∧ ∃ j, w.drewN j = w' := by
 have hd : Hid (decide (l = m) = false) := decide_eq_false (fun e => hnk (by rw [← hl, ← hm, e]))
 clear hl hm
 go_enter Tryz.func44, Tryz.ntmps44
 go_wp2_with fail
 go_ret
 exact ⟨by rw [hd.out]; rfl, 0, rfl⟩
set_option maxRecDepth 100000 in
theorem samerow_any (l m : RowM) (n k : Nat) (A A' : Option Addr) (c c' : Nat) (w : World) (hl : l.length = n) (hm : m.length = k) (hA : Rd w A (rcells l)) (hA' : Rd w A' (rcells m)) (hn : n ≤ 140737488355328) (hk : k ≤ 140737488355328) :
  Calls Tryz.prog 44 #[.slice A n c, .slice A' k c'] w fun e w' => e = .returned (.bool (decide (l = m))) ∧ ∃ j, w.drewN j = w' := by
 by_cases hnk : n = k
 ·subst hnk
  have Hl := Lib.hid hl
  have Hm := Lib.hid hm
  clear hl hm
  have hne : ((n : Int) != (n : Int)) = false := by simp
  go_enter Tryz.func44, Tryz.ntmps44
  go_wp2_with fail
  go_loopw [5] (fun i wr => ∃ (j q : Nat), j ≤ n ∧ i = .int .i64 j ∧ wr = w.drewN q ∧ Hid (l.take j = m.take j)) (fun i _ => n - (intOf i).toNat)
  case atStart => exact ⟨0, 0, by omega, rfl, rfl, rfl⟩
  case round =>
   obtain ⟨j, q, hj, rfl, rfl, heq⟩ := hrel
   by_cases hlt : j < n
   ·have hjl : j < l.length := by rw [Hl.out]; exact hlt
    have hjm : j < m.length := by rw [Hm.out]; exact hlt
    obtain ⟨b, o, rfl, c0, c1, c2⟩ := row_cells hA hjl
    obtain ⟨b', o', rfl, d0, d1, d2⟩ := row_cells hA' hjm
    have ht := Lib.hid (List.take_succ_eq_append_getElem (l := l) (i := j) hjl)
    have ht' := Lib.hid (List.take_succ_eq_append_getElem (l := m) (i := j) hjm)
    have hx : Hid (∀ h : l = m, l[j] = m[j]) := by
     intro h
     subst h
     rfl
    clear hA hA'
    generalize l[j] = x at *
    generalize m[j] = y at *
    clear hjl hjm
    obtain ⟨k1, n1, s1⟩ := x
    obtain ⟨k2, n2, s2⟩ := y
    dsimp only at c0 c1 c2 d0 d1 d2
    have hjI : (0 : Int) ≤ (j : Int) := by omega
    have hjI' : (j : Int) < (n : Int) := by omega
    rcases va_cases k1 n1 s1 k2 n2 s2 with ⟨rfl, rfl, rfl⟩ | h | ⟨rfl, h⟩ | ⟨rfl, rfl, h⟩
    ·go_wp2_with fail
     go_quiet (fail)
     go_wp2_with fail
     go_roundw
     case rel =>
      refine ⟨j + 1, _, by omega, by go_num, rfl, ?_⟩
      show _ = _
      rw [ht.out, ht'.out, heq.out]
     case measure => simp [intOf]; omega
    ·have hd := Lib.hid (decide_eq_false (p := l = m) (fun e => h (congrArg Va.k (hx.out e))))
     go_wp2_with fail
     go_quiet (fail)
     go_wp2_with fail
     go_ret
     exact ⟨by rw [hd.out]; rfl, _, (World.drewN_drewN ..).symm⟩
    ·have hd := Lib.hid (decide_eq_false (p := l = m) (fun e => h (congrArg Va.n (hx.out e))))
     go_wp2_with fail
     go_quiet (fail)
     go_wp2_with fail
     go_ret
     exact ⟨by rw [hd.out]; rfl, _, (World.drewN_drewN ..).symm⟩
    ·have hd := Lib.hid (decide_eq_false (p := l = m) (fun e => h (congrArg Va.s (hx.out e))))
     have h1 : ¬ St8 s1 = St8 s2 := fun e => h (St8_inj e)
     have h2 := St8_cmp s1 s2
     have h3 := St8_eq s1 s2
     rw [decide_eq_false h] at h2 h3
     go_wp2_with fail
     go_quiet (fail)
     go_wp2_with fail
     go_ret
     exact ⟨by rw [hd.out]; rfl, _, (World.drewN_drewN ..).symm⟩
   ·obtain rfl : j = n := by omega
    have hd : Hid (decide (l = m) = true) := decide_eq_true (by
     have := heq.out
     rwa [List.take_of_length_le (by rw [Hl.out]; exact Nat.le_refl _), List.take_of_length_le (by rw [Hm.out]; exact Nat.le_refl _)] at this)
    go_wp2_with fail
    go_ret
    exact ⟨by rw [hd.out]; rfl, _, rfl⟩
 ·exact samerow_ne l m n k A A' c c' w hl hm hnk hn hk
set_option maxRecDepth 100000 in
theorem samerows_ne (l m : List RowM) (n k : Nat) (A A' : Option Addr) (c c' : Nat) (w : World) (hl : l.length = n) (hm : m.length = k) (hnk : ¬ n = k) (hn : n ≤ 140737488355328) (hk : k ≤ 140737488355328) :
  Calls Tryz.prog 20 #[.slice A n c, .slice A' k c'] w fun e w' => e = .returned (.bool (decide (l = m))) ∧ ∃ j, w.drewN j = w' := by
 have hd : Hid (decide (l = m) = false) := decide_eq_false (fun e => hnk (by rw [← hl, ← hm, e]))
 clear hl hm
 go_enter Tryz.func20, Tryz.ntmps20
 go_wp2_with fail
 go_ret
 exact ⟨by rw [hd.out]; rfl, 0, rfl⟩
theorem head_cell {w : World} {A : Option Addr} {hs : List Value} {rs : List RowM} (hr : Rd w A hs) (h : Rows w hs rs) {j : Nat} (hj : j < rs.length) :
  ∃ b o A' c, A = some ⟨b, o, none⟩ ∧ w.cell? ⟨b, o + j, none⟩ = some (.slice A' rs[j].length c) ∧ rs[j].length ≤ c ∧ c ≤ maxLen ∧ Rd w A' (rcells rs[j]) := by
 obtain ⟨A', c, h1, h2, h3, h4, _⟩ := h.at_ j rs[j] (List.getElem?_eq_getElem hj)
 obtain ⟨b, o, rfl, hh⟩ := hr (fun e => by rw [e] at h1; simp at h1)
 exact ⟨b, o, A', c, rfl, hh j _ h1, h2, h3, h4⟩
set_option maxRecDepth 100000 in
theorem samerows_any (l m : List RowM) (hs hs' : List Value) (n k : Nat) (A A' : Option Addr) (c c' : Nat) (w : World) (hl : l.length = n) (hm : m.length = k) (hA : Rd w A hs) (hA' : Rd w A' hs') (hR : Rows w hs l) (hR' : Rows w hs' m) (hn : n ≤ 140737488355328) (hk : k ≤ 140737488355328)
  (hb : ∀ r ∈ l, r.length ≤ 140737488355328) (hb' : ∀ r ∈ m, r.length ≤ 140737488355328) :
  Calls Tryz.prog 20 #[.slice A n c, .slice A' k c'] w fun e w' => e = .returned (.bool (decide (l = m))) ∧ ∃ j, w.drewN j = w' := by
 by_cases hnk : n = k
 ·subst hnk
  have Hl := Lib.hid hl
  have Hm := Lib.hid hm
  have Hb := Lib.hid hb
  have Hb' := Lib.hid hb'
  clear hl hm hb hb'
  have hne : ((n : Int) != (n : Int)) = false := by simp
  go_enter Tryz.func20, Tryz.ntmps20
  go_wp2_with fail
  go_loopw [5] (fun i wr => ∃ (j q : Nat), j ≤ n ∧ i = .int .i64 j ∧ wr = w.drewN q ∧ Hid (l.take j = m.take j)) (fun i _ => n - (intOf i).toNat)
  case atStart => exact ⟨0, 0, by omega, rfl, rfl, rfl⟩
  case round =>
   obtain ⟨j, q, hj, rfl, hwq, heq⟩ := hrel
   have Hwq := Lib.hid hwq
   have hbw : Below w.heap.size w wr := by rw [hwq]; exact below_drewN' (Below.refl _ _) q
   clear hwq
   have hA := hA.below hbw
   have hA' := hA'.below hbw
   have hR := hR.below hbw
   have hR' := hR'.below hbw
   clear hbw
   by_cases hlt : j < n
   ·have hjl : j < l.length := by rw [Hl.out]; exact hlt
    have hjm : j < m.length := by rw [Hm.out]; exact hlt
    obtain ⟨b, o, E, d, rfl, c0, _, _, hr⟩ := head_cell hA hR hjl
    obtain ⟨b', o', E', d', rfl, c0', _, _, hr'⟩ := head_cell hA' hR' hjm
    have ht := Lib.hid (List.take_succ_eq_append_getElem (l := l) (i := j) hjl)
    have ht' := Lib.hid (List.take_succ_eq_append_getElem (l := m) (i := j) hjm)
    have hbx := Hb.out _ (List.getElem_mem hjl)
    have hby := Hb'.out _ (List.getElem_mem hjm)
    have hx : Hid (∀ h : l = m, l[j] = m[j]) := by
     intro h
     subst h
     rfl
    clear hA hA' hR hR'
    generalize l[j] = x at *
    generalize m[j] = y at *
    clear hjl hjm
    generalize hxl : x.length = xl at *
    generalize hyl : y.length = yl at *
    have Hxl := Lib.hid hxl
    have Hyl := Lib.hid hyl
    clear hxl hyl
    have hjI : (0 : Int) ≤ (j : Int) := by omega
    have hjI' : (j : Int) < (n : Int) := by omega
    have hc := Lib.hid (fun w' (h1 : Rd w' E (rcells x)) (h2 : Rd w' E' (rcells y)) => samerow_any x y xl yl E E' d d' w' Hxl.out Hyl.out h1 h2 hbx hby)
    by_cases hxy : x = y
    ·rw [decide_eq_true hxy] at hc
     have Hxy := Lib.hid hxy
     clear hxy
     go_wp2_with fail
     go_quiet ((go_at_call 44; exact Calls.quiet_of ((hc.out _ (hr.below (below_drewN' (Below.refl _ _) _)) (hr'.below (below_drewN' (Below.refl _ _) _))).mono fun _ _ ⟨h1, j, h2⟩ => ⟨h1, j, h2.symm⟩)))
     go_wp2_with fail
     go_roundw
     case rel =>
      refine ⟨j + 1, _, by omega, by go_num, (by rw [Hwq.out, World.drewN_drewN]), ?_⟩
      show _ = _
      rw [ht.out, ht'.out, heq.out, Hxy.out]
     case measure => simp [intOf]; omega
    ·have hd := Lib.hid (decide_eq_false (p := l = m) (fun e => hxy (hx.out e)))
     rw [decide_eq_false hxy] at hc
     clear hxy
     go_wp2_with fail
     go_quiet ((go_at_call 44; exact Calls.quiet_of ((hc.out _ (hr.below (below_drewN' (Below.refl _ _) _)) (hr'.below (below_drewN' (Below.refl _ _) _))).mono fun _ _ ⟨h1, j, h2⟩ => ⟨h1, j, h2.symm⟩)))
     go_wp2_with fail
     go_ret
     exact ⟨by rw [hd.out]; rfl, _, (by rw [Hwq.out, World.drewN_drewN])⟩
   ·obtain rfl : j = n := by omega
    have hd : Hid (decide (l = m) = true) := decide_eq_true (by
     have := heq.out
     rwa [List.take_of_length_le (by rw [Hl.out]; exact Nat.le_refl _), List.take_of_length_le (by rw [Hm.out]; exact Nat.le_refl _)] at this)
    go_wp2_with fail
    go_ret
    exact ⟨by rw [hd.out]; rfl, _, Hwq.out.symm⟩
 ·exact samerows_ne l m n k A A' c c' w hl hm hnk hn hk
end Go.Proofs.YtcadjekcdokkjaaGreat
namespace Go.Proofs.YtcadjekcdokkjaaGreat
set_option linter.unusedVariables false
set_option linter.unusedSimpArgs false
open Go.RowKit
attribute [local go_sem ↓] Go.wp_at_zero Go.wp_at_succ
theorem Eval : ElemT Tryz.prog 23 38 3 32 (.agg #[.int .u8 0, .int .i64 0, .string ⟨#[]⟩]) := ElemT.mk' (by kernel_rfl) (by kernel_rfl) rfl (by omega)
theorem Erow : ElemT Tryz.prog 32 23 1 24 (.slice none 0 0) := ElemT.mk' (by kernel_rfl) (by kernel_rfl) rfl (by omega)
theorem Own.base {w : World} {base base' : Nat} {e : TypeId} {size : Nat} {A : Option Addr} {n c : Nat} {xs : List Value} (h : Own w base e size A n c xs) (hb : base' ≤ base) : Own w base' e size A n c xs :=
 ⟨h.1, h.2.imp id fun ⟨g, cap, cur, hv, hg, rest⟩ => ⟨g, cap, cur, hv, Nat.le_trans hb hg, rest⟩⟩
end Go.Proofs.YtcadjekcdokkjaaGreat
