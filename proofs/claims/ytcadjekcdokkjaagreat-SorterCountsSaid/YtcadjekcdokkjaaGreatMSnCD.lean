/- Walks: runs and passes: the program's and the reference's; few, some, greatest. Walks: the document's way to compare values and rows by any keys. -/
import Derived.Test.YtcadjekcdokkjaaGreatMSnAB
namespace Go.Proofs.YtcadjekcdokkjaaGreat
set_option linter.unusedVariables false
set_option linter.unusedSimpArgs false
open Go.RowKit
attribute [local go_sem ↓] Go.wp_at_zero Go.wp_at_succ
theorem rruns_any (rs : List RowM) (hs : List Value) (n c : Nat) (A : Option Addr) (room : Nat) (w : World) (hn : rs.length = n) (hA : Rd w A hs) (hR : Rows w hs rs) (hn1 : n ≤ 1000000) (hrm : room ≤ 1000000000000) (hrw : ∀ r ∈ rs, rowC r ≤ 1000000000000 ∧ r.length ≤ 1000000) :
  Calls Tryz.prog 17 #[.slice A n c, .int .i64 (room : Int)] w fun e w' => e = .returned (.tuple #[.int .i64 (runsK room rs : Int), .int .i64 (runsE room rs)]) ∧ Below w.heap.size w w' := by
 have hc := Lib.hid (rcuts_any rs hs n c A room w hn hA hR hn1 hrm hrw)
 clear hn hA hR hrw
 go_enter Tryz.func17, Tryz.ntmps17
 go_wp2_with fail
 refine hc.out.mono ?_
 rintro e w2 ⟨A', c', rfl, hb⟩
 have Hb := Lib.hid hb
 clear hb hc
 go_wp2_with fail
 go_ret2
 exact ⟨rfl, Hb.out⟩
def passesV (runs : Nat) (fan : Int) : Nat := if runs < 1 ∨ fan < 2 then 0 else passesF fan.toNat runs runs 0
theorem passesF_end {f d r n : Nat} (h : ¬ f < r) : passesF f d r n = if 1 < r then n + 1 else n := by
 cases d with
 | zero => rfl
 | succ d => rw [passesF, if_neg h]
theorem passes_step {f r : Nat} (hf : 2 ≤ f) (h : f < r) : (r - 1) / f + 1 ≤ r - 1 := by
 have h1 : (r - 1) / f ≤ (r - 1) / 2 := Nat.div_le_div_left hf (by omega)
 omega
set_option maxHeartbeats 4000000 in
set_option maxRecDepth 100000 in
theorem passes_any (runs : Nat) (fan : Int) (w : World) (hr : runs ≤ 1073741824) (h1 : -9223372036854775808 ≤ fan) (h2 : fan ≤ 9223372036854775807) :
  Calls Tryz.prog 28 #[.int .i64 (runs : Int), .int .i64 fan] w fun e w' => e = .returned (.int .i64 (passesV runs fan : Nat)) ∧ w = w' := by
 by_cases hr1 : runs < 1
 ·have hv : Hid (passesV runs fan = 0) := by show _ = _; unfold passesV; rw [if_pos (.inl hr1)]
  have hI : (runs : Int) < 1 := by omega
  go_enter Tryz.func28, Tryz.ntmps28
  go_wp2_with fail
  all_goals (go_ret; rw [hv.out]; exact ⟨rfl, rfl⟩)
 ·by_cases hf : fan < 2
  ·have hv : Hid (passesV runs fan = 0) := by show _ = _; unfold passesV; rw [if_pos (.inr hf)]
   have hI : ¬ ((runs : Int) < 1) := by omega
   go_enter Tryz.func28, Tryz.ntmps28
   go_wp2_with fail
   all_goals (go_ret; rw [hv.out]; exact ⟨rfl, rfl⟩)
  ·obtain ⟨f, rfl⟩ : ∃ f : Nat, fan = f := ⟨fan.toNat, by omega⟩
   have hf2 : 2 ≤ f := by omega
   have hv : passesV runs f = passesF f runs runs 0 := by
    unfold passesV
    rw [if_neg (by omega)]
    rfl
   obtain ⟨V, hV⟩ : ∃ V, V = passesF f runs runs 0 := ⟨_, rfl⟩
   rw [hv, ← hV]
   have HV := Lib.hid hV
   have hI : ¬ ((runs : Int) < 1) := by omega
   have hfI : ¬ ((f : Int) < 2) := by omega
   clear hv hV hf
   go_enter Tryz.func28, Tryz.ntmps28
   go_wp2_with fail
   go_loopw [0, 5] (fun vr vn wr => w = wr ∧ ∃ r n d : Nat, 1 ≤ r ∧ r ≤ d ∧ n + r ≤ 1073741824 ∧ vr = .int .i64 (r : Int) ∧ vn = .int .i64 (n : Int) ∧ Hid (passesF f d r n = V)) (fun v _ _ => (intOf v).toNat)
   case atStart => exact ⟨rfl, runs, 0, runs, by omega, by omega, by omega, rfl, by go_num, HV.out.symm⟩
   case round =>
    obtain ⟨rfl, r, n, d, hr3, hrd, hnr, rfl, rfl, hF⟩ := hrel
    by_cases hlt : f < r
    ·obtain ⟨d', rfl⟩ : ∃ d', d = d' + 1 := ⟨d - 1, by omega⟩
     have hst := passes_step hf2 hlt
     have hF2 := hF.out
     rw [passesF, if_pos hlt] at hF2
     have HF2 := Lib.hid hF2
     have e1 : ((r : Int) - 1).tdiv (f : Int) = (((r - 1) / f : Nat) : Int) := by
      rw [Int.tdiv_eq_ediv_of_nonneg (by omega)]
      have : ((r : Int) - 1) = ((r - 1 : Nat) : Int) := by omega
      rw [this]
      exact (Int.natCast_ediv _ _).symm
     obtain ⟨q, hq⟩ : ∃ q, q = (r - 1) / f := ⟨_, rfl⟩
     rw [← hq] at e1 hst HF2
     have e0 : IntKind.i64.wrap ((r : Int) - 1) = (r : Int) - 1 := by rw [IntKind.wrap_i64]; omega
     have e2 : IntKind.i64.wrap (((r : Int) - 1).tdiv (f : Int)) = (q : Int) := by rw [e1, IntKind.wrap_i64]; omega
     have e3 : IntKind.i64.wrap ((q : Int) + 1) = (q : Int) + 1 := by rw [IntKind.wrap_i64]; omega
     have e4 : ¬ ((f : Int) = 0) := by omega
     clear hq hF2 hF
     go_wp2_with fail
     go_roundw
     case rel => exact ⟨by first | rfl | trivial, q + 1, n + 1, d', by omega, by omega, by omega, by go_num, by go_num, HF2⟩
     case measure => simp [intOf]; omega
    ·have hF2 := hF.out
     rw [passesF_end hlt] at hF2
     by_cases h1r : 1 < r
     ·rw [if_pos h1r] at hF2
      subst hF2
      clear hF HV
      go_wp2_with fail
      go_ret
      exact ⟨by congr 1, rfl⟩
     ·rw [if_neg h1r] at hF2
      subst hF2
      clear hF HV
      go_wp2_with fail
      go_ret
      exact ⟨rfl, rfl⟩
theorem passes_any_neg (m : Nat) (fan : Int) (w : World) (hm : m ≤ 1073741824) :
  Calls Tryz.prog 28 #[.int .i64 (-(m : Int)), .int .i64 fan] w fun e w' => e = .returned (.int .i64 0) ∧ w = w' := by
 have hI : (-(m : Int)) < 1 := by omega
 go_enter Tryz.func28, Tryz.ntmps28
 go_wp2_with fail
 all_goals (go_ret; exact ⟨rfl, rfl⟩)
set_option maxHeartbeats 4000000 in
set_option maxRecDepth 100000 in
theorem rpasses_any (runs : Nat) (fan : Int) (w : World) (hr : runs ≤ 1073741824) (h1 : -9223372036854775808 ≤ fan) (h2 : fan ≤ 9223372036854775807) :
  Calls Tryz.prog 29 #[.int .i64 (runs : Int), .int .i64 fan] w fun e w' => e = .returned (.int .i64 (passesV runs fan : Nat)) ∧ w = w' := by
 by_cases hr1 : runs < 1
 ·have hv : Hid (passesV runs fan = 0) := by show _ = _; unfold passesV; rw [if_pos (.inl hr1)]
  have hI : (runs : Int) < 1 := by omega
  go_enter Tryz.func29, Tryz.ntmps29
  go_wp2_with fail
  all_goals (go_ret; rw [hv.out]; exact ⟨rfl, rfl⟩)
 ·by_cases hf : fan < 2
  ·have hv : Hid (passesV runs fan = 0) := by show _ = _; unfold passesV; rw [if_pos (.inr hf)]
   have hI : ¬ ((runs : Int) < 1) := by omega
   go_enter Tryz.func29, Tryz.ntmps29
   go_wp2_with fail
   all_goals (go_ret; rw [hv.out]; exact ⟨rfl, rfl⟩)
  ·obtain ⟨f, rfl⟩ : ∃ f : Nat, fan = f := ⟨fan.toNat, by omega⟩
   have hf2 : 2 ≤ f := by omega
   have hv : passesV runs f = passesF f runs runs 0 := by
    unfold passesV
    rw [if_neg (by omega)]
    rfl
   obtain ⟨V, hV⟩ : ∃ V, V = passesF f runs runs 0 := ⟨_, rfl⟩
   rw [hv, ← hV]
   have HV := Lib.hid hV
   have hI : ¬ ((runs : Int) < 1) := by omega
   have hfI : ¬ ((f : Int) < 2) := by omega
   clear hv hV hf
   go_enter Tryz.func29, Tryz.ntmps29
   go_wp2_with fail
   go_loopw [0, 5] (fun vr vn wr => w = wr ∧ ∃ r n d : Nat, 1 ≤ r ∧ r ≤ d ∧ n + r ≤ 1073741824 ∧ vr = .int .i64 (r : Int) ∧ vn = .int .i64 (n : Int) ∧ Hid (passesF f d r n = V)) (fun v _ _ => (intOf v).toNat)
   case atStart => exact ⟨rfl, runs, 0, runs, by omega, by omega, by omega, rfl, by go_num, HV.out.symm⟩
   case round =>
    obtain ⟨rfl, r, n, d, hr3, hrd, hnr, rfl, rfl, hF⟩ := hrel
    by_cases hlt : f < r
    ·obtain ⟨d', rfl⟩ : ∃ d', d = d' + 1 := ⟨d - 1, by omega⟩
     have hst := passes_step hf2 hlt
     have hF2 := hF.out
     rw [passesF, if_pos hlt] at hF2
     have HF2 := Lib.hid hF2
     have e1 : ((r : Int) - 1).tdiv (f : Int) = (((r - 1) / f : Nat) : Int) := by
      rw [Int.tdiv_eq_ediv_of_nonneg (by omega)]
      have : ((r : Int) - 1) = ((r - 1 : Nat) : Int) := by omega
      rw [this]
      exact (Int.natCast_ediv _ _).symm
     obtain ⟨q, hq⟩ : ∃ q, q = (r - 1) / f := ⟨_, rfl⟩
     rw [← hq] at e1 hst HF2
     have e0 : IntKind.i64.wrap ((r : Int) - 1) = (r : Int) - 1 := by rw [IntKind.wrap_i64]; omega
     have e2 : IntKind.i64.wrap (((r : Int) - 1).tdiv (f : Int)) = (q : Int) := by rw [e1, IntKind.wrap_i64]; omega
     have e3 : IntKind.i64.wrap ((q : Int) + 1) = (q : Int) + 1 := by rw [IntKind.wrap_i64]; omega
     have e4 : ¬ ((f : Int) = 0) := by omega
     clear hq hF2 hF
     go_wp2_with fail
     go_roundw
     case rel => exact ⟨by first | rfl | trivial, q + 1, n + 1, d', by omega, by omega, by omega, by go_num, by go_num, HF2⟩
     case measure => simp [intOf]; omega
    ·have hF2 := hF.out
     rw [passesF_end hlt] at hF2
     by_cases h1r : 1 < r
     ·rw [if_pos h1r] at hF2
      subst hF2
      clear hF HV
      go_wp2_with fail
      go_ret
      exact ⟨by congr 1, rfl⟩
     ·rw [if_neg h1r] at hF2
      subst hF2
      clear hF HV
      go_wp2_with fail
      go_ret
      exact ⟨rfl, rfl⟩
structure Few18 (rs : List RowM) : Prop where
 len : rs.length ≤ 60
 may : ∀ r ∈ rs, mayR r = 0
 txt : txts rs ≤ 6000
theorem Few18.row {rs : List RowM} (h : Few18 rs) : ∀ r ∈ rs, rowC r ≤ 6264 ∧ r.length ≤ 32 := fun r hr => by
 obtain ⟨h1, h2⟩ := may_right (h.may r hr)
 have h3 : ∀ r : RowM, rowC r = 8 + 8 * r.length + txtR r := fun r => by
  unfold rowC txtR
  induction r with
  | nil => rfl
  | cons v r ih => simp only [List.map_cons, List.sum_cons, List.length_cons] at ih ⊢; omega
 have h4 : ∀ rs : List RowM, r ∈ rs → txtR r ≤ txts rs := fun rs => by
  induction rs with
  | nil => intro h; cases h
  | cons x rs ih =>
   intro h
   have e : txts (x :: rs) = txtR x + txts rs := by simp [txts]
   rcases List.mem_cons.1 h with rfl | h
   ·omega
   ·have := ih h; omega
 have := h3 r
 have := h4 rs hr
 have := h.txt
 exact ⟨by omega, by omega⟩
theorem Few18.bytes {rs : List RowM} (h : Few18 rs) (hok : ∀ r ∈ rs, ∀ v ∈ r, v.ok) : (rowsB rs).length ≤ 25260 := by
 have := rowsB_le2 h.may hok
 have := h.len
 have := h.txt
 omega
set_option maxHeartbeats 8000000 in
set_option maxRecDepth 100000 in
theorem few18_any (rs : List RowM) (hs : List Value) (n c : Nat) (A : Option Addr) (w : World) (hn : rs.length = n) (hnc : n ≤ c) (hc : c ≤ 9223372036854775807) (hA : Rd w A hs) (hR : Rows w hs rs) :
  Calls Tryz.prog 14 #[.slice A n c] w fun e w' => (∃ k, k ≤ n ∧ Few18 (rs.take k) ∧ e = .returned (.slice A k c)) ∧ Below w.heap.size w w' := by
 have Hn := Lib.hid hn
 clear hn
 go_enter Tryz.func14, Tryz.ntmps14
 go_wp2_with fail
 go_loopw [3, 10] (fun s i wr => ∃ (j z : Nat), j ≤ n ∧ j ≤ 60 ∧ i = .int .i64 j ∧ s = .int .i64 (z : Nat) ∧ z ≤ 6000 ∧ Below w.heap.size w wr ∧ Hid ((∀ r ∈ rs.take j, mayR r = 0) ∧ txts (rs.take j) + z = 6000)) (fun _ i _ => n - (intOf i).toNat)
 case atStart => exact ⟨0, 6000, by omega, by omega, rfl, rfl, by omega, Below.refl _ _, (fun v h => by simp at h), by simp [txts]⟩
 case round =>
  obtain ⟨j, z, hj, hj60, rfl, rfl, hz1, hb, hall⟩ := hrel
  have hfin : Hid (Few18 (rs.take j)) := ⟨by rw [List.length_take]; omega, hall.out.1, by have := hall.out.2; omega⟩
  by_cases hlt : j < n
  ·have hjl : j < rs.length := by rw [Hn.out]; exact hlt
   obtain ⟨b, o, E, d, rfl, c0, hcc, hcm, hrr, hok⟩ := (hR.below hb).hdr (hA.below hb) hjl
   have htk := Lib.hid (List.take_succ_eq_append_getElem (l := rs) (i := j) hjl)
   unfold maxLen at hcm
   clear hok hA hR
   generalize rs[j] = x at *
   generalize hx : x.length = xl at *
   have Hx := Lib.hid hx
   clear hx
   by_cases h60 : 60 ≤ j
   ·go_wp2_with fail
    go_ret
    exact ⟨⟨j, by omega, hfin.out, rfl⟩, hb⟩
   ·by_cases h40 : 40 < xl
    ·go_wp2_with fail
     go_ret
     exact ⟨⟨j, by omega, hfin.out, rfl⟩, hb⟩
    ·have hmy := Lib.hid (may_any x xl d E wr Hx.out hrr (by omega))
     by_cases hm : mayR x = 0
     ·rw [hm] at hmy
      have Hm := Lib.hid hm
      clear hm
      obtain ⟨w1, hw1⟩ : ∃ w1, w1 = wr := ⟨_, rfl⟩
      go_wp2_with fail
      refine hmy.out.mono ?_
      rintro e w2 ⟨rfl, hb2⟩
      have hbm := hb.trans (hb2.mono hb.size)
      have hzw := hbm.size
      have hrr2 := hrr.below hb2
      clear hmy hrr c0 hb hb2 hw1
      go_wp2_with fail
      go_loopw [3, 32] (fun s i wr2 => ∃ (q z2 : Nat), q ≤ xl ∧ i = .int .i64 q ∧ s = .int .i64 (z2 : Nat) ∧ z2 ≤ 6000 ∧ Below w2.heap.size w2 wr2 ∧ Hid (txtR (x.take q) + z2 = z)) (fun _ i _ => xl - (intOf i).toNat)
      case atStart => exact ⟨0, z, by omega, rfl, rfl, by omega, Below.refl _ _, by show _ = _; simp [txtR]⟩
      case round =>
       obtain ⟨q, z2, hq, rfl, rfl, hz2, hbq, htx⟩ := hrel
       have hbwr := hbm.trans (hbq.mono hzw)
       by_cases hlq : q < xl
       ·have hql : q < x.length := by rw [Hx.out]; exact hlq
        obtain ⟨g, o2, rfl, d0, d1, d2⟩ := row_cells (hrr2.below hbq) hql
        have htq := Lib.hid (List.take_succ_eq_append_getElem (l := x) (i := q) hql)
        generalize x[q] = v at *
        obtain ⟨vk, vn, vs⟩ := v
        dsimp only at d0 d1 d2
        have hsz := St8_size vs
        obtain ⟨wq, rfl⟩ : ∃ x : World, x = wr := ⟨_, rfl⟩
        have hbx : Below wq.heap.size wq (wq.alloc (.cells #[.int .u8 vk, .int .i64 vn, .string (St8 vs)] 38)) := (Below.refl _ _).alloc (Nat.le_refl _) _
        by_cases h200 : 300 < vs.length
        ·go_wp2_with fail
         go_ret
         exact ⟨⟨j, by omega, hfin.out, rfl⟩, hbwr.trans (hbx.mono hbwr.size)⟩
        ·by_cases hvz : z2 < vs.length
         ·go_wp2_with fail
          go_ret
          exact ⟨⟨j, by omega, hfin.out, rfl⟩, hbwr.trans (hbx.mono hbwr.size)⟩
         ·go_wp2_with fail
          go_roundw
          case rel =>
           refine ⟨q + 1, z2 - vs.length, by omega, by go_num, by go_num, by omega, hbq.trans (hbx.mono hbq.size), ?_⟩
           show _ = _
           rw [htq.out, txtR_snoc]
           have := htx.out
           show _ + vs.length + _ = _
           omega
          case measure => simp [intOf]; omega
       ·obtain rfl : q = xl := by omega
        have hsm : Hid (txtR x + z2 = z) := by
         have := htx.out
         rwa [List.take_of_length_le (by rw [Hx.out]; exact Nat.le_refl _)] at this
        go_wp2_with fail
        go_roundw
        case rel =>
         refine ⟨j + 1, z2, by omega, by omega, by go_num, rfl, hz2, hbwr, fun r hr => ?_, ?_⟩
         ·rw [htk.out] at hr
          rcases List.mem_append.1 hr with hr | hr
          ·exact hall.out.1 r hr
          ·rw [List.mem_singleton.1 hr]; exact Hm.out
         ·rw [htk.out, txts_snoc]
          have := hall.out.2; have := hsm.out; omega
        case measure => simp [intOf]; omega
     ·have hne : (mayR x == 0) = false := beq_eq_false_iff_ne.2 hm
      have hne2 : (mayR x != 0) = true := by simp [hm]
      generalize mayR x = m at *
      clear hm
      go_wp2_with fail
      refine hmy.out.mono ?_
      rintro e w2 ⟨rfl, hb2⟩
      have hbm := hb.trans (hb2.mono hb.size)
      clear hmy hb2
      go_wp2_with fail
      go_ret
      exact ⟨⟨j, by omega, hfin.out, rfl⟩, hbm⟩
  ·obtain rfl : j = n := by omega
   go_wp2_with fail
   go_ret
   exact ⟨⟨j, by omega, hfin.out, rfl⟩, hb⟩
theorem some18_any (n c : Nat) (A : Option Addr) (w : World) (hnc : n ≤ c) (hc : c ≤ 9223372036854775807) :
  Calls Tryz.prog 15 #[.slice A n c] w fun e w' => e = .returned (.slice A (min n 10) c) ∧ w = w' := by
 by_cases h : n ≤ 10
 ·rw [Nat.min_eq_left h]
  have hI : (n : Int) ≤ 10 := by omega
  go_enter Tryz.func15, Tryz.ntmps15
  go_wp2_with fail
  all_goals (go_ret; exact ⟨rfl, rfl⟩)
 ·rw [Nat.min_eq_right (by omega)]
  have hI : ¬ ((n : Int) ≤ 10) := by omega
  go_enter Tryz.func15, Tryz.ntmps15
  go_wp2_with fail
  all_goals (go_ret; exact ⟨rfl, rfl⟩)
set_option maxHeartbeats 8000000 in
set_option maxRecDepth 100000 in
theorem great18_any (rs : List RowM) (hs : List Value) (n c : Nat) (A : Option Addr) (w : World) (hn : rs.length = n) (hA : Rd w A hs) (hR : Rows w hs rs) (hn1 : n ≤ 1000000) (M : Nat) (hM : M ≤ 1000000000000) (hrw : ∀ r ∈ rs, rowC r ≤ M ∧ r.length ≤ 1000000) :
  Calls Tryz.prog 16 #[.slice A n c] w fun e w' => ∃ g : Nat, e = .returned (.int .i64 (g : Int)) ∧ (∀ r ∈ rs, rowC r ≤ g) ∧ g ≤ M ∧ Below w.heap.size w w' := by
 have Hn := Lib.hid hn
 have HA := Lib.hid hA
 have HR := Lib.hid hR
 have Hrw := Lib.hid hrw
 clear hn hA hR hrw
 go_enter Tryz.func16, Tryz.ntmps16
 go_wp2_with fail
 go_loopw [3, 8] (fun vg vi wr => ∃ j g : Nat, j ≤ n ∧ g ≤ M ∧ vi = .int .i64 (j : Int) ∧ vg = .int .i64 (g : Int) ∧ Hid (∀ r ∈ rs.take j, rowC r ≤ g) ∧ Hid (Below w.heap.size w wr)) (fun _ i _ => n - (intOf i).toNat)
 case atStart => exact ⟨0, 0, by omega, by omega, by go_num, by go_num, (fun r h => by simp at h), Below.refl _ _⟩
 case round =>
  obtain ⟨j, g, hj, hg, rfl, rfl, hG, Hb⟩ := hrel
  by_cases hlt : j < n
  ·obtain ⟨r, hr⟩ : ∃ r, rs[j]? = some r := ⟨_, List.getElem?_eq_getElem (by rw [Hn.out]; exact hlt)⟩
   obtain ⟨b, o, E, d, rfl, c0, hE⟩ := rows_at (HA.out.below Hb.out) (HR.out.below Hb.out) hr
   obtain ⟨hr1, hr2⟩ := Hrw.out r (List.mem_of_getElem? hr)
   have hcall := Lib.hid (rrow6_any r r.length d E wr rfl hE (by omega) (by omega))
   have hts := Lib.hid (take_snoc hr).1
   obtain ⟨RL, hRL⟩ : ∃ L, L = r.length := ⟨_, rfl⟩
   obtain ⟨C, hC⟩ : ∃ C, C = rowC r := ⟨_, rfl⟩
   rw [← hRL] at c0 hcall
   rw [← hC] at hcall hr1
   have HC := Lib.hid hC
   clear hE hRL hC hr2 hr
   by_cases hgc : g ≤ C
   ·have hI : (g : Int) ≤ (C : Int) := by omega
    have hI2 : ¬ ((C : Int) < (g : Int)) := by omega
    go_wp2_with fail
    refine hcall.out.mono ?_
    rintro e w2 ⟨rfl, hb2⟩
    have Hb2 := Lib.hid (Hb.out.trans (hb2.mono Hb.out.size))
    clear hb2 hcall
    go_wp2_with fail
    all_goals go_roundw
    case rel =>
     refine ⟨j + 1, C, by omega, hr1, by go_num, by first | rfl | (congr 1; omega), fun x hx => ?_, Hb2⟩
     rw [hts.out] at hx
     rcases List.mem_append.1 hx with hx | hx
     ·have := hG.out x hx; omega
     ·rw [List.mem_singleton.1 hx, ← HC.out]; exact Nat.le_refl _
    case measure => simp [intOf]; omega
   ·have hI : ¬ ((g : Int) ≤ (C : Int)) := by omega
    have hI2 : (C : Int) < (g : Int) := by omega
    go_wp2_with fail
    refine hcall.out.mono ?_
    rintro e w2 ⟨rfl, hb2⟩
    have Hb2 := Lib.hid (Hb.out.trans (hb2.mono Hb.out.size))
    clear hb2 hcall
    go_wp2_with fail
    all_goals go_roundw
    case rel =>
     refine ⟨j + 1, g, by omega, hg, by go_num, by first | rfl | (congr 1; omega), fun x hx => ?_, Hb2⟩
     rw [hts.out] at hx
     rcases List.mem_append.1 hx with hx | hx
     ·exact hG.out x hx
     ·rw [List.mem_singleton.1 hx, ← HC.out]; omega
    case measure => simp [intOf]; omega
  ·obtain rfl : n = j := by omega
   have hfin : Hid (∀ r ∈ rs, rowC r ≤ g) := fun r hr => hG.out r (by rw [List.take_of_length_le (by rw [Hn.out]; exact Nat.le_refl _)]; exact hr)
   go_wp2_with fail
   go_ret
   exact ⟨g, rfl, hfin.out, hg, Hb.out⟩
end Go.Proofs.YtcadjekcdokkjaaGreat
namespace Go.Proofs.YtcadjekcdokkjaaGreat
set_option linter.unusedVariables false
set_option linter.unusedSimpArgs false
open Go.RowKit
attribute [local go_sem ↓] Go.wp_at_zero Go.wp_at_succ
def nil0 (v : Va) : Va := if v.k = 0 then Va.nil else v
theorem cmpVa_nil0 {x y : Va} (hx : 0 ≤ x.k) (hy : 0 ≤ y.k) : cmpVa (nil0 x) (nil0 y) = oneV x y := by
 unfold nil0 oneV
 by_cases h1 : x.k = 0
 ·by_cases h2 : y.k = 0
  ·rw [if_pos h1, if_pos h2, if_pos ⟨h1, h2⟩]; rfl
  ·rw [if_pos h1, if_neg h2, if_neg (fun h => h2 h.2), if_pos h1]
   unfold cmpVa or3 cmpI
   have : (0 : Int) < y.k := by omega
   simp [Va.nil, this]
 ·by_cases h2 : y.k = 0
  ·rw [if_neg h1, if_pos h2, if_neg (fun h => h1 h.1), if_neg h1, if_pos h2]
   unfold cmpVa or3 cmpI
   have h3 : (0 : Int) < x.k := by omega
   have h4 : ¬ x.k < 0 := by omega
   simp [Va.nil, h3, h4]
  ·rw [if_neg h1, if_neg h2, if_neg (fun h => h1 h.1), if_neg h1, if_neg h2]
set_option maxHeartbeats 4000000 in
set_option maxRecDepth 100000 in
theorem rcmp_any (x y : Va) (w : World) : Calls Tryz.prog 69 #[x.agg, y.agg] w fun e w' => e = .returned (.int .i64 (cmpVa x y)) ∧ Below w.heap.size w w' := by
 have hv : Hid (cmpVa x y = or3 (cmpI x.k y.k) (cmpI x.n y.n) (cmpS x.s y.s)) := rfl
 generalize cmpVa x y = C at *
 obtain ⟨k, n, s⟩ := x
 obtain ⟨k', n', s'⟩ := y
 unfold Va.agg
 dsimp only at *
 have hb : Below w.heap.size w ((w.alloc (.cells #[.int .u8 k, .int .i64 n, .string (St8 s)] 38)).alloc (.cells #[.int .u8 k', .int .i64 n', .string (St8 s')] 38)) := by go_grown
 have e1 : Op.bytesLess (St8 s).toList (St8 s').toList = Op.bytesLess s s' := by rw [St8_list, St8_list]
 obtain ⟨bl, hbl⟩ : ∃ bl, Op.bytesLess s s' = bl := ⟨_, rfl⟩
 rw [hbl] at e1
 rcases va_cases k n s k' n' s' with ⟨rfl, rfl, rfl⟩ | h | ⟨rfl, h⟩ | ⟨rfl, rfl, h⟩
 ·have hC : Hid (C = 0) := by show _ = _; rw [hv.out]; simp [or3, cmpI, (cmpS_zero s s).2 rfl]
  have h2 := St8_cmp s s
  rw [decide_eq_true rfl] at h2
  go_enter Tryz.func69, Tryz.ntmps69
  go_wp2_with fail
  go_ret
  rw [hC.out]
  exact ⟨rfl, hb⟩
 ·have hC : Hid (C = if k < k' then -1 else 1) := by show _ = _; rw [hv.out]; unfold or3 cmpI; split <;> (try split) <;> (first | omega | simp_all)
  have hne : (k == k') = false := by simp [h]
  by_cases hlt : k < k'
  ·rw [if_pos hlt] at hC
   go_enter Tryz.func69, Tryz.ntmps69
   go_wp2_with fail
   all_goals (go_ret; rw [hC.out]; exact ⟨rfl, hb⟩)
  ·rw [if_neg hlt] at hC
   go_enter Tryz.func69, Tryz.ntmps69
   go_wp2_with fail
   all_goals (go_ret; rw [hC.out]; exact ⟨rfl, hb⟩)
 ·have hC : Hid (C = if n < n' then -1 else 1) := by show _ = _; rw [hv.out]; unfold or3 cmpI; simp only [Int.lt_irrefl, if_false, ne_eq, not_true_eq_false]; split <;> (try split) <;> (first | omega | simp_all)
  by_cases hlt : n < n'
  ·rw [if_pos hlt] at hC
   go_enter Tryz.func69, Tryz.ntmps69
   go_wp2_with fail
   go_ret
   rw [hC.out]
   exact ⟨rfl, hb⟩
  ·rw [if_neg hlt] at hC
   go_enter Tryz.func69, Tryz.ntmps69
   go_wp2_with fail
   go_ret
   rw [hC.out]
   exact ⟨rfl, hb⟩
 ·have hC : Hid (C = if bl = true then -1 else 1) := by show _ = _; rw [hv.out]; unfold or3 cmpI cmpS; rw [hbl]; simp [h]
  have h1 : ¬ St8 s = St8 s' := fun e => h (St8_inj e)
  have h2 := St8_cmp s s'
  have h3 := St8_eq s s'
  rw [decide_eq_false h] at h2 h3
  cases bl with
  | true =>
   go_enter Tryz.func69, Tryz.ntmps69
   go_wp2_with fail
   go_ret
   rw [hC.out]
   exact ⟨rfl, hb⟩
  | false =>
   go_enter Tryz.func69, Tryz.ntmps69
   go_wp2_with fail
   go_ret
   rw [hC.out]
   exact ⟨rfl, hb⟩
set_option maxRecDepth 100000 in
theorem rat_any (r : RowM) (A : Option Addr) (n c : Nat) (col : Int) (w : World) (hn : r.length = n) (hr : Rd w A (rcells r)) :
  Calls Tryz.prog 68 #[.slice A n c, .int .i64 col] w fun e w' => e = .returned (nil0 (colAt r col)).agg ∧ Below w.heap.size w w' := by
 by_cases h0 : col < 0
 ·have hv : Hid (nil0 (colAt r col) = Va.nil) := by show _ = _; unfold colAt; rw [if_pos (.inl h0)]; rfl
  go_enter Tryz.func68, Tryz.ntmps68
  go_wp2_with fail
  go_returns
  rw [hv.out]
  refine ⟨rfl, ?_⟩
  go_grown
 ·obtain ⟨k, rfl⟩ := Int.eq_ofNat_of_zero_le (show 0 ≤ col by omega)
  by_cases h1 : n ≤ k
  ·have hv : Hid (nil0 (colAt r (k : Int)) = Va.nil) := by show _ = _; unfold colAt; rw [if_pos (.inr (by omega))]; rfl
   go_enter Tryz.func68, Tryz.ntmps68
   go_wp2_with fail
   go_returns
   rw [hv.out]
   exact ⟨rfl, by go_grown⟩
  ·have hk : k < r.length := by omega
   have hv : Hid (colAt r (k : Int) = r[k]) := by
    show _ = _
    unfold colAt
    rw [if_neg (by omega), Int.toNat_natCast, List.getD, List.getElem?_eq_getElem hk]
    rfl
   obtain ⟨b, o, rfl, c0, c1, c2⟩ := row_cells (hr.alloc (.cells #[.int .u8 0, .int .i64 0, .string ⟨#[]⟩] 38)) hk
   have hkn : k < n := by omega
   clear hn hr
   generalize r[k] = v at *
   by_cases hk0 : v.k = 0
   ·have hv2 : Hid (nil0 (colAt r (k : Int)) = Va.nil) := by show _ = _; rw [hv.out]; unfold nil0; rw [if_pos hk0]
    rw [hk0] at c0
    clear hk0
    go_enter Tryz.func68, Tryz.ntmps68
    go_wp2_with fail
    go_returns
    rw [hv2.out]
    exact ⟨rfl, by go_grown⟩
   ·have hv2 : Hid (nil0 (colAt r (k : Int)) = v) := by show _ = _; rw [hv.out]; unfold nil0; rw [if_neg hk0]
    have hne : (v.k == 0) = false := by simp [hk0]
    go_enter Tryz.func68, Tryz.ntmps68
    go_wp2_with fail
    go_returns
    rw [hv2.out]
    exact ⟨rfl, by go_grown⟩
theorem colAt_ok {r : RowM} (h : ∀ v ∈ r, v.ok) (c : Int) : (colAt r c).ok := by
 unfold colAt
 split
 ·exact Va.nil_ok
 ·rw [List.getD]
  cases e : r[c.toNat]? with
  | none => exact Va.nil_ok
  | some v => exact h v (List.mem_of_getElem? e)
theorem cmpVa_vals (x y : Va) : cmpVa x y = -1 ∨ cmpVa x y = 0 ∨ cmpVa x y = 1 := by
 have hI : ∀ a b : Int, cmpI a b = -1 ∨ cmpI a b = 0 ∨ cmpI a b = 1 := fun a b => by
  unfold cmpI
  split
  ·exact .inl rfl
  ·split
   ·exact .inr (.inr rfl)
   ·exact .inr (.inl rfl)
 have hS : cmpS x.s y.s = -1 ∨ cmpS x.s y.s = 0 ∨ cmpS x.s y.s = 1 := by
  unfold cmpS
  split <;> (try split) <;> first | exact .inl rfl | exact .inr (.inl rfl) | exact .inr (.inr rfl)
 unfold cmpVa or3
 split
 ·exact hI _ _
 ·split
  ·exact hI _ _
  ·exact hS
theorem cmpVa_flip (x y : Va) : cmpVa y x = -cmpVa x y := by
 have h1 := cmpVa_vals x y
 have h2 := cmpVa_vals y x
 have h3 := cmpVa_cmp.flip x y
 have h4 := cmpVa_cmp.flip y x
 omega
theorem oneD_ref {x y : Va} (hx : 0 ≤ x.k) (hy : 0 ≤ y.k) (down : Bool) : oneD x y down = if down = true ∧ (nil0 x).k ≠ 0 ∧ (nil0 y).k ≠ 0 then -cmpVa (nil0 x) (nil0 y) else cmpVa (nil0 x) (nil0 y) := by
 rw [cmpVa_nil0 hx hy]
 have hn : ∀ v : Va, (nil0 v).k = v.k := fun v => by
  unfold nil0
  split
  ·rename_i h; rw [h]; rfl
  ·rfl
 rw [hn, hn]
 unfold oneD oneV
 cases down with
 | false => simp
 | true =>
  by_cases h1 : x.k = 0
  ·simp [h1]
  ·by_cases h2 : y.k = 0
   ·simp [h1, h2]
   ·simp only [h1, h2, and_self, if_false, ne_eq, not_false_eq_true, if_true, and_true, false_and]
    exact cmpVa_flip x y
theorem cmpVa_wrap (x y : Va) : IntKind.i64.wrap (-cmpVa x y) = -cmpVa x y := by
 have := cmpVa_vals x y
 rw [IntKind.wrap_i64]
 omega
set_option maxHeartbeats 8000000 in
set_option maxRecDepth 100000 in
theorem rcmp15_k (x y : RowM) (xl xc yl yc : Nat) (X Y : Option Addr) (KA : Option Addr) (kn kc : Nat) (ks : List Ky) (w : World) (hx : x.length = xl) (hy : y.length = yl) (hX : Rd w X (rcells x)) (hY : Rd w Y (rcells y)) (hxo : ∀ v ∈ x, v.ok) (hyo : ∀ v ∈ y, v.ok) (hlen : ks.length = kn) (hK : Rd w KA (kyc ks)) (hn : kn ≤ 1000000) :
  Calls Tryz.prog 45 #[.slice X xl xc, .slice Y yl yc, .slice KA kn kc] w fun e w' => e = .returned (.int .i64 (cmpR ks x y)) ∧ Below w.heap.size w w' := by
 have hax := Lib.hid (fun col w' (h : Rd w' X (rcells x)) => rat_any x X xl xc col w' hx h)
 have hay := Lib.hid (fun col w' (h : Rd w' Y (rcells y)) => rat_any y Y yl yc col w' hy h)
 have HX := Lib.hid hX
 have HY := Lib.hid hY
 have HK := Lib.hid hK
 have Hlen := Lib.hid hlen
 have Hxo := Lib.hid hxo
 have Hyo := Lib.hid hyo
 clear hx hy hX hY hlen hK hxo hyo
 go_enter Tryz.func45, Tryz.ntmps45
 go_wp2_with fail
 go_loopw [7] (fun i wr => ∃ j : Nat, j ≤ kn ∧ i = .int .i64 j ∧ Hid (Below w.heap.size w wr) ∧ Hid (cmpR ks x y = cmpR (ks.drop j) x y)) (fun i _ => kn - (intOf i).toNat)
 case atStart => exact ⟨0, by omega, rfl, Below.refl _ _, by rw [List.drop_zero]; rfl⟩
 case round =>
  obtain ⟨j, hj, rfl, Hb, Hr⟩ := hrel
  by_cases hlt : j < kn
  ·have hjl : j < ks.length := by rw [Hlen.out]; exact hlt
   obtain ⟨b, o, rfl, c0, c1⟩ := (HK.out.below Hb.out).ky hjl
   have hat := cmpR_at (x := x) (y := y) hjl
   generalize ks[j].col = col at *
   generalize ks[j].down = down at *
   rw [oneD_ref (colAt_ok Hxo.out col).k.1 (colAt_ok Hyo.out col).k.1 down] at hat
   have hax1 := Lib.hid (hax.out col)
   have hay1 := Lib.hid (hay.out col)
   have hcm := Lib.hid (fun w' => rcmp_any (nil0 (colAt x col)) (nil0 (colAt y col)) w')
   have hwr := cmpVa_wrap (nil0 (colAt x col)) (nil0 (colAt y col))
   obtain ⟨R, hR⟩ : ∃ R, R = cmpVa (nil0 (colAt x col)) (nil0 (colAt y col)) := ⟨_, rfl⟩
   rw [← hR] at hat hcm hwr
   clear hR hax hay
   generalize nil0 (colAt x col) = vx at *
   generalize nil0 (colAt y col) = vy at *
   obtain ⟨a1, a2, a3⟩ := vx
   obtain ⟨b1, b2, b3⟩ := vy
   unfold Va.agg at hax1 hay1 hcm
   dsimp only at hax1 hay1 hcm hat
   obtain ⟨D, hD⟩ : ∃ D, D = (if down = true ∧ a1 ≠ 0 ∧ b1 ≠ 0 then -R else R) := ⟨_, rfl⟩
   rw [← hD] at hat
   have Hat := Lib.hid hat
   have HDv := Lib.hid hD
   clear hD
   have hzr := Hb.out.size
   have HYr := Lib.hid (HY.out.below Hb.out)
   clear hat
   go_wp2_with fail
   refine (hax1.out _ (HX.out.below Hb.out)).mono ?_
   rintro e w3 ⟨rfl, hb3⟩
   have hbA := hb3.alloc hb3.size (.cells #[.int .u8 a1, .int .i64 a2, .string (St8 a3)] 38)
   have q0 := cell_keep hbA c0
   have q1 := cell_keep hbA c1
   have HYA := Lib.hid (HYr.out.below hbA)
   have Hb3 := Lib.hid hb3
   have HbA := Lib.hid hbA
   clear hb3 hbA
   go_wp2_with fail
   refine (hay1.out _ HYA.out).mono ?_
   rintro e w4 ⟨rfl, hb4⟩
   have hk1 := ((Blk.new w3 38 #[.int .u8 a1, .int .i64 a2, .string (St8 a3)]).below hb4).alloc (.cells #[.int .u8 b1, .int .i64 b2, .string (St8 b3)] 38)
   have z0 := hk1.cell 0
   have z1 := hk1.cell 1
   have z2 := hk1.cell 2
   simp only [List.getElem?_cons_zero, List.getElem?_cons_succ] at z0 z1 z2
   have hk2 := Blk.new w4 38 #[.int .u8 b1, .int .i64 b2, .string (St8 b3)]
   have y0 := hk2.cell 0
   have y1 := hk2.cell 1
   have y2 := hk2.cell 2
   simp only [List.getElem?_cons_zero, List.getElem?_cons_succ] at y0 y1 y2
   have HbW := Lib.hid ((HbA.out.trans (hb4.mono HbA.out.size)).alloc (HbA.out.trans (hb4.mono HbA.out.size)).size (.cells #[.int .u8 b1, .int .i64 b2, .string (St8 b3)] 38))
   have m0 := cell_keep HbW.out c0
   have m1 := cell_keep HbW.out c1
   clear hb4 HbA Hb3 HYA q0 q1 hk1 hk2
   go_wp2_with fail
   refine (hcm.out _).mono ?_
   rintro e w5 ⟨rfl, hb5⟩
   have Hb5 := Lib.hid (Hb.out.trans ((HbW.out.trans (hb5.mono HbW.out.size)).mono hzr))
   have n1 := cell_keep hb5 m1
   have x0 := cell_keep hb5 z0
   have v0 := cell_keep hb5 y0
   clear z0 z1 z2 y0 y1 y2 HbW m0 m1 hb5 hcm hax1 hay1 c0 c1
   by_cases hd : down = true ∧ a1 ≠ 0 ∧ b1 ≠ 0
   ·have HDD : Hid (D = -R) := by show _ = _; rw [HDv.out, if_pos hd]
    obtain ⟨rfl, ha, hb⟩ := hd
    have ha2 : (a1 != 0) = true := by simp [ha]
    have hb2 : (b1 != 0) = true := by simp [hb]
    clear ha hb HDv
    by_cases hR : R = 0
    ·have hr1 : Hid (cmpR ks x y = cmpR (ks.drop (j + 1)) x y) := by
      show _ = _
      rw [Hr.out, Hat.out, if_neg (fun h => h (by rw [HDD.out]; omega))]
     subst hR
     clear Hat Hr HDD
     go_wp2_with fail
     go_roundw
     case rel => exact ⟨j + 1, by omega, by go_num, Hb5, hr1.out⟩
     case measure => simp [intOf]; omega
    ·have hRn : (-R != 0) = true := by simp; omega
     have hRn2 : (R != 0) = true := by simp; omega
     have hr1 : Hid (cmpR ks x y = -R) := by
      show _ = _
      rw [Hr.out, Hat.out, HDD.out, if_pos (by omega)]
     clear Hat Hr HDD
     go_wp2_with fail
     go_ret
     rw [hr1.out]
     exact ⟨rfl, Hb5.out⟩
   ·have HDD : Hid (D = R) := by show _ = _; rw [HDv.out, if_neg hd]
    have h3 : down = false ∨ (down = true ∧ a1 = 0) ∨ (down = true ∧ a1 ≠ 0 ∧ b1 = 0) := by
     cases down with
     | false => exact .inl rfl
     | true =>
      by_cases ha : a1 = 0
      ·exact .inr (.inl ⟨rfl, ha⟩)
      ·by_cases hb : b1 = 0
       ·exact .inr (.inr ⟨rfl, ha, hb⟩)
       ·exact absurd ⟨rfl, ha, hb⟩ hd
    clear hd HDv
    rcases h3 with rfl | ⟨rfl, rfl⟩ | ⟨rfl, ha, rfl⟩
    ·by_cases hR : R = 0
     ·have hr1 : Hid (cmpR ks x y = cmpR (ks.drop (j + 1)) x y) := by
       show _ = _
       rw [Hr.out, Hat.out, if_neg (fun h => h (by rw [HDD.out]; omega))]
      subst hR
      clear Hat Hr HDD
      go_wp2_with fail
      go_roundw
      case rel => exact ⟨j + 1, by omega, by go_num, Hb5, hr1.out⟩
      case measure => simp [intOf]; omega
     ·have hRn : (-R != 0) = true := by simp; omega
      have hRn2 : (R != 0) = true := by simp; omega
      have hr1 : Hid (cmpR ks x y = R) := by
       show _ = _
       rw [Hr.out, Hat.out, HDD.out, if_pos (by omega)]
      clear Hat Hr HDD
      go_wp2_with fail
      go_ret
      rw [hr1.out]
      exact ⟨rfl, Hb5.out⟩
    ·by_cases hR : R = 0
     ·have hr1 : Hid (cmpR ks x y = cmpR (ks.drop (j + 1)) x y) := by
       show _ = _
       rw [Hr.out, Hat.out, if_neg (fun h => h (by rw [HDD.out]; omega))]
      subst hR
      clear Hat Hr HDD
      go_wp2_with fail
      go_roundw
      case rel => exact ⟨j + 1, by omega, by go_num, Hb5, hr1.out⟩
      case measure => simp [intOf]; omega
     ·have hRn : (-R != 0) = true := by simp; omega
      have hRn2 : (R != 0) = true := by simp; omega
      have hr1 : Hid (cmpR ks x y = R) := by
       show _ = _
       rw [Hr.out, Hat.out, HDD.out, if_pos (by omega)]
      clear Hat Hr HDD
      go_wp2_with fail
      go_ret
      rw [hr1.out]
      exact ⟨rfl, Hb5.out⟩
    ·have ha2 : (a1 != 0) = true := by simp [ha]
     clear ha
     by_cases hR : R = 0
     ·have hr1 : Hid (cmpR ks x y = cmpR (ks.drop (j + 1)) x y) := by
       show _ = _
       rw [Hr.out, Hat.out, if_neg (fun h => h (by rw [HDD.out]; omega))]
      subst hR
      clear Hat Hr HDD
      go_wp2_with fail
      go_roundw
      case rel => exact ⟨j + 1, by omega, by go_num, Hb5, hr1.out⟩
      case measure => simp [intOf]; omega
     ·have hRn : (-R != 0) = true := by simp; omega
      have hRn2 : (R != 0) = true := by simp; omega
      have hr1 : Hid (cmpR ks x y = R) := by
       show _ = _
       rw [Hr.out, Hat.out, HDD.out, if_pos (by omega)]
      clear Hat Hr HDD
      go_wp2_with fail
      go_ret
      rw [hr1.out]
      exact ⟨rfl, Hb5.out⟩
  ·have hr1 : Hid (cmpR ks x y = 0) := by
    show _ = _
    rw [Hr.out, List.drop_eq_nil_of_le (by rw [Hlen.out]; omega)]
    rfl
   clear Hr
   go_wp2_with fail
   go_ret
   rw [hr1.out]
   exact ⟨rfl, Hb.out⟩
end Go.Proofs.YtcadjekcdokkjaaGreat
