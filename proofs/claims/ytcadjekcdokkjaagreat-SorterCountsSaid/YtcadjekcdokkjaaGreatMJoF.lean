/- Walks: which values and rows may be laid; the first rows of a list. -/
import Derived.Test.YtcadjekcdokkjaaGreatMJoMW
namespace Go.Proofs.YtcadjekcdokkjaaGreat
set_option linter.unusedVariables false
set_option linter.unusedSimpArgs false
open Go.RowKit
attribute [local go_sem ↓] Go.wp_at_zero Go.wp_at_succ
def rightV (v : Va) : Bool :=
 if v.k = 0 then decide (v.n = 0 ∧ v.s = []) else if v.k = 1 then decide ((v.n = 0 ∨ v.n = 1) ∧ v.s = []) else if v.k = 2 then decide (v.s = []) else if v.k = 3 then decide (v.n = 0 ∧ v.s.length ≤ 1024) else false
def mayR (r : RowM) : Int := if 32 < r.length then 3 else if r.all rightV then 0 else 7
theorem St8_nil_cmp (s : List UInt8) : ((St8 s).toList == (⟨#[]⟩ : ByteArray).toList) = decide (s = []) := St8_cmp s []
theorem St8_empty (s : List UInt8) : (St8 s).toList.isEmpty = decide (s = []) := by
 rw [St8_list]
 cases s <;> simp
theorem St8_nil_eq (s : List UInt8) : (St8 s == ⟨#[]⟩) = decide (s = []) := St8_eq s []
theorem St8_nil_iff (s : List UInt8) : (St8 s = ⟨#[]⟩) ↔ s = [] := ⟨fun h => St8_inj (m := []) h, fun h => by rw [h]; rfl⟩
set_option maxHeartbeats 4000000 in
set_option maxRecDepth 100000 in
theorem right_any (v : Va) (w : World) : Calls Tryz.prog 65 #[v.agg] w fun e w' => e = .returned (.bool (rightV v)) ∧ Below w.heap.size w w' := by
 have e1 := St8_nil_cmp v.s
 have e2 := St8_nil_eq v.s
 have e3 := St8_nil_iff v.s
 have e4 := St8_size v.s
 have e5 := St8_empty v.s
 have hv : Hid (rightV v = if v.k = 0 then decide (v.n = 0 ∧ v.s = []) else if v.k = 1 then decide ((v.n = 0 ∨ v.n = 1) ∧ v.s = []) else if v.k = 2 then decide (v.s = []) else if v.k = 3 then decide (v.n = 0 ∧ v.s.length ≤ 1024) else false) := rfl
 obtain ⟨k, n, s⟩ := v
 unfold Va.agg
 dsimp only at *
 generalize rightV ⟨k, n, s⟩ = R at *
 by_cases h0 : k = 0
 ·subst h0
  by_cases hn : n = 0
  ·subst hn
   by_cases hs : s = []
   ·rw [decide_eq_true hs] at e1 e2 e5
    have e3 := e3.2 hs
    subst hs
    have hv' : Hid (R = true) := by show _ = _; rw [hv.out]; simp
    clear hv
    go_enter Tryz.func65, Tryz.ntmps65
    go_wp2_with fail
    go_returns
    rw [hv'.out]
    exact ⟨rfl, by go_grown⟩
   ·rw [decide_eq_false hs] at e1 e2 e5
    have e3 := fun h => hs (e3.1 h)
    have hv' : Hid (R = false) := by show _ = _; rw [hv.out]; simp [Nat.le_refl, hs]
    clear hv
    go_enter Tryz.func65, Tryz.ntmps65
    go_wp2_with fail
    go_returns
    rw [hv'.out]
    exact ⟨rfl, by go_grown⟩
  ·have hv' : Hid (R = false) := by show _ = _; rw [hv.out]; simp [hn]
   clear hv
   go_enter Tryz.func65, Tryz.ntmps65
   go_wp2_with fail
   go_returns
   rw [hv'.out]
   exact ⟨rfl, by go_grown⟩
 ·by_cases h1 : k = 1
  ·subst h1
   by_cases hn : n = 0
   ·subst hn
    by_cases hs : s = []
    ·rw [decide_eq_true hs] at e1 e2 e5
     have e3 := e3.2 hs
     subst hs
     have hv' : Hid (R = true) := by show _ = _; rw [hv.out]; simp
     clear hv
     go_enter Tryz.func65, Tryz.ntmps65
     go_wp2_with fail
     go_returns
     rw [hv'.out]
     exact ⟨rfl, by go_grown⟩
    ·rw [decide_eq_false hs] at e1 e2 e5
     have e3 := fun h => hs (e3.1 h)
     have hv' : Hid (R = false) := by show _ = _; rw [hv.out]; simp [Nat.le_refl, hs]
     clear hv
     go_enter Tryz.func65, Tryz.ntmps65
     go_wp2_with fail
     go_returns
     rw [hv'.out]
     exact ⟨rfl, by go_grown⟩
   ·by_cases hn1 : n = 1
    ·subst hn1
     by_cases hs : s = []
     ·rw [decide_eq_true hs] at e1 e2 e5
      have e3 := e3.2 hs
      subst hs
      have hv' : Hid (R = true) := by show _ = _; rw [hv.out]; simp
      clear hv
      go_enter Tryz.func65, Tryz.ntmps65
      go_wp2_with fail
      go_returns
      rw [hv'.out]
      exact ⟨rfl, by go_grown⟩
     ·rw [decide_eq_false hs] at e1 e2 e5
      have e3 := fun h => hs (e3.1 h)
      have hv' : Hid (R = false) := by show _ = _; rw [hv.out]; simp [Nat.le_refl, hs]
      clear hv
      go_enter Tryz.func65, Tryz.ntmps65
      go_wp2_with fail
      go_returns
      rw [hv'.out]
      exact ⟨rfl, by go_grown⟩
    ·have hv' : Hid (R = false) := by show _ = _; rw [hv.out]; simp [hn, hn1]
     clear hv
     go_enter Tryz.func65, Tryz.ntmps65
     go_wp2_with fail
     go_returns
     rw [hv'.out]
     exact ⟨rfl, by go_grown⟩
  ·by_cases h2 : k = 2
   ·subst h2
    by_cases hs : s = []
    ·rw [decide_eq_true hs] at e1 e2 e5
     have e3 := e3.2 hs
     subst hs
     have hv' : Hid (R = true) := by show _ = _; rw [hv.out]; simp
     clear hv
     go_enter Tryz.func65, Tryz.ntmps65
     go_wp2_with fail
     go_returns
     rw [hv'.out]
     exact ⟨rfl, by go_grown⟩
    ·rw [decide_eq_false hs] at e1 e2 e5
     have e3 := fun h => hs (e3.1 h)
     have hv' : Hid (R = false) := by show _ = _; rw [hv.out]; simp [Nat.le_refl, hs]
     clear hv
     go_enter Tryz.func65, Tryz.ntmps65
     go_wp2_with fail
     go_returns
     rw [hv'.out]
     exact ⟨rfl, by go_grown⟩
   ·by_cases h3 : k = 3
    ·subst h3
     by_cases hn : n = 0
     ·subst hn
      by_cases hl : s.length ≤ 1024
      ·have e6 : decide ((s.length : Int) ≤ 1024) = true := decide_eq_true (by omega)
       have hv' : Hid (R = true) := by show _ = _; rw [hv.out]; simp [hl]
       clear hv
       go_enter Tryz.func65, Tryz.ntmps65
       go_wp2_with fail
       go_returns
       rw [hv'.out]
       exact ⟨rfl, by go_grown⟩
      ·have e6 : decide ((s.length : Int) ≤ 1024) = false := decide_eq_false (by omega)
       have hv' : Hid (R = false) := by show _ = _; rw [hv.out]; simp [hl]
       clear hv
       go_enter Tryz.func65, Tryz.ntmps65
       go_wp2_with fail
       go_returns
       rw [hv'.out]
       exact ⟨rfl, by go_grown⟩
     ·have hv' : Hid (R = false) := by show _ = _; rw [hv.out]; simp [hn]
      clear hv
      go_enter Tryz.func65, Tryz.ntmps65
      go_wp2_with fail
      go_returns
      rw [hv'.out]
      exact ⟨rfl, by go_grown⟩
    ·have hv' : Hid (R = false) := by show _ = _; rw [hv.out]; simp [h0, h1, h2, h3]
     clear hv
     go_enter Tryz.func65, Tryz.ntmps65
     go_wp2_with fail
     go_returns
     rw [hv'.out]
     exact ⟨rfl, by go_grown⟩
set_option maxHeartbeats 4000000 in
set_option maxRecDepth 100000 in
theorem may_any (r : RowM) (n c : Nat) (A : Option Addr) (w : World) (hn : r.length = n) (hr : Rd w A (rcells r)) (hc : n ≤ 9223372036854775807) :
  Calls Tryz.prog 40 #[.slice A n c] w fun e w' => e = .returned (.int .i64 (mayR r)) ∧ Below w.heap.size w w' := by
 have Hn := Lib.hid hn
 by_cases h32 : 32 < n
 ·have hv : Hid (mayR r = 3) := by show _ = _; unfold mayR; rw [if_pos (by omega)]
  clear hn
  go_enter Tryz.func40, Tryz.ntmps40
  go_wp2_with fail
  go_ret
  rw [hv.out]
  exact ⟨rfl, Below.refl _ _⟩
 ·have hv : Hid (mayR r = if r.all rightV then 0 else 7) := by show _ = _; unfold mayR; rw [if_neg (by omega)]
  clear hn
  go_enter Tryz.func40, Tryz.ntmps40
  go_wp2_with fail
  go_loopw [3] (fun i wr => ∃ j : Nat, j ≤ n ∧ i = .int .i64 j ∧ Below w.heap.size w wr ∧ Hid (∀ v ∈ r.take j, rightV v = true)) (fun i _ => n - (intOf i).toNat)
  case atStart => exact ⟨0, by omega, rfl, Below.refl _ _, fun v h => by simp at h⟩
  case round =>
   obtain ⟨j, hj, rfl, hb, hall⟩ := hrel
   by_cases hlt : j < n
   ·have hjl : j < r.length := by rw [Hn.out]; exact hlt
    obtain ⟨b, o, rfl, c0, c1, c2⟩ := row_cells (hr.below hb) hjl
    have htk := Lib.hid (List.take_succ_eq_append_getElem (l := r) (i := j) hjl)
    have hmem := Lib.hid (List.getElem_mem hjl)
    generalize r[j] = v at *
    have hri := right_any v wr
    unfold Va.agg at hri
    clear hr hjl
    cases hrv : rightV v
    ·rw [hrv] at hri
     have hf : Hid (mayR r = 7) := by
      show _ = _
      rw [hv.out, if_neg]
      intro h
      have := List.all_eq_true.1 h v hmem.out
      rw [hrv] at this
      cases this
     have Hri := Lib.hid hri
     clear hri hrv
     go_wp2_with fail
     refine Hri.out.mono ?_
     rintro e w2 ⟨rfl, hb2⟩
     go_wp2_with fail
     go_ret
     rw [hf.out]
     exact ⟨rfl, hb.trans (hb2.mono hb.size)⟩
    ·rw [hrv] at hri
     have Hri := Lib.hid hri
     have Hrv := Lib.hid hrv
     clear hri hrv
     go_wp2_with fail
     refine Hri.out.mono ?_
     rintro e w2 ⟨rfl, hb2⟩
     go_wp2_with fail
     go_roundw
     case rel =>
      refine ⟨j + 1, by omega, by go_num, hb.trans (hb2.mono hb.size), fun u hu => ?_⟩
      rw [htk.out] at hu
      rcases List.mem_append.1 hu with hu | hu
      ·exact hall.out u hu
      ·rw [List.mem_singleton.1 hu]; exact Hrv.out
     case measure => simp [intOf]; omega
   ·obtain rfl : j = n := by omega
    have hf : Hid (mayR r = 0) := by
     show _ = _
     rw [hv.out, if_pos]
     refine List.all_eq_true.2 fun u hu => hall.out u ?_
     rw [List.take_of_length_le (by rw [Hn.out]; exact Nat.le_refl _)]
     exact hu
    go_wp2_with fail
    go_ret
    rw [hf.out]
    exact ⟨rfl, hb⟩
end Go.Proofs.YtcadjekcdokkjaaGreat
