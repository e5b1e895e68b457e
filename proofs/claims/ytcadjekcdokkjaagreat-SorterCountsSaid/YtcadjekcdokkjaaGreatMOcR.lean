/- Walks: a value that may not be, boxed; which values may be. -/
import Derived.Test.YtcadjekcdokkjaaGreatMOcPT
namespace Go.Proofs.YtcadjekcdokkjaaGreat
set_option linter.unusedVariables false
set_option linter.unusedSimpArgs false
open Go.RowKit
attribute [local go_sem ↓] Go.wp_at_zero Go.wp_at_succ
set_option maxHeartbeats 4000000 in
set_option maxRecDepth 100000 in
theorem box_bad (v : Va) (h : rightV v = false) (w : World) : Calls Tryz.prog 128 #[v.agg] w fun e w' => e = .returned (.nilIface) ∧ Below w.heap.size w w' := by
 have e1 := St8_nil_cmp v.s
 have e2 := St8_nil_eq v.s
 have e3 := St8_nil_iff v.s
 have e4 := St8_size v.s
 have e5 := St8_empty v.s
 obtain ⟨k, n, s⟩ := v
 unfold Va.agg
 dsimp only at *
 by_cases h1 : k = 1
 ·subst h1
  by_cases hs : s = []
  ·have hn0 : n ≠ 0 := fun e => by subst e; subst hs; simp [rightV] at h
   have hn1 : n ≠ 1 := fun e => by subst e; subst hs; simp [rightV] at h
   rw [decide_eq_true hs] at e1 e2 e5
   subst hs
   clear e1 e2 e3
   have z0 : (n == 0) = false := beq_eq_false_iff_ne.2 hn0
   have z1 : (n == 1) = false := beq_eq_false_iff_ne.2 hn1
   clear h
   go_enter Tryz.func128, Tryz.ntmps128
   go_wp2_with fail
   go_ret
   exact ⟨rfl, by go_grown⟩
  ·rw [decide_eq_false hs] at e1 e2 e5
   have e3 := fun h => hs (e3.1 h)
   clear h
   go_enter Tryz.func128, Tryz.ntmps128
   go_wp2_with fail
   go_ret
   exact ⟨rfl, by go_grown⟩
 ·by_cases h2 : k = 2
  ·subst h2
   by_cases hs : s = []
   ·exfalso; subst hs; simp [rightV] at h
   ·rw [decide_eq_false hs] at e1 e2 e5
    have e3 := fun h => hs (e3.1 h)
    clear h
    go_enter Tryz.func128, Tryz.ntmps128
    go_wp2_with fail
    go_ret
    exact ⟨rfl, by go_grown⟩
  ·by_cases h3 : k = 3
   ·subst h3
    by_cases hn : n = 0
    ·have hl : ¬ s.length ≤ 1024 := fun e => by subst hn; simp [rightV, e] at h
     subst hn
     have e6 : decide ((s.length : Int) ≤ 1024) = false := decide_eq_false (by omega)
     clear h
     go_enter Tryz.func128, Tryz.ntmps128
     go_wp2_with fail
     go_ret
     exact ⟨rfl, by go_grown⟩
    ·have z0 : (n == 0) = false := beq_eq_false_iff_ne.2 hn
     clear h
     go_enter Tryz.func128, Tryz.ntmps128
     go_wp2_with fail
     go_ret
     exact ⟨rfl, by go_grown⟩
   ·have z1 : (k == 1) = false := beq_eq_false_iff_ne.2 h1
    have z2 : (k == 2) = false := beq_eq_false_iff_ne.2 h2
    have z3 : (k == 3) = false := beq_eq_false_iff_ne.2 h3
    clear h
    go_enter Tryz.func128, Tryz.ntmps128
    go_wp2_with fail
    go_ret
    exact ⟨rfl, by go_grown⟩
set_option maxHeartbeats 4000000 in
set_option maxRecDepth 100000 in
theorem cright_bad (v : Va) (h : rightV v = false) (w : World) : Calls Tryz.prog 113 #[v.agg] w fun e w' => e = .returned (.bool false) ∧ Below w.heap.size w w' := by
 have hbx := Lib.hid (fun w' => box_bad v h w')
 have hub := Lib.hid (fun w' => unbox_nil w')
 have e1 := St8_nil_cmp v.s
 have e2 := St8_nil_eq v.s
 have e3 := St8_nil_iff v.s
 have e5 := St8_empty v.s
 obtain ⟨k, n, s⟩ := v
 unfold Va.agg at *
 dsimp only at *
 have hne : ¬ (k = 0 ∧ n = 0 ∧ s = []) := fun ⟨h1, h2, h3⟩ => by subst h1; subst h2; subst h3; simp [rightV] at h
 clear h
 go_enter Tryz.func113, Tryz.ntmps113
 go_wp2_with fail
 refine (hbx.out _).mono ?_
 rintro e w1 ⟨rfl, hb1⟩
 have h01 : Below w.heap.size w w1 := by
  have h0 : Below w.heap.size w (w.alloc (.cells #[.int .u8 k, .int .i64 n, .string (St8 s)] 38)) := by go_grown
  exact h0.trans (hb1.mono h0.size)
 have hk := (Blk.new w 38 #[.int .u8 k, .int .i64 n, .string (St8 s)]).below hb1
 have Hk := Lib.hid hk
 clear hb1 hk
 go_wp2_with fail
 refine (hub.out _).mono ?_
 rintro e w2 ⟨rfl, hb2⟩
 have h02 := h01.trans (hb2.mono h01.size)
 have hk2 := (Hk.out.below hb2).alloc (.cells #[.int .u8 0, .int .i64 0, .string ⟨#[]⟩] 38)
 have k0 := hk2.cell 0
 have k1 := hk2.cell 1
 have k2 := hk2.cell 2
 simp only [List.getElem?_cons_zero, List.getElem?_cons_succ] at k0 k1 k2
 clear hb2 h01 hk2
 by_cases hk : k = 0
 ·subst hk
  by_cases hn : n = 0
  ·subst hn
   have hs : s ≠ [] := fun e => hne ⟨rfl, rfl, e⟩
   rw [decide_eq_false hs] at e1 e2 e5
   have e3 := fun h => hs (e3.1 h)
   have e4 := fun (h : (⟨#[]⟩ : ByteArray) = St8 s) => e3 h.symm
   clear hne
   go_wp2_with fail
   go_ret
   exact ⟨rfl, h02.alloc (by have := h02.size; omega) _⟩
  ·have z0 : (n == 0) = false := beq_eq_false_iff_ne.2 hn
   have z1 : ((0 : Int) == n) = false := beq_eq_false_iff_ne.2 (fun e => hn e.symm)
   clear hne
   go_wp2_with fail
   go_ret
   exact ⟨rfl, h02.alloc (by have := h02.size; omega) _⟩
 ·have z0 : (k == 0) = false := beq_eq_false_iff_ne.2 hk
  have z1 : ((0 : Int) == k) = false := beq_eq_false_iff_ne.2 (fun e => hk e.symm)
  clear hne
  go_wp2_with fail
  go_ret
  exact ⟨rfl, h02.alloc (by have := h02.size; omega) _⟩
theorem cright_any (v : Va) (w : World) : Calls Tryz.prog 113 #[v.agg] w fun e w' => e = .returned (.bool (rightV v)) ∧ Below w.heap.size w w' := by
 cases h : rightV v
 ·exact cright_bad v h w
 ·rcases right_kinds h with rfl | ⟨t, rfl⟩ | ⟨n, rfl⟩ | ⟨s, rfl, hs⟩
  ·exact cright_nil w
  ·cases t
   ·exact cright_no w
   ·exact cright_yes w
  ·exact cright_int n w
  ·exact cright_txt s hs w
end Go.Proofs.YtcadjekcdokkjaaGreat
