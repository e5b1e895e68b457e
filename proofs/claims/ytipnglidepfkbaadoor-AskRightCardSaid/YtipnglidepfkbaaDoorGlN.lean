/- Walks: what comes of a node that asks a column, as the reference has it. -/
import Derived.Test.YtipnglidepfkbaaDoorGlT
import Derived.Test.YtipnglidepfkbaaDoorGlW
import Derived.Test.YtipnglidepfkbaaDoorAkW
namespace Go.Proofs.YtipnglidepfkbaaDoor
open Go.RowKit

attribute [local go_sem ↓] Go.wp_at_zero Go.wp_at_succ

theorem cmpI_zero {a b : Int} : cmpI a b = 0 ↔ a = b := by
  unfold cmpI
  split
  · omega
  · split <;> omega
theorem cmpS_zero {a b : List UInt8} : cmpS a b = 0 ↔ a = b := by
  unfold cmpS
  constructor
  · intro h
    split at h
    · omega
    · split at h
      · assumption
      · omega
  · rintro rfl
    rw [bless_irrefl, if_neg (by decide), if_pos rfl]
theorem cmpVa_zero {a b : Va} : cmpVa a b = 0 ↔ a = b := by
  obtain ⟨k, n, s⟩ := a
  obtain ⟨k', n', s'⟩ := b
  unfold cmpVa or3
  dsimp only
  constructor
  · intro h
    split at h
    · rename_i h1
      exact absurd h h1
    · rename_i h1
      split at h
      · rename_i h2
        exact absurd h h2
      · rename_i h2
        have e1 := cmpI_zero.1 (Classical.not_not.1 h1)
        have e2 := cmpI_zero.1 (Classical.not_not.1 h2)
        have e3 := cmpS_zero.1 h
        rw [e1, e2, e3]
  · intro h
    cases h
    rw [cmpI_zero.2 rfl, cmpI_zero.2 rfl, cmpS_zero.2 rfl]
    rfl
theorem cmpVa_eq (a b : Va) : decide (cmpVa a b = 0) = decide (a = b) := by
  by_cases h : a = b
  · rw [decide_eq_true h, decide_eq_true (cmpVa_zero.2 h)]
  · rw [decide_eq_false h, decide_eq_false (fun e => h (cmpVa_zero.1 e))]

set_option maxRecDepth 100000 in
theorem column_c (op : Int) (w : World) : Calls Tryd.prog 35 #[.int .u8 op] w fun e w' => e = .returned (.bool (decide (5 ≤ op ∧ op ≤ 8))) ∧ w = w' := by
  by_cases h5 : op = 5
  · subst h5
    go_enter Tryd.func35, Tryd.ntmps35
    go_wp2_with fail
    go_ret
    exact ⟨rfl, rfl⟩
  · have e5 : (op == 5) = false := by rw [beq_eq_false_iff_ne]; exact h5
    by_cases h6 : op = 6
    · subst h6
      go_enter Tryd.func35, Tryd.ntmps35
      go_wp2_with fail
      go_ret
      exact ⟨rfl, rfl⟩
    · have e6 : (op == 6) = false := by rw [beq_eq_false_iff_ne]; exact h6
      by_cases h7 : op = 7
      · subst h7
        go_enter Tryd.func35, Tryd.ntmps35
        go_wp2_with fail
        go_ret
        exact ⟨rfl, rfl⟩
      · have e7 : (op == 7) = false := by rw [beq_eq_false_iff_ne]; exact h7
        have hR : Hid (decide (5 ≤ op ∧ op ≤ 8) = (op == 8)) := by
          show _ = _
          by_cases h8 : op = 8
          · subst h8; rfl
          · rw [decide_eq_false (by omega)]
            exact (beq_eq_false_iff_ne.2 h8).symm
        rw [hR.out]
        go_enter Tryd.func35, Tryd.ntmps35
        go_wp2_with fail
        go_ret
        exact ⟨rfl, rfl⟩

def rkids (n : Nd) : Int := if n.op = 4 then 1 else n.kids
set_option maxRecDepth 100000 in
theorem rkids_c (n : Nd) (w : World) : Calls Tryd.prog 37 #[n.agg] w fun e w' => e = .returned (.int .i64 (rkids n)) ∧ Below w.heap.size w w' := by
  have hv : Hid (rkids n = if n.op = 4 then 1 else n.kids) := rfl
  generalize rkids n = R at *
  obtain ⟨op, col, kids, k, nn, s⟩ := n
  unfold Nd.agg
  dsimp only at hv ⊢
  have hb0 : Hid (Below w.heap.size w (w.alloc (.cells #[.int .u8 op, .int .i64 col, .int .i64 kids, .int .u8 k, .int .i64 nn, .string (St8 s)] 46))) := (Below.refl _ _).alloc (Nat.le_refl _) _
  by_cases h4 : op = 4
  · subst h4
    rw [if_pos rfl] at hv
    go_enter Tryd.func37, Tryd.ntmps37
    go_wp2_with fail
    go_ret
    rw [hv.out]
    exact ⟨rfl, hb0.out⟩
  · have e4 : (op == 4) = false := by rw [beq_eq_false_iff_ne]; exact h4
    rw [if_neg h4] at hv
    go_enter Tryd.func37, Tryd.ntmps37
    go_wp2_with fail
    go_ret
    rw [hv.out]
    exact ⟨rfl, hb0.out⟩

set_option maxHeartbeats 4000000 in
set_option maxRecDepth 100000 in
theorem rleaf_c (n : Nd) (v : Va) (w : World) (hs1 : n.v.s.length ≤ 1000000) (hs2 : v.s.length ≤ 1000000) (hT : Lib.Utf8Tabs 0 1 w) : Calls Tryd.prog 36 #[n.agg, v.agg] w fun e w' => e = .returned (.int .u8 (leafM n v)) ∧ Below w.heap.size w w' := by
  have hv : Hid (leafM n v = if n.op = 5 then truthV v n.v (decide (v = n.v)) else if n.op = 6 then truthV v n.v (decide (cmpVa v n.v < 0)) else if n.op = 8 then (if v.k = 0 then 2 else 0)
    else if v.k = 0 then 1 else if matchM n.v.s v.s then 2 else 0) := by show _ = _; rw [← cmpVa_eq]; rfl
  have heq := Lib.hid (fun w' => requal_c v n.v w')
  have hle := Lib.hid (fun w' => rless_c v n.v w')
  have hma := Lib.hid (fun w' (hb : Below w.heap.size w w') => rmatch_c n.v.s v.s w' hs1 hs2 (Utf8Tabs_below hT hb))
  have htr := Lib.hid (fun b w' => ratruth_c b w')
  generalize leafM n v = R at *
  obtain ⟨op, col, kids, k, nn, s⟩ := n
  obtain ⟨k', n', s'⟩ := v
  dsimp only at hv heq hle hma
  generalize truthV ⟨k', n', s'⟩ ⟨k, nn, s⟩ (decide ((⟨k', n', s'⟩ : Va) = ⟨k, nn, s⟩)) = T1 at *
  generalize truthV ⟨k', n', s'⟩ ⟨k, nn, s⟩ (decide (cmpVa ⟨k', n', s'⟩ ⟨k, nn, s⟩ < 0)) = T2 at *
  generalize matchM s s' = M at *
  unfold Va.agg at heq hle
  unfold Nd.agg Va.agg
  dsimp only at heq hle ⊢
  have Hb1 : Hid (Below w.heap.size w ((w.alloc (.cells #[.int .u8 op, .int .i64 col, .int .i64 kids, .int .u8 k, .int .i64 nn, .string (St8 s)] 46)).alloc (.cells #[.int .u8 k', .int .i64 n', .string (St8 s')] 44))) := ((Below.refl _ _).alloc (Nat.le_refl _) _).alloc (by rw [World.size_alloc]; omega) _
  clear hs1 hs2 hT
  by_cases h5 : op = 5
  · subst h5
    rw [if_pos rfl] at hv
    go_enter Tryd.func36, Tryd.ntmps36
    go_wp2_with fail
    refine (heq.out _).mono ?_
    rintro e w1 ⟨rfl, hb1⟩
    go_wp2_with fail
    go_ret
    rw [hv.out]
    exact ⟨rfl, Hb1.out.trans (hb1.mono Hb1.out.size)⟩
  · have e5 : (op == 5) = false := by rw [beq_eq_false_iff_ne]; exact h5
    rw [if_neg h5] at hv
    by_cases h6 : op = 6
    · subst h6
      rw [if_pos rfl] at hv
      go_enter Tryd.func36, Tryd.ntmps36
      go_wp2_with fail
      refine (hle.out _).mono ?_
      rintro e w1 ⟨rfl, hb1⟩
      go_wp2_with fail
      go_ret
      rw [hv.out]
      exact ⟨rfl, Hb1.out.trans (hb1.mono Hb1.out.size)⟩
    · have e6 : (op == 6) = false := by rw [beq_eq_false_iff_ne]; exact h6
      rw [if_neg h6] at hv
      by_cases h8 : op = 8
      · subst h8
        rw [if_pos rfl] at hv
        by_cases hk : k' = 0
        · subst hk
          rw [if_pos rfl] at hv
          go_enter Tryd.func36, Tryd.ntmps36
          go_wp2_with fail
          refine (htr.out true _).mono ?_
          rintro e w1 ⟨rfl, rfl⟩
          go_wp2_with fail
          go_ret
          rw [hv.out]
          exact ⟨rfl, Hb1.out⟩
        · rw [if_neg hk] at hv
          have ek : (k' == 0) = false := by rw [beq_eq_false_iff_ne]; exact hk
          go_enter Tryd.func36, Tryd.ntmps36
          go_wp2_with fail
          refine (htr.out false _).mono ?_
          rintro e w1 ⟨rfl, rfl⟩
          go_wp2_with fail
          go_ret
          rw [hv.out]
          exact ⟨rfl, Hb1.out⟩
      · have e8 : (op == 8) = false := by rw [beq_eq_false_iff_ne]; exact h8
        rw [if_neg h8] at hv
        by_cases hk : k' = 0
        · subst hk
          rw [if_pos rfl] at hv
          go_enter Tryd.func36, Tryd.ntmps36
          go_wp2_with fail
          go_ret
          rw [hv.out]
          exact ⟨rfl, Hb1.out⟩
        · rw [if_neg hk] at hv
          have ek : (k' == 0) = false := by rw [beq_eq_false_iff_ne]; exact hk
          obtain ⟨V, hV⟩ : ∃ V : Int, V = if M = true then 2 else 0 := ⟨_, rfl⟩
          rw [← hV] at hv
          have htm := htr.out M
          rw [← hV] at htm
          have Htm := Lib.hid htm
          clear htm hV htr
          go_enter Tryd.func36, Tryd.ntmps36
          go_wp2_with fail
          refine (hma.out _ Hb1.out).mono ?_
          rintro e w1 ⟨⟨er, rfl⟩, hb1⟩
          go_wp2_with fail
          refine (Htm.out _).mono ?_
          rintro e w2 ⟨rfl, rfl⟩
          go_wp2_with fail
          go_ret
          rw [hv.out]
          exact ⟨rfl, Hb1.out.trans (hb1.mono Hb1.out.size)⟩

end Go.Proofs.YtipnglidepfkbaaDoor
