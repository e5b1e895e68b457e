/- What is asked all together: plain laws. -/
import Derived.Test.YtipnglidepfkbaaAkE
import Derived.Test.YtipnglidepfkbaaAkJ
namespace Go.Proofs.Ytipnglidepfkbaa

theorem alwaysM_op {l : List Nd} (h : alwaysM l = true) : ∃ x, l = [x] ∧ x.op = 1 := by
  match l, h with
  | [x], h => exact ⟨x, rfl, of_decide_eq_true h⟩
theorem always_eval {kinds : List Int} {l : List Nd} {r : RowM} (hr : r.length = kinds.length) (h : alwaysM l = true) (hl : rightN kinds l = true) : evalM l r = 2 := by
  obtain ⟨x, rfl, hx⟩ := alwaysM_op h
  have wl := right_whole hl
  rw [← hr] at wl
  refine evalM_of wl ?_
  have ha : ¬ x.asks = true := by unfold Nd.asks; rw [decide_eq_true_iff]; omega
  have hp : x.parts = 0 := by unfold Nd.parts; rw [if_neg (by omega), if_neg (by omega)]
  show ev r 1 [x] = _
  rw [ev, if_neg ha, hp]
  show evs _ _ 0 _ _ = _
  rw [evs, firstT, if_neg (by omega)]
theorem andT_two {a : Int} (h : 0 ≤ a ∧ a ≤ 2) : andT a 2 = a ∧ andT 2 a = a := by
  unfold andT known
  rw [if_neg (by omega), if_neg (by omega)]
  omega
theorem allM_right {kinds : List Int} {a b : List Nd} (ha : rightN kinds a = true) (hb : rightN kinds b = true) (hl : (allM a b).length ≤ 40) : rightN kinds (allM a b) = true := by
  unfold allM at hl ⊢
  split
  · exact ha
  · rename_i h1
    rw [if_neg h1] at hl
    split
    · exact hb
    · rename_i h2
      rw [if_neg h2] at hl
      exact right_all ha hb hl
theorem allM_eval {kinds : List Int} {a b : List Nd} {r : RowM} (hr : r.length = kinds.length) (ha : rightN kinds a = true) (hb : rightN kinds b = true) (hl : (allM a b).length ≤ 40) : evalM (allM a b) r = andT (evalM a r) (evalM b r) := by
  unfold allM at hl ⊢
  split
  · rename_i h1
    rw [always_eval hr h1 hb]
    exact (andT_two (evalM_bounds a r)).1.symm
  · rename_i h1
    rw [if_neg h1] at hl
    split
    · rename_i h2
      rw [always_eval hr h2 ha]
      exact (andT_two (evalM_bounds b r)).2.symm
    · rename_i h2
      rw [if_neg h2] at hl
      exact eval_all hr ha hb hl
theorem allM_len (a b : List Nd) : (allM a b).length ≤ 1 + (a.length + b.length) := by
  unfold allM
  split
  · omega
  · split
    · omega
    · rw [List.length_cons, List.length_append]; omega
theorem allM_small {a b : List Nd} (ha : ∀ x ∈ a, x.v.s.length ≤ 200) (hb : ∀ x ∈ b, x.v.s.length ≤ 200) : ∀ x ∈ allM a b, x.v.s.length ≤ 1000000 := by
  intro x hx
  unfold allM at hx
  split at hx
  · have := ha x hx; omega
  · split at hx
    · have := hb x hx; omega
    · rcases List.mem_cons.1 hx with rfl | hx
      · show (0 : Nat) ≤ _; omega
      · rcases List.mem_append.1 hx with hx | hx
        · have := ha x hx; omega
        · have := hb x hx; omega
end Go.Proofs.Ytipnglidepfkbaa
