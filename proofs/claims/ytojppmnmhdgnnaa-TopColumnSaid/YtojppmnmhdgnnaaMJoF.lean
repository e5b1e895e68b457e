/- Walks: which values and rows may be laid; the first rows of a list. -/
import Derived.Test.YtojppmnmhdgnnaaMJoMW
namespace Go.Proofs.Ytojppmnmhdgnnaa
set_option linter.unusedVariables false
set_option linter.unusedSimpArgs false
open Go.RowKit

attribute [local go_sem ↓] Go.wp_at_zero Go.wp_at_succ

/-- Whether a value may be. -/
def rightV (v : Va) : Bool :=
  if v.k = 0 then decide (v.n = 0 ∧ v.s = []) else if v.k = 1 then decide ((v.n = 0 ∨ v.n = 1) ∧ v.s = []) else if v.k = 2 then decide (v.s = []) else if v.k = 3 then decide (v.n = 0 ∧ v.s.length ≤ 1024) else false
/-- Why a row can't be laid. -/
def mayR (r : RowM) : Int := if 32 < r.length then 3 else if r.all rightV then 0 else 7

theorem St8_nil_cmp (s : List UInt8) : ((St8 s).toList == (⟨#[]⟩ : ByteArray).toList) = decide (s = []) := St8_cmp s []
theorem St8_empty (s : List UInt8) : (St8 s).toList.isEmpty = decide (s = []) := by
  rw [St8_list]
  cases s <;> simp
theorem St8_nil_eq (s : List UInt8) : (St8 s == ⟨#[]⟩) = decide (s = []) := St8_eq s []
theorem St8_nil_iff (s : List UInt8) : (St8 s = ⟨#[]⟩) ↔ s = [] := ⟨fun h => St8_inj (m := []) h, fun h => by rw [h]; rfl⟩

set_option maxHeartbeats 4000000 in
set_option maxRecDepth 100000 in
theorem right_any (v : Va) (w : World) : Calls Try.prog 18 #[v.agg] w fun e w' => e = .returned (.bool (rightV v)) ∧ Below w.heap.size w w' := by
  have e1 := St8_nil_cmp v.s
  have e2 := St8_nil_eq v.s
  have e3 := St8_nil_iff v.s
  have e4 := St8_size v.s
  have e5 := St8_empty v.s
  have hv : Hid (rightV v = if v.k = 0 then decide (v.n = 0 ∧ v.s = []) else if v.k = 1 then decide ((v.n = 0 ∨ v.n = 1) ∧ v.s = []) else if v.k = 2 then decide (v.s = []) else if v.k = 3 then decide (v.n = 0 ∧ v.s.length ≤ 1024) else false) := rfl
  obtain ⟨k, n, s⟩ := v
  unfold Va.agg
  dsimp only at *
  generalize rightV ⟨k, n, s⟩ = R at *
  by_cases h0 : k = 0
  · subst h0
    by_cases hn : n = 0
    · subst hn
      by_cases hs : s = []
      · rw [decide_eq_true hs] at e1 e2 e5
        have e3 := e3.2 hs
        subst hs
        have hv' : Hid (R = true) := by show _ = _; rw [hv.out]; simp
        clear hv
        go_enter Try.func18, Try.ntmps18
        go_wp2_with fail
        go_returns
        rw [hv'.out]
        exact ⟨rfl, by go_grown⟩
      · rw [decide_eq_false hs] at e1 e2 e5
        have e3 := fun h => hs (e3.1 h)
        have hv' : Hid (R = false) := by show _ = _; rw [hv.out]; simp [Nat.le_refl, hs]
        clear hv
        go_enter Try.func18, Try.ntmps18
        go_wp2_with fail
        go_returns
        rw [hv'.out]
        exact ⟨rfl, by go_grown⟩
    · have hv' : Hid (R = false) := by show _ = _; rw [hv.out]; simp [hn]
      clear hv
      go_enter Try.func18, Try.ntmps18
      go_wp2_with fail
      go_returns
      rw [hv'.out]
      exact ⟨rfl, by go_grown⟩
  · by_cases h1 : k = 1
    · subst h1
      by_cases hn : n = 0
      · subst hn
        by_cases hs : s = []
        · rw [decide_eq_true hs] at e1 e2 e5
          have e3 := e3.2 hs
          subst hs
          have hv' : Hid (R = true) := by show _ = _; rw [hv.out]; simp
          clear hv
          go_enter Try.func18, Try.ntmps18
          go_wp2_with fail
          go_returns
          rw [hv'.out]
          exact ⟨rfl, by go_grown⟩
        · rw [decide_eq_false hs] at e1 e2 e5
          have e3 := fun h => hs (e3.1 h)
          have hv' : Hid (R = false) := by show _ = _; rw [hv.out]; simp [Nat.le_refl, hs]
          clear hv
          go_enter Try.func18, Try.ntmps18
          go_wp2_with fail
          go_returns
          rw [hv'.out]
          exact ⟨rfl, by go_grown⟩
      · by_cases hn1 : n = 1
        · subst hn1
          by_cases hs : s = []
          · rw [decide_eq_true hs] at e1 e2 e5
            have e3 := e3.2 hs
            subst hs
            have hv' : Hid (R = true) := by show _ = _; rw [hv.out]; simp
            clear hv
            go_enter Try.func18, Try.ntmps18
            go_wp2_with fail
            go_returns
            rw [hv'.out]
            exact ⟨rfl, by go_grown⟩
          · rw [decide_eq_false hs] at e1 e2 e5
            have e3 := fun h => hs (e3.1 h)
            have hv' : Hid (R = false) := by show _ = _; rw [hv.out]; simp [Nat.le_refl, hs]
            clear hv
            go_enter Try.func18, Try.ntmps18
            go_wp2_with fail
            go_returns
            rw [hv'.out]
            exact ⟨rfl, by go_grown⟩
        · have hv' : Hid (R = false) := by show _ = _; rw [hv.out]; simp [hn, hn1]
          clear hv
          go_enter Try.func18, Try.ntmps18
          go_wp2_with fail
          go_returns
          rw [hv'.out]
          exact ⟨rfl, by go_grown⟩
    · by_cases h2 : k = 2
      · subst h2
        by_cases hs : s = []
        · rw [decide_eq_true hs] at e1 e2 e5
          have e3 := e3.2 hs
          subst hs
          have hv' : Hid (R = true) := by show _ = _; rw [hv.out]; simp
          clear hv
          go_enter Try.func18, Try.ntmps18
          go_wp2_with fail
          go_returns
          rw [hv'.out]
          exact ⟨rfl, by go_grown⟩
        · rw [decide_eq_false hs] at e1 e2 e5
          have e3 := fun h => hs (e3.1 h)
          have hv' : Hid (R = false) := by show _ = _; rw [hv.out]; simp [Nat.le_refl, hs]
          clear hv
          go_enter Try.func18, Try.ntmps18
          go_wp2_with fail
          go_returns
          rw [hv'.out]
          exact ⟨rfl, by go_grown⟩
      · by_cases h3 : k = 3
        · subst h3
          by_cases hn : n = 0
          · subst hn
            by_cases hl : s.length ≤ 1024
            · have e6 : decide ((s.length : Int) ≤ 1024) = true := decide_eq_true (by omega)
              have hv' : Hid (R = true) := by show _ = _; rw [hv.out]; simp [hl]
              clear hv
              go_enter Try.func18, Try.ntmps18
              go_wp2_with fail
              go_returns
              rw [hv'.out]
              exact ⟨rfl, by go_grown⟩
            · have e6 : decide ((s.length : Int) ≤ 1024) = false := decide_eq_false (by omega)
              have hv' : Hid (R = false) := by show _ = _; rw [hv.out]; simp [hl]
              clear hv
              go_enter Try.func18, Try.ntmps18
              go_wp2_with fail
              go_returns
              rw [hv'.out]
              exact ⟨rfl, by go_grown⟩
          · have hv' : Hid (R = false) := by show _ = _; rw [hv.out]; simp [hn]
            clear hv
            go_enter Try.func18, Try.ntmps18
            go_wp2_with fail
            go_returns
            rw [hv'.out]
            exact ⟨rfl, by go_grown⟩
        · have hv' : Hid (R = false) := by show _ = _; rw [hv.out]; simp [h0, h1, h2, h3]
          clear hv
          go_enter Try.func18, Try.ntmps18
          go_wp2_with fail
          go_returns
          rw [hv'.out]
          exact ⟨rfl, by go_grown⟩

theorem rcells_ne {r : RowM} (h : 0 < r.length) : rcells r ≠ [] := fun e => by
  have := rcells_len r
  rw [e] at this
  simp at this
  omega
/-- A row that may be laid, of short texts. -/
structure small (r : RowM) : Prop where
  may : mayR r = 0
  txt : ∀ v ∈ r, v.s.length ≤ 200
theorem small_len {r : RowM} (h : small r) : r.length ≤ 32 := by
  have := h.may
  unfold mayR at this
  split at this
  · exact absurd this (by decide)
  · omega
theorem small_right {r : RowM} (h : small r) : ∀ v ∈ r, rightV v = true := by
  have := h.may
  unfold mayR at this
  split at this
  · exact absurd this (by decide)
  · split at this
    · rename_i e; exact List.all_eq_true.1 e
    · exact absurd this (by decide)

end Go.Proofs.Ytojppmnmhdgnnaa
