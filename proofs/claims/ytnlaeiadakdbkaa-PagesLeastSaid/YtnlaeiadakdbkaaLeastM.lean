/- The least free pages, as plain facts on lists. -/
import Derived.Test.YtnlaeiadakdbkaaPagM
namespace Go.Proofs.Ytnlaeiadakdbkaa
namespace Pg

theorem ids_take {s : St} {n j : Nat} (hj : j ≤ n) : (ids s n).take j = ids s j := by
  unfold ids
  rw [List.take_take, Nat.min_eq_left hj]

/-- The j-th free page: below it none is free any more when the first j are taken; itself it is. -/
theorem ids_least {s : St} {n j : Nat} (hn : n ≤ s.length - used s) (hj : j < n) (h : j < (ids s n).length) :
    (fill s (ids s j))[(ids s n)[j]]? = some none ∧ ∀ i, i < (ids s n)[j] → ∃ l, (fill s (ids s j))[i]? = some (some l) := by
  obtain ⟨k, hk, e, el⟩ := ids_upTo (s := s) (n := j + 1) (by omega)
  obtain ⟨k0, hk0, e0, el0⟩ := ids_upTo (s := s) (n := j) (by omega)
  -- the least k at which j + 1 are below it
  have key : ∀ k, k ≤ s.length → (upTo s k).length = j + 1 → ∃ m, m < k ∧ isFree s m = true ∧ upTo s (m + 1) = upTo s k ∧ (upTo s m).length = j := by
    intro k
    induction k with
    | zero => intro _ h; simp [upTo] at h
    | succ k ih =>
      intro hk h
      by_cases hf : isFree s k = true
      · refine ⟨k, by omega, hf, rfl, ?_⟩
        rw [upTo_succ, if_pos hf, List.length_append] at h
        simpa using h
      · rw [upTo_succ, if_neg hf, List.append_nil] at h ⊢
        obtain ⟨m, h1, h2, h3, h4⟩ := ih (by omega) h
        exact ⟨m, by omega, h2, h3, h4⟩
  obtain ⟨m, hm, hf, he, hl⟩ := key k hk el
  have hid : ids s j = upTo s m := (upTo_ids (by omega) hl).symm
  have hget : (ids s n)[j] = m := by
    have h1 : (ids s n).take (j + 1) = upTo s (m + 1) := by rw [ids_take hj, e, he]
    have h2 : ((ids s n).take (j + 1))[j]? = some ((ids s n)[j]) := by
      rw [List.getElem?_take, if_pos (by omega), List.getElem?_eq_getElem h]
    rw [h1, upTo_succ, if_pos hf, List.getElem?_append_right (by omega), hl, Nat.sub_self] at h2
    simpa using h2.symm
  rw [hget, hid]
  have hfr : s[m]? = some none := by simpa [isFree] using hf
  refine ⟨(fill_free s (Nat.le_refl m)).trans hfr, fun i hi => ?_⟩
  by_cases hm' : i ∈ upTo s m
  · exact ⟨_, fill_at _ s i hm' (by omega)⟩
  · rw [fill_get _ _ _ hm']
    rw [List.getElem?_eq_getElem (by omega)]
    cases ei : s[i]'(by omega) with
    | some l => exact ⟨l, rfl⟩
    | none =>
      exact absurd (List.mem_filter.2 ⟨List.mem_range.2 hi, by simp [isFree, List.getElem?_eq_getElem (show i < s.length by omega), ei]⟩) hm'

theorem ids_sorted (s : St) (n : Nat) : (ids s n).Pairwise (· < ·) :=
  (List.pairwise_lt_range.sublist (List.filter_sublist (l := List.range s.length) (p := isFree s))).sublist (List.take_sublist ..)

/-- Which pages are taken, as a row of truths. -/
abbrev onV (s : St) : List Value := s.map fun p => Value.bool p.isSome
theorem onV_get {s : St} {i : Nat} (h : i < s.length) : (onV s)[i]? = some (.bool (s[i]).isSome) := by
  rw [List.getElem?_map, List.getElem?_eq_getElem h]
  rfl
theorem onV_set (s : St) (i : Nat) (o : Option (List UInt8)) : (onV s).set i (.bool o.isSome) = onV (s.set i o) := by
  unfold onV
  rw [List.map_set]
theorem onV_lays : ∀ (l : List Nat) (s : St) (b : List UInt8), (∀ i ∈ l, ∃ m, s[i]? = some (some m)) → onV (lays s l b) = onV s := by
  intro l
  induction l with
  | nil => intro s b _; rfl
  | cons i l ih =>
    intro s b h
    obtain ⟨m, hm⟩ := h i List.mem_cons_self
    rw [lays, ih, ← onV_set]
    · apply List.ext_getElem?
      intro j
      by_cases e : i = j
      · subst e
        have hi := (List.getElem?_eq_some_iff.1 hm).1
        rw [List.getElem?_set_self (by simpa using hi), List.getElem?_map, hm]
        rfl
      · rw [List.getElem?_set_ne e]
    · intro j hj
      by_cases e : i = j
      · subst e
        exact ⟨_, List.getElem?_set_self (List.getElem?_eq_some_iff.1 hm).1⟩
      · obtain ⟨m', hm'⟩ := h j (List.mem_cons_of_mem _ hj)
        exact ⟨m', (List.getElem?_set_ne e).trans hm'⟩
theorem used_allocS {s : St} {n : Nat} (h : n ≤ s.length - used s) : used (allocS s (n : Int)) = used s + n := by
  have hu := used_le s
  have : allocE s (n : Int) = 0 := by unfold allocE; rw [if_neg (by omega), if_neg (by omega)]
  unfold allocS
  rw [if_pos this, Int.toNat_natCast, used_fill h]

end Pg
end Go.Proofs.Ytnlaeiadakdbkaa
