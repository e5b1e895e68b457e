/- Columns that are asked for, rising: plain laws. -/
import Derived.Test.YtheafcfbahdcfaaAkD
import Derived.Lib.SlicesCompact
import Derived.Lib.RowBridge
namespace Go.Proofs.Ytheafcfbahdcfaa

/-! ### Lists that rise are told by their members -/
theorem strict_uniq : ∀ (a b : List Int), a.Pairwise (· < ·) → b.Pairwise (· < ·) → (∀ x, x ∈ a ↔ x ∈ b) → a = b
  | [], [], _, _, _ => rfl
  | [], y :: b, _, _, h => absurd ((h y).2 (List.mem_cons_self ..)) (by simp)
  | x :: a, [], _, _, h => absurd ((h x).1 (List.mem_cons_self ..)) (by simp)
  | x :: a, y :: b, ha, hb, h => by
    rw [List.pairwise_cons] at ha hb
    have hxy : x = y := by
      rcases List.mem_cons.1 ((h x).1 (List.mem_cons_self ..)) with e | h1
      · exact e
      · rcases List.mem_cons.1 ((h y).2 (List.mem_cons_self ..)) with e | h2
        · exact e.symm
        · have := hb.1 x h1
          have := ha.1 y h2
          omega
    subst hxy
    congr 1
    refine strict_uniq a b ha.2 hb.2 fun z => ?_
    constructor
    · intro hz
      rcases List.mem_cons.1 ((h z).1 (List.mem_cons_of_mem _ hz)) with e | h1
      · subst e; exact absurd (ha.1 z hz) (by omega)
      · exact h1
    · intro hz
      rcases List.mem_cons.1 ((h z).2 (List.mem_cons_of_mem _ hz)) with e | h1
      · subst e; exact absurd (hb.1 z hz) (by omega)
      · exact h1

/-! ### Sorted, each once -/
theorem cu_spec (zs : List Int) (hs : ∀ i j, i ≤ j → j < zs.length → zs.toArray[i]! ≤ zs.toArray[j]!) : ∀ m, m ≤ zs.length →
    (Lib.compactUpTo zs.toArray m).Pairwise (· < ·) ∧ ∀ x, x ∈ Lib.compactUpTo zs.toArray m ↔ ∃ j, j < m ∧ zs.toArray[j]! = x
  | 0, _ => ⟨by simp [Lib.compactUpTo], fun x => by simp [Lib.compactUpTo]⟩
  | m + 1, hm => by
    obtain ⟨h1, h2⟩ := cu_spec zs hs m (by omega)
    rw [Lib.compactUpTo_succ]
    by_cases hk : Lib.keeps zs.toArray m = true
    · rw [if_pos hk]
      have hnew : ∀ x ∈ Lib.compactUpTo zs.toArray m, x < zs.toArray[m]! := fun x hx => by
        obtain ⟨j, hj, rfl⟩ := (h2 x).1 hx
        unfold Lib.keeps at hk
        have hk := of_decide_eq_true hk
        have h3 := hs j (m - 1) (by omega) (by omega)
        have h4 := hs (m - 1) m (by omega) (by omega)
        rcases hk with hk | hk
        · omega
        · omega
      constructor
      · rw [List.pairwise_append]
        exact ⟨h1, by simp, fun x hx y hy => by rw [List.mem_singleton.1 hy]; exact hnew x hx⟩
      · intro x
        rw [List.mem_append, h2, List.mem_singleton]
        constructor
        · rintro (⟨j, hj, e⟩ | e)
          · exact ⟨j, by omega, e⟩
          · exact ⟨m, by omega, e.symm⟩
        · rintro ⟨j, hj, e⟩
          by_cases hjm : j = m
          · subst hjm; exact .inr e.symm
          · exact .inl ⟨j, by omega, e⟩
    · rw [if_neg hk, List.append_nil]
      refine ⟨h1, fun x => ?_⟩
      rw [h2]
      constructor
      · rintro ⟨j, hj, e⟩
        exact ⟨j, by omega, e⟩
      · rintro ⟨j, hj, e⟩
        by_cases hjm : j = m
        · subst hjm
          unfold Lib.keeps at hk
          rw [decide_eq_true_iff] at hk
          have h0 : ¬ j = 0 := fun h => hk (.inl h)
          have h3 : zs.toArray[j]! = zs.toArray[j - 1]! := Classical.byContradiction fun h => hk (.inr h)
          exact ⟨j - 1, by omega, by rw [← h3]; exact e⟩
        · exact ⟨j, by omega, e⟩
def sortI (l : List Int) : List Int := l.mergeSort fun x y => decide (x ≤ y)
theorem sortI_le (l : List Int) : (sortI l).Pairwise (· ≤ ·) := by
  have h := List.pairwise_mergeSort (le := fun x y : Int => decide (x ≤ y)) (fun a b c h1 h2 => by
    rw [decide_eq_true_iff] at *; omega) (fun a b => by
    rw [Bool.or_eq_true, decide_eq_true_iff, decide_eq_true_iff]; omega) l
  exact h.imp fun h => of_decide_eq_true h
theorem sortI_mem (l : List Int) (x : Int) : x ∈ sortI l ↔ x ∈ l := List.mem_mergeSort
theorem sortI_len (l : List Int) : (sortI l).length = l.length := List.length_mergeSort l
theorem compact_spec (l : List Int) : (Lib.compact (sortI l)).Pairwise (· < ·) ∧ ∀ x, x ∈ Lib.compact (sortI l) ↔ x ∈ l := by
  have hg : ∀ j, j < (sortI l).length → (sortI l).toArray[j]! = (sortI l)[j]! := fun j hj => by simp
  have hp := sortI_le l
  rw [List.pairwise_iff_getElem] at hp
  obtain ⟨h1, h2⟩ := cu_spec (sortI l) (fun i j hij hj => by
    rw [hg i (by omega), hg j hj, getElem!_pos (sortI l) i (by omega), getElem!_pos (sortI l) j hj]
    by_cases e : i = j
    · subst e; exact Int.le_refl _
    · exact hp i j (by omega) hj (by omega)) _ (Nat.le_refl _)
  refine ⟨h1, fun x => (h2 x).trans ?_⟩
  rw [← sortI_mem]
  constructor
  · rintro ⟨j, hj, rfl⟩
    rw [hg j hj, getElem!_pos (sortI l) j hj]
    exact List.getElem_mem hj
  · intro h
    obtain ⟨j, hj, e⟩ := List.getElem_of_mem h
    exact ⟨j, hj, by rw [hg j hj, getElem!_pos (sortI l) j hj]; exact e⟩

/-! ### One by one, each where it belongs -/
/-- How many of a list are ahead of a number. -/
def ahd (c : Int) : List Int → Nat
  | [] => 0
  | x :: t => if x < c then ahd c t + 1 else 0
theorem ahd_le (c : Int) : ∀ s : List Int, ahd c s ≤ s.length
  | [] => Nat.le_refl _
  | x :: t => by
    have := ahd_le c t
    rw [ahd]
    split
    · rw [List.length_cons]; omega
    · omega
theorem ahd_lt (c : Int) : ∀ (s : List Int) (j : Nat) (x : Int), j < ahd c s → s[j]? = some x → x < c
  | [], j, x, h, _ => by rw [ahd] at h; omega
  | y :: t, j, x, h, hx => by
    rw [ahd] at h
    split at h
    · cases j with
      | zero => simp at hx; omega
      | succ j => exact ahd_lt c t j x (by omega) (by simpa using hx)
    · omega
theorem ahd_ge (c : Int) : ∀ (s : List Int) (x : Int), s[ahd c s]? = some x → ¬ x < c
  | [], x, h => by simp at h
  | y :: t, x, h => by
    rw [ahd] at h
    split at h
    · exact ahd_ge c t x (by simpa using h)
    · simp at h; omega
theorem ahd_at (c : Int) : ∀ (s : List Int) (k : Nat), k ≤ s.length → (∀ j x, j < k → s[j]? = some x → x < c) → (∀ x, s[k]? = some x → ¬ x < c) → ahd c s = k
  | [], k, hk, _, _ => by simp at hk; subst hk; rfl
  | y :: t, 0, _, _, h2 => by rw [ahd, if_neg (h2 y rfl)]
  | y :: t, k + 1, hk, h1, h2 => by
    rw [ahd, if_pos (h1 0 y (by omega) rfl), ahd_at c t k (by simpa using hk) (fun j x hj hx => h1 (j + 1) x (by omega) (by simpa using hx)) (fun x hx => h2 x (by simpa using hx))]
def insC (c : Int) (s : List Int) : List Int := if s[ahd c s]? = some c then s else s.take (ahd c s) ++ c :: s.drop (ahd c s)
theorem insC_spec (c : Int) (s : List Int) (hs : s.Pairwise (· < ·)) : (insC c s).Pairwise (· < ·) ∧ ∀ x, x ∈ insC c s ↔ x = c ∨ x ∈ s := by
  unfold insC
  by_cases h : s[ahd c s]? = some c
  · rw [if_pos h]
    refine ⟨hs, fun x => ⟨.inr, ?_⟩⟩
    rintro (rfl | h1)
    · exact List.mem_of_getElem? h
    · exact h1
  · rw [if_neg h]
    have hp := List.pairwise_iff_getElem.1 hs
    have hlo : ∀ x ∈ s.take (ahd c s), x < c := fun x hx => by
      obtain ⟨j, hj, e⟩ := List.getElem_of_mem hx
      rw [List.length_take] at hj
      rw [List.getElem_take] at e
      exact ahd_lt c s j x (by omega) (by rw [List.getElem?_eq_getElem (by omega), e])
    have hhi : ∀ x ∈ s.drop (ahd c s), c < x := fun x hx => by
      obtain ⟨j, hj, e⟩ := List.getElem_of_mem hx
      rw [List.length_drop] at hj
      rw [List.getElem_drop] at e
      have ha : ahd c s < s.length := by omega
      have h0 := List.getElem?_eq_getElem ha
      have h1 := ahd_ge c s _ h0
      have h2 : ¬ s[ahd c s] = c := fun e => h (by rw [h0, e])
      by_cases hj0 : j = 0
      · subst hj0
        rw [← e]
        simp only [Nat.add_zero]
        omega
      · have h3 := hp (ahd c s) (ahd c s + j) ha (by omega) (by omega)
        rw [← e]
        omega
    constructor
    · rw [List.pairwise_append]
      refine ⟨hs.sublist (List.take_sublist _ _), ?_, ?_⟩
      · rw [List.pairwise_cons]
        exact ⟨hhi, hs.sublist (List.drop_sublist _ _)⟩
      · intro x hx y hy
        rcases List.mem_cons.1 hy with rfl | hy
        · exact hlo x hx
        · have := hlo x hx
          have := hhi y hy
          omega
    · intro x
      rw [List.mem_append, List.mem_cons]
      have ht : x ∈ s ↔ x ∈ s.take (ahd c s) ∨ x ∈ s.drop (ahd c s) := by
        conv => lhs; rw [← List.take_append_drop (ahd c s) s]
        rw [List.mem_append]
      rw [ht]
      constructor
      · rintro (h1 | h1 | h1)
        · exact .inr (.inl h1)
        · exact .inl h1
        · exact .inr (.inr h1)
      · rintro (h1 | h1 | h1)
        · exact .inr (.inl h1)
        · exact .inl h1
        · exact .inr (.inr h1)
/-- The reference's step. -/
def insN (s : List Int) (n : Nd) : List Int := if n.asks then insC n.col s else s
def colsR (l : List Nd) : List Int := l.foldl insN []
def colsL (l : List Nd) : List Int := (l.filter Nd.asks).map Nd.col
theorem fold_spec : ∀ (l : List Nd) (s : List Int), s.Pairwise (· < ·) → (l.foldl insN s).Pairwise (· < ·) ∧ ∀ x, x ∈ l.foldl insN s ↔ x ∈ s ∨ x ∈ colsL l
  | [], s, hs => ⟨hs, fun x => by simp [colsL]⟩
  | n :: l, s, hs => by
    have h1 : (insN s n).Pairwise (· < ·) ∧ ∀ x, x ∈ insN s n ↔ x ∈ s ∨ (n.asks = true ∧ x = n.col) := by
      unfold insN
      by_cases ha : n.asks = true
      · rw [if_pos ha]
        obtain ⟨h1, h2⟩ := insC_spec n.col s hs
        refine ⟨h1, fun x => ?_⟩
        rw [h2]
        constructor
        · rintro (h | h)
          · exact .inr ⟨ha, h⟩
          · exact .inl h
        · rintro (h | ⟨_, h⟩)
          · exact .inr h
          · exact .inl h
      · rw [if_neg ha]
        exact ⟨hs, fun x => ⟨.inl, fun h => h.elim id fun h => absurd h.1 ha⟩⟩
    obtain ⟨h2, h3⟩ := fold_spec l (insN s n) h1.1
    refine ⟨h2, fun x => ?_⟩
    rw [List.foldl_cons, h3, h1.2]
    unfold colsL
    by_cases ha : n.asks = true
    · rw [List.filter_cons_of_pos ha, List.map_cons, List.mem_cons]
      constructor
      · rintro ((h | ⟨_, h⟩) | h)
        · exact .inl h
        · exact .inr (.inl h)
        · exact .inr (.inr h)
      · rintro (h | h | h)
        · exact .inl (.inl h)
        · exact .inl (.inr ⟨ha, h⟩)
        · exact .inr h
    · rw [List.filter_cons_of_neg ha]
      constructor
      · rintro ((h | ⟨h, _⟩) | h)
        · exact .inl h
        · exact absurd h ha
        · exact .inr h
      · rintro (h | h)
        · exact .inl (.inl h)
        · exact .inr h
theorem cols_same (l : List Nd) : Lib.compact (sortI (colsL l)) = colsR l := by
  obtain ⟨h1, h2⟩ := compact_spec (colsL l)
  obtain ⟨h3, h4⟩ := fold_spec l [] (by simp)
  refine strict_uniq _ _ h1 h3 fun x => ?_
  rw [h2, show colsR l = l.foldl insN [] from rfl, h4]
  simp
end Go.Proofs.Ytheafcfbahdcfaa
