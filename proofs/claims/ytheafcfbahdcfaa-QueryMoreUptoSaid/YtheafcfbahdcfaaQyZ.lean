/- What a query that may be asked tells and needs: plain. -/
import Derived.Test.YtheafcfbahdcfaaQyX
import Derived.Test.YtheafcfbahdcfaaQyI
namespace Go.Proofs.Ytheafcfbahdcfaa
open Go.RowKit

theorem kinds_in {l : List Tb} (h : tablesOk l = true) : ∀ k < l.length, ∀ x ∈ tabK l k, kindT x = true := by
  intro k hk x hx
  have h1 := ((tablesOk_iff l).1 h).2 k hk
  unfold tabK at hx
  rw [List.getD_eq_getElem?_getD, List.getElem?_eq_getElem hk] at hx
  have h2 := h1.1
  unfold tableOk at h2
  rw [Bool.and_eq_true] at h2
  exact List.all_eq_true.1 h2.2 x hx
theorem flat_kinds {l : List Tb} {q : Qy} (h : joinedE l q = 0) : ∀ x ∈ (ktabs l q).flatten, kindT x = true := by
  intro x hx
  obtain ⟨k, hk, hx2⟩ := List.mem_flatten.1 hx
  unfold ktabs at hk
  obtain ⟨i, hi, rfl⟩ := List.mem_map.1 hk
  exact kinds_in (joinedP_some h).1 i (joinedP_lt hi) x hx2
theorem getD_kind {kinds : List Int} (h : ∀ x ∈ kinds, kindT x = true) {c : Int} (hc : inK kinds c = true) : kindT (kinds.getD c.toNat 0) = true := by
  obtain ⟨h1, h2⟩ := of_decide_eq_true (show decide (0 ≤ c ∧ c < (kinds.length : Int)) = true from hc)
  have h3 : c.toNat < kinds.length := by omega
  rw [List.getD_eq_getElem?_getD, List.getElem?_eq_getElem h3]
  exact h _ (List.getElem_mem h3)
theorem group_ok {kinds by_ : List Int} {l : List Ag} (hk : ∀ x ∈ kinds, kindT x = true) (h : (groupK kinds by_ l).2 = 0) : (groupK kinds by_ l).1.length = by_.length + l.length ∧ by_.length + l.length ≤ 8 ∧ ∀ x ∈ (groupK kinds by_ l).1, kindT x = true := by
  unfold groupK at h ⊢
  split at h
  · cases h
  · rename_i h8
    rw [if_neg h8]
    split at h
    · cases h
    · rename_i hb
      rw [if_neg hb]
      split at h
      · cases h
      · rename_i ha
        rw [if_neg ha]
        split at h
        · cases h
        · rename_i hs
          rw [if_neg hs]
          refine ⟨by rw [List.length_append, List.length_map, List.length_map], by omega, fun x hx => ?_⟩
          have hb2 : by_.all (inK kinds) = true := by
            cases e : by_.all (inK kinds) with
            | true => rfl
            | false => rw [e] at hb; exact absurd rfl hb
          have ha2 : l.all (aggOk kinds) = true := by
            cases e : l.all (aggOk kinds) with
            | true => rfl
            | false => exact absurd e ha
          rcases List.mem_append.1 hx with hx | hx
          · obtain ⟨c, hc, rfl⟩ := List.mem_map.1 hx
            exact getD_kind hk (List.all_eq_true.1 hb2 c hc)
          · obtain ⟨g, hg, rfl⟩ := List.mem_map.1 hx
            have h1 := List.all_eq_true.1 ha2 g hg
            unfold aggK
            split
            · rename_i h45
              unfold aggOk at h1
              rw [if_neg (by omega), Bool.and_eq_true] at h1
              exact getD_kind hk h1.2
            · decide
theorem told_ok {kinds : List Int} {q : Qy} (hk : ∀ x ∈ kinds, kindT x = true) (h : (toldM kinds q).2 = 0) : 1 ≤ (toldM kinds q).1.length ∧ (toldM kinds q).1.length ≤ 8 ∧ ∀ x ∈ (toldM kinds q).1, kindT x = true := by
  unfold toldM at h ⊢
  split at h
  · rename_i h0
    rw [if_pos h0]
    split at h
    · cases h
    · rename_i hw
      rw [if_neg hw]
      obtain ⟨h1, h2, h3⟩ := group_ok hk h
      exact ⟨by omega, by omega, h3⟩
  · rename_i h0
    rw [if_neg h0]
    split at h
    · cases h
    · rename_i h1
      rw [if_neg h1]
      split at h
      · rename_i h2
        rw [if_pos h2]
        refine ⟨by rw [List.length_map]; omega, by rw [List.length_map]; omega, fun x hx => ?_⟩
        obtain ⟨c, hc, rfl⟩ := List.mem_map.1 hx
        exact getD_kind hk (List.all_eq_true.1 h2 c hc)
      · cases h
theorem check_ok {l : List Tb} {q : Qy} (h : (checkM l q).2 = 0) : joinedE l q = 0 ∧ 1 ≤ (checkM l q).1.length ∧ (checkM l q).1.length ≤ 8 ∧ ∀ x ∈ (checkM l q).1, kindT x = true := by
  obtain ⟨hj, _⟩ := checkM_zero h
  have e : checkM l q = checkK (ktabs l q) q := by unfold checkM; rw [if_neg (fun h2 => h2 hj)]
  rw [e] at h ⊢
  unfold checkK at h ⊢
  split at h
  · rename_i h1
    exact absurd h h1
  · rename_i h1
    rw [if_neg h1]
    split at h
    · cases h
    · rename_i h2
      rw [if_neg h2]
      split at h
      · rename_i h3
        exact absurd h h3
      · rename_i h3
        rw [if_neg h3]
        split at h
        · rename_i h4
          exact absurd h h4
        · rename_i h4
          rw [if_neg h4]
          have h5 := told_ok (flat_kinds hj) (show (toldM (ktabs l q).flatten q).2 = 0 by omega)
          exact ⟨hj, h5⟩
theorem checkM_no {l : List Tb} {q : Qy} (h : ¬ (checkM l q).2 = 0) : (checkM l q).1 = [] := by
  unfold checkM at h ⊢
  split
  · rfl
  · rename_i h1
    rw [if_neg h1] at h
    unfold checkK at h ⊢
    split
    · rfl
    · rename_i h2
      rw [if_neg h2] at h
      split
      · rfl
      · rename_i h3
        rw [if_neg h3] at h
        split
        · rfl
        · rename_i h4
          rw [if_neg h4] at h
          split
          · rfl
          · rename_i h5
            rw [if_neg h5] at h
            exact absurd rfl h
theorem needs_no {l : List Tb} {q : Qy} (h : ¬ (checkM l q).2 = 0) : needsM l q = ([], (checkM l q).2) := by
  unfold needsM
  rw [if_pos h]
theorem needs_yes {l : List Tb} {q : Qy} (h : (checkM l q).2 = 0) : needsM l q = (needsF (allCols (ktabs l q) q) 0 (ktabs l q), 0) := by
  unfold needsM
  rw [if_neg (fun h2 => h2 h)]
theorem someC_ok (all : List Int) (a : Nat) {n : Nat} (hn : 0 < n) : someC all a n ≠ [] ∧ (∀ c ∈ someC all a n, 0 ≤ c ∧ c < (n : Int)) ∧ (someC all a n).Pairwise (· < ·) := by
  unfold someC
  dsimp only
  split
  · refine ⟨by simp, fun c hc => ?_, List.pairwise_singleton _ _⟩
    rw [List.mem_singleton] at hc
    subst hc
    omega
  · rename_i h
    refine ⟨h, fun c hc => ?_, ?_⟩
    · obtain ⟨x, hx, rfl⟩ := List.mem_map.1 hc
      have := List.mem_range.1 (List.mem_filter.1 hx).1
      omega
    · exact List.Pairwise.map _ (fun x y (hxy : x < y) => (by omega : (x : Int) < (y : Int))) (List.pairwise_lt_range.filter _)
theorem needsF_get (all : List Int) : ∀ (l : List (List Int)) (a i : Nat) (hi : i < l.length), (needsF all a l)[i]? = some (someC all (a + (l.take i).flatten.length) (l[i]).length)
  | x :: l, a, 0, _ => by simp [needsF]
  | x :: l, a, i + 1, hi => by
    rw [needsF, List.getElem?_cons_succ, needsF_get all l (a + x.length) i (by simpa using hi), List.take_succ_cons, List.flatten_cons, List.length_append, List.getElem_cons_succ, Nat.add_assoc]
/-- What is needed of one table. -/
theorem needs_ok {l : List Tb} {q : Qy} (h : (checkM l q).2 = 0) (i : Nat) (hi : i < (joinedP l q).length) :
    ∃ s, (needsM l q).1[i]? = some s ∧ s ≠ [] ∧ (∀ c ∈ s, 0 ≤ c ∧ c < ((tabK l ((joinedP l q)[i])).length : Int)) ∧ s.Pairwise (· < ·) := by
  obtain ⟨hj, _⟩ := checkM_zero h
  rw [needs_yes h]
  have hk : ktabs l q = (joinedP l q).map (tabK l) := rfl
  have hik : i < (ktabs l q).length := by rw [hk, List.length_map]; exact hi
  have hlt : (joinedP l q)[i] < l.length := joinedP_lt (List.getElem_mem hi)
  have hg : (ktabs l q)[i] = tabK l ((joinedP l q)[i]) := by
    have : (ktabs l q)[i]? = some (tabK l ((joinedP l q)[i])) := by rw [hk, List.getElem?_map, List.getElem?_eq_getElem hi]; rfl
    rw [List.getElem?_eq_getElem hik] at this
    exact Option.some.inj this
  have hpos : 0 < (tabK l ((joinedP l q)[i])).length := by
    have h1 := (((tablesOk_iff l).1 (joinedP_some hj).1).2 _ hlt).1
    unfold tableOk at h1
    rw [Bool.and_eq_true, Bool.and_eq_true, decide_eq_true_iff] at h1
    unfold tabK
    rw [List.getD_eq_getElem?_getD, List.getElem?_eq_getElem hlt]
    exact h1.1.2.1
  refine ⟨_, needsF_get _ _ 0 i hik, ?_⟩
  rw [hg]
  exact someC_ok _ _ hpos
theorem needs_len {l : List Tb} {q : Qy} (h : (checkM l q).2 = 0) : (needsM l q).1.length = q.joins.length + 1 ∧ (joinedP l q).length = q.joins.length + 1 := by
  obtain ⟨hj, _⟩ := checkM_zero h
  rw [needs_yes h]
  refine ⟨?_, joinedP_len hj⟩
  rw [needsF_len]
  show ((joinedP l q).map (tabK l)).length = _
  rw [List.length_map, joinedP_len hj]
theorem someC_small (all : List Int) (a : Nat) {n : Nat} (hn : n ≤ 12) : (someC all a n).length ≤ 12 := by
  unfold someC
  dsimp only
  split
  · decide
  · rw [List.length_map]
    have := List.length_filter_le (fun c => decide (((a + c : Nat) : Int) ∈ all)) (List.range n)
    rw [List.length_range] at this
    omega
theorem needsF_small (all : List Int) : ∀ (l : List (List Int)) (a : Nat), (∀ x ∈ l, x.length ≤ 12) → ∀ s ∈ needsF all a l, s.length ≤ 12
  | [], _, _, s, hs => by cases hs
  | x :: l, a, h, s, hs => by
    rw [needsF] at hs
    rcases List.mem_cons.1 hs with rfl | hs
    · exact someC_small all a (h x List.mem_cons_self)
    · exact needsF_small all l _ (fun y hy => h y (List.mem_cons_of_mem _ hy)) s hs
theorem needs_small {l : List Tb} {q : Qy} (hf : FewT l) : ∀ s ∈ (needsM l q).1, s.length ≤ 12 := by
  by_cases h : (checkM l q).2 = 0
  · rw [needs_yes h]
    refine needsF_small _ _ 0 fun x hx => ?_
    obtain ⟨k, _, rfl⟩ := List.mem_map.1 (show x ∈ (joinedP l q).map (tabK l) from hx)
    exact tabK_len hf.kinds k
  · rw [needs_no h]
    intro s hs
    cases hs
end Go.Proofs.Ytheafcfbahdcfaa
