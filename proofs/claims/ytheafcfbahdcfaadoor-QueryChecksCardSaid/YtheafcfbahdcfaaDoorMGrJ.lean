/- The columns that a query needs of each table: plain. Which tables are joined, and why joins may not be, as the reference looks at them: plain. -/
import Derived.Test.YtheafcfbahdcfaaDoorMQyS
import Derived.Test.YtheafcfbahdcfaaDoorMGrC
namespace Go.Proofs.YtheafcfbahdcfaaDoor
set_option linter.unusedVariables false
set_option linter.unusedSimpArgs false
open Go.RowKit

theorem checkK_zero {k : List (List Int)} {q : Qy} (h : (checkK k q).2 = 0) : joinsM k q = 0 := by
  unfold checkK at h
  by_cases e : joinsM k q = 0
  · exact e
  · rw [if_pos e] at h
    exact absurd h e
theorem checkM_zero {l : List Tb} {q : Qy} (h : (checkM l q).2 = 0) : joinedE l q = 0 ∧ joinsM (ktabs l q) q = 0 := by
  unfold checkM at h
  by_cases e : joinedE l q = 0
  · rw [if_neg (fun h2 => h2 e)] at h
    exact ⟨e, checkK_zero h⟩
  · rw [if_pos e] at h
    exact absurd h e
theorem joins_right (ks : List (List Int)) (js : List Jn) (kinds : List Int) (first : Nat) (hk : ks.length = js.length + 1) : ∀ (n j a : Nat) (st ch : Bool), js.length = j + n → joinsF kinds first a (ks.drop j) (js.drop j) st ch = 0 →
    ∀ i (hi : i < js.length), j ≤ i → 0 ≤ (js[i]).right ∧ (js[i]).right < ((ks[i + 1]'(by omega)).length : Int)
  | 0, j, a, st, ch, hn, _, i, hi, hij => by omega
  | n + 1, j, a, st, ch, hn, h, i, hi, hij => by
    rw [joins_step ks js kinds first a j st ch (by omega) (by omega)] at h
    split at h
    · cases h
    · rename_i h1
      split at h
      · cases h
      · by_cases e : i = j
        · subst e
          omega
        · exact joins_right ks js kinds first hk n (j + 1) _ _ _ (by omega) h i hi (by omega)
theorem joinsM_right {ks : List (List Int)} {q : Qy} (hk : ks.length = q.joins.length + 1) (h : joinsM ks q = 0) (i : Nat) (hi : i < q.joins.length) : 0 ≤ (q.joins[i]).right ∧ (q.joins[i]).right < ((ks[i + 1]'(by omega)).length : Int) :=
  joins_right ks q.joins _ _ hk q.joins.length 0 0 true true (by omega) h i hi (by omega)

theorem joinCols_snoc : ∀ (ks : List (List Int)) (js : List Jn) (a j : Nat) (hj : j < js.length), j < ks.length → joinCols a ks (js.take (j + 1)) = joinCols a ks (js.take j) ++ [(js[j]).left, ((a + (ks.take (j + 1)).flatten.length : Nat) : Int) + (js[j]).right]
  | x :: t, y :: r, a, 0, _, _ => by simp [joinCols]
  | x :: t, y :: r, a, j + 1, hj, hk => by
    rw [List.take_succ_cons, List.take_succ_cons, joinCols, joinCols, joinCols_snoc t r (a + x.length) j (by simpa using hj) (by simpa using hk)]
    rw [List.take_succ_cons, List.flatten_cons, List.length_append, List.getElem_cons_succ, Nat.add_assoc]
    rfl
theorem joinCols_none : ∀ (a : Nat) (ks : List (List Int)), joinCols a ks [] = []
  | _, [] => rfl
  | _, _ :: _ => rfl
theorem needsF_snoc (all : List Int) : ∀ (l : List (List Int)) (a : Nat) (x : List Int), needsF all a (l ++ [x]) = needsF all a l ++ [someC all (a + l.flatten.length) x.length]
  | [], a, x => by simp [needsF]
  | y :: l, a, x => by
    rw [List.cons_append, needsF, needsF, needsF_snoc all l, List.cons_append, List.flatten_cons, List.length_append, Nat.add_assoc]
theorem needsF_len (all : List Int) : ∀ (l : List (List Int)) (a : Nat), (needsF all a l).length = l.length
  | [], _ => rfl
  | y :: l, a => by rw [needsF, List.length_cons, List.length_cons, needsF_len all l]
theorem colsR_len (l : List Nd) : (colsR l).length ≤ l.length := by
  rw [← cols_same]
  have h1 := Lib.compact_length_le (sortI (colsL l))
  rw [sortI_len] at h1
  have h2 : (colsL l).length ≤ l.length := by
    unfold colsL
    rw [List.length_map]
    exact List.length_filter_le _ _
  omega
/-- What lies in one table, as the program takes it: of the columns that are asked for, rising. -/
def inT (a n : Nat) (c : Int) : Bool := decide ((a : Int) ≤ c) && decide (c < ((a + n : Nat) : Int))
def someF (S : List Int) (a n : Nat) : List Int := (S.filter (inT a n)).map fun c => c - (a : Int)
theorem someF_snoc (S : List Int) (c : Int) (a n : Nat) : someF (S ++ [c]) a n = if inT a n c = true then someF S a n ++ [c - (a : Int)] else someF S a n := by
  unfold someF
  rw [List.filter_append, List.map_append]
  by_cases h : inT a n c = true
  · rw [if_pos h, List.filter_cons_of_pos h]
    rfl
  · rw [if_neg h, List.filter_cons_of_neg h]
    simp
theorem some_same (all : List Int) (a n : Nat) : (if someF (Lib.compact (sortI all)) a n = [] then [0] else someF (Lib.compact (sortI all)) a n) = someC all a n := by
  have h : someF (Lib.compact (sortI all)) a n = ((List.range n).filter fun c => decide (((a + c : Nat) : Int) ∈ all)).map fun c : Nat => (c : Int) := by
    obtain ⟨h1, h2⟩ := compact_spec all
    refine strict_uniq _ _ ?_ ?_ fun x => ?_
    · unfold someF
      exact List.Pairwise.map _ (fun x y (hxy : x < y) => (by omega : x - (a : Int) < y - (a : Int))) (h1.filter _)
    · exact List.Pairwise.map _ (fun x y (hxy : x < y) => (by omega : (x : Int) < (y : Int))) (List.pairwise_lt_range.filter _)
    · unfold someF
      rw [List.mem_map, List.mem_map]
      constructor
      · rintro ⟨c, hc, rfl⟩
        rw [List.mem_filter] at hc
        obtain ⟨hc1, hc2⟩ := hc
        rw [h2] at hc1
        unfold inT at hc2
        rw [Bool.and_eq_true, decide_eq_true_iff, decide_eq_true_iff] at hc2
        refine ⟨(c - (a : Int)).toNat, ?_, by omega⟩
        rw [List.mem_filter, List.mem_range]
        refine ⟨by omega, decide_eq_true ?_⟩
        rwa [show ((a + (c - (a : Int)).toNat : Nat) : Int) = c by omega]
      · rintro ⟨c, hc, rfl⟩
        rw [List.mem_filter, List.mem_range] at hc
        obtain ⟨hc1, hc2⟩ := hc
        refine ⟨((a + c : Nat) : Int), ?_, by omega⟩
        rw [List.mem_filter, h2]
        refine ⟨of_decide_eq_true hc2, ?_⟩
        unfold inT
        rw [decide_eq_true (by omega), decide_eq_true (by omega)]
        rfl
  rw [h]
  rfl
end Go.Proofs.YtheafcfbahdcfaaDoor
namespace Go.Proofs.YtheafcfbahdcfaaDoor
set_option linter.unusedVariables false
set_option linter.unusedSimpArgs false
open Go.RowKit

theorem placesM_at (l : List Tb) : ∀ (r : List (List UInt8)) (p : List Nat), placesM l r = some p → ∀ j (hj : j < r.length), ∃ k, p[j]? = some k ∧ findT l r[j] = some k
  | s :: r, p, h, j, hj => by
    rw [placesM] at h
    cases e : findT l s with
    | none => rw [e] at h; cases h
    | some i =>
      rw [e] at h
      obtain ⟨p1, h1, rfl⟩ := Option.map_eq_some_iff.1 (show (placesM l r).map (i :: ·) = some p from h)
      cases j with
      | zero => exact ⟨i, rfl, e⟩
      | succ j => exact placesM_at l r p1 h1 j (by simpa using hj)
theorem placesM_all (l : List Tb) : ∀ (r : List (List UInt8)), (∀ j (hj : j < r.length), findT l r[j] ≠ none) → ∃ p, placesM l r = some p
  | [], _ => ⟨[], rfl⟩
  | s :: r, h => by
    obtain ⟨p, hp⟩ := placesM_all l r fun j hj => h (j + 1) (by simpa using hj)
    cases e : findT l s with
    | none => exact absurd e (h 0 (by simp))
    | some i => exact ⟨i :: p, by rw [placesM, e]; show (placesM l r).map _ = _; rw [hp]; rfl⟩
theorem twice_yes {l : List Tb} {r : List (List UInt8)} {p : List Nat} (h : placesM l r = some p) {i j : Nat} (hij : i < j) (hj : j < r.length) (e : r[i]'(by omega) = r[j]) : ¬ p.Nodup := by
  obtain ⟨a, ha, fa⟩ := placesM_at l r p h i (by omega)
  obtain ⟨b, hb, fb⟩ := placesM_at l r p h j hj
  rw [e, fb] at fa
  obtain rfl := Option.some.inj fa
  intro hn
  obtain ⟨hi1, hi2⟩ := List.getElem?_eq_some_iff.1 ha
  obtain ⟨hj1, hj2⟩ := List.getElem?_eq_some_iff.1 hb
  have := (List.getElem_inj hn).1 (hi2.trans hj2.symm)
  omega
theorem twice_no {l : List Tb} {r : List (List UInt8)} {p : List Nat} (h : placesM l r = some p) {j k : Nat} (hj : j < r.length) (hk : p[j]? = some k) (hd : ∀ i (hi : i < j), ¬ r[i]'(by omega) = r[j]) : k ∉ p.take j := by
  intro hm
  obtain ⟨i, hi, e⟩ := List.mem_iff_getElem.1 hm
  rw [List.length_take] at hi
  rw [List.getElem_take] at e
  obtain ⟨a, ha, fa⟩ := placesM_at l r p h i (by omega)
  obtain ⟨b, hb, fb⟩ := placesM_at l r p h j hj
  rw [hk] at hb
  obtain rfl := Option.some.inj hb
  obtain ⟨hi1, hi2⟩ := List.getElem?_eq_some_iff.1 ha
  have hab : a = k := by rw [← hi2]; exact e
  subst hab
  exact hd i (by omega) ((findT_lt l _ _ fa).2.symm.trans (findT_lt l _ _ fb).2)
theorem take_nodup {p : List Nat} {j k : Nat} (hk : p[j]? = some k) : p.take (j + 1) = p.take j ++ [k] := by
  obtain ⟨h1, h2⟩ := List.getElem?_eq_some_iff.1 hk
  rw [List.take_succ_eq_append_getElem h1, h2]

/-! ### Joins -/
def jBad (ks : List (List Int)) (j : Nat) (x : Jn) : Prop := x.left < 0 ∨ (preL ks (j + 1) : Int) ≤ x.left ∨ x.right < 0 ∨ (preL ks (j + 2) : Int) - (preL ks (j + 1) : Int) ≤ x.right
def jTyp (ks : List (List Int)) (j : Nat) (x : Jn) : Prop := ks.flatten.getD x.left.toNat 0 ≠ ks.flatten.getD (preL ks (j + 1) + x.right.toNat) 0
def stF (ks : List (List Int)) (js : List Jn) (j : Nat) : Bool := (js.take j).all fun x => decide (x.left < (preL ks 1 : Int))
def chF (ks : List (List Int)) (js : List Jn) : Nat → Bool
  | 0 => true
  | j + 1 => chF ks js j && (match js[j]? with | some x => decide ((preL ks j : Int) ≤ x.left) | none => true)
theorem stF_succ (ks : List (List Int)) (js : List Jn) {j : Nat} (h : j < js.length) : stF ks js (j + 1) = (stF ks js j && decide ((js[j]).left < (preL ks 1 : Int))) := by
  unfold stF
  rw [List.take_succ_eq_append_getElem h, List.all_append]
  simp
theorem chF_succ (ks : List (List Int)) (js : List Jn) {j : Nat} (h : j < js.length) : chF ks js (j + 1) = (chF ks js j && decide ((preL ks j : Int) ≤ (js[j]).left)) := by
  rw [chF, List.getElem?_eq_getElem h]
theorem preL_one (ks : List (List Int)) : preL ks 1 = (ks.headD []).length := by
  cases ks <;> simp [preL]
theorem joins_at {ks : List (List Int)} {q : Qy} (hk : ks.length = q.joins.length + 1) : ∀ (j : Nat), j ≤ q.joins.length → (∀ i (hi : i < q.joins.length), i < j → ¬ jBad ks i q.joins[i] ∧ ¬ jTyp ks i q.joins[i]) →
    joinsM ks q = joinsF ks.flatten (preL ks 1) (preL ks j) (ks.drop j) (q.joins.drop j) (stF ks q.joins j) (chF ks q.joins j)
  | 0, _, _ => by unfold joinsM; rw [preL_one]; rfl
  | j + 1, hj, h => by
    rw [joins_at hk j (by omega) (fun i hi hij => h i hi (by omega)), joins_step ks q.joins _ _ _ j _ _ (by omega) (by omega)]
    obtain ⟨h1, h2⟩ := h j (by omega) (by omega)
    have e1 := preL_succ (ks := ks) (j := j) (by omega)
    have e2 := preL_succ (ks := ks) (j := j + 1) (by omega)
    rw [if_neg, if_neg, stF_succ ks q.joins (by omega), chF_succ ks q.joins (by omega), e1]
    · intro h3; exact h2 (by unfold jTyp; rw [e1]; exact h3)
    · intro h3; refine h1 ?_; unfold jBad; rw [e2, e1]; rcases h3 with h3 | h3 | h3 | h3
      · exact .inl h3
      · exact .inr (.inl h3)
      · exact .inr (.inr (.inl h3))
      · exact .inr (.inr (.inr (by omega)))
theorem joins_bad {ks : List (List Int)} {q : Qy} (hk : ks.length = q.joins.length + 1) (j : Nat) (hj : j < q.joins.length) (h : ∀ i (hi : i < q.joins.length), i < j → ¬ jBad ks i q.joins[i] ∧ ¬ jTyp ks i q.joins[i]) (hb : jBad ks j q.joins[j]) : joinsM ks q = 1 := by
  rw [joins_at hk j (by omega) h, joins_step ks q.joins _ _ _ j _ _ (by omega) hj, if_pos]
  have e1 := preL_succ (ks := ks) (j := j) (by omega)
  have e2 := preL_succ (ks := ks) (j := j + 1) (by omega)
  unfold jBad at hb
  rw [e2, e1] at hb
  rcases hb with h3 | h3 | h3 | h3
  · exact .inl h3
  · exact .inr (.inl h3)
  · exact .inr (.inr (.inl h3))
  · exact .inr (.inr (.inr (by omega)))
theorem joins_typ {ks : List (List Int)} {q : Qy} (hk : ks.length = q.joins.length + 1) (j : Nat) (hj : j < q.joins.length) (h : ∀ i (hi : i < q.joins.length), i < j → ¬ jBad ks i q.joins[i] ∧ ¬ jTyp ks i q.joins[i]) (hb : ¬ jBad ks j q.joins[j]) (ht : jTyp ks j q.joins[j]) : joinsM ks q = 7 := by
  have e1 := preL_succ (ks := ks) (j := j) (by omega)
  have e2 := preL_succ (ks := ks) (j := j + 1) (by omega)
  rw [joins_at hk j (by omega) h, joins_step ks q.joins _ _ _ j _ _ (by omega) hj, if_neg, if_pos]
  · unfold jTyp at ht; rw [e1] at ht; exact ht
  · intro h3; refine hb ?_; unfold jBad; rw [e2, e1]; rcases h3 with h3 | h3 | h3 | h3
    · exact .inl h3
    · exact .inr (.inl h3)
    · exact .inr (.inr (.inl h3))
    · exact .inr (.inr (.inr (by omega)))
theorem joins_good {ks : List (List Int)} {q : Qy} (hk : ks.length = q.joins.length + 1) (h : ∀ i (hi : i < q.joins.length), ¬ jBad ks i q.joins[i] ∧ ¬ jTyp ks i q.joins[i]) : joinsM ks q = if (stF ks q.joins q.joins.length || chF ks q.joins q.joins.length) = true then 0 else 232 := by
  rw [joins_at hk q.joins.length (Nat.le_refl _) (fun i hi _ => h i hi), joins_end _ _ _ _ _ _ _ _ (Nat.le_refl _)]
end Go.Proofs.YtheafcfbahdcfaaDoor
