/- The columns that a query needs of each table: plain. -/
import Derived.Test.YtheafcfbahdcfaaQyS
import Derived.Test.YtheafcfbahdcfaaAcM
namespace Go.Proofs.Ytheafcfbahdcfaa
open Go.RowKit

theorem checkK_zero {k : List (List Int)} {q : Qy} (h : (checkK k q).2 = 0) : joinsM k q = 0 := by
  unfold checkK at h
  by_cases e : joinsM k q = 0
  · exact e
  · rw [if_pos e] at h
    exact absurd h e
theorem checkM_zero {l : List Tb} {q : Qy} (h : (checkM l q).2 = 0) : joinedE l q = 0 ∧ joinsM (ktabs l q) q = 0 := by
  unfold checkM at h
  by_cases e : joinedE l q = 0
  · rw [if_neg (fun h2 => h2 e)] at h
    exact ⟨e, checkK_zero h⟩
  · rw [if_pos e] at h
    exact absurd h e
theorem joins_right (ks : List (List Int)) (js : List Jn) (kinds : List Int) (first : Nat) (hk : ks.length = js.length + 1) : ∀ (n j a : Nat) (st ch : Bool), js.length = j + n → joinsF kinds first a (ks.drop j) (js.drop j) st ch = 0 →
    ∀ i (hi : i < js.length), j ≤ i → 0 ≤ (js[i]).right ∧ (js[i]).right < ((ks[i + 1]'(by omega)).length : Int)
  | 0, j, a, st, ch, hn, _, i, hi, hij => by omega
  | n + 1, j, a, st, ch, hn, h, i, hi, hij => by
    rw [joins_step ks js kinds first a j st ch (by omega) (by omega)] at h
    split at h
    · cases h
    · rename_i h1
      split at h
      · cases h
      · by_cases e : i = j
        · subst e
          omega
        · exact joins_right ks js kinds first hk n (j + 1) _ _ _ (by omega) h i hi (by omega)
theorem joinsM_right {ks : List (List Int)} {q : Qy} (hk : ks.length = q.joins.length + 1) (h : joinsM ks q = 0) (i : Nat) (hi : i < q.joins.length) : 0 ≤ (q.joins[i]).right ∧ (q.joins[i]).right < ((ks[i + 1]'(by omega)).length : Int) :=
  joins_right ks q.joins _ _ hk q.joins.length 0 0 true true (by omega) h i hi (by omega)

theorem joinCols_snoc : ∀ (ks : List (List Int)) (js : List Jn) (a j : Nat) (hj : j < js.length), j < ks.length → joinCols a ks (js.take (j + 1)) = joinCols a ks (js.take j) ++ [(js[j]).left, ((a + (ks.take (j + 1)).flatten.length : Nat) : Int) + (js[j]).right]
  | x :: t, y :: r, a, 0, _, _ => by simp [joinCols]
  | x :: t, y :: r, a, j + 1, hj, hk => by
    rw [List.take_succ_cons, List.take_succ_cons, joinCols, joinCols, joinCols_snoc t r (a + x.length) j (by simpa using hj) (by simpa using hk)]
    rw [List.take_succ_cons, List.flatten_cons, List.length_append, List.getElem_cons_succ, Nat.add_assoc]
    rfl
theorem joinCols_none : ∀ (a : Nat) (ks : List (List Int)), joinCols a ks [] = []
  | _, [] => rfl
  | _, _ :: _ => rfl
theorem needsF_snoc (all : List Int) : ∀ (l : List (List Int)) (a : Nat) (x : List Int), needsF all a (l ++ [x]) = needsF all a l ++ [someC all (a + l.flatten.length) x.length]
  | [], a, x => by simp [needsF]
  | y :: l, a, x => by
    rw [List.cons_append, needsF, needsF, needsF_snoc all l, List.cons_append, List.flatten_cons, List.length_append, Nat.add_assoc]
theorem needsF_len (all : List Int) : ∀ (l : List (List Int)) (a : Nat), (needsF all a l).length = l.length
  | [], _ => rfl
  | y :: l, a => by rw [needsF, List.length_cons, List.length_cons, needsF_len all l]
theorem colsR_len (l : List Nd) : (colsR l).length ≤ l.length := by
  rw [← cols_same]
  have h1 := Lib.compact_length_le (sortI (colsL l))
  rw [sortI_len] at h1
  have h2 : (colsL l).length ≤ l.length := by
    unfold colsL
    rw [List.length_map]
    exact List.length_filter_le _ _
  omega
/-- What lies in one table, as the program takes it: of the columns that are asked for, rising. -/
def inT (a n : Nat) (c : Int) : Bool := decide ((a : Int) ≤ c) && decide (c < ((a + n : Nat) : Int))
def someF (S : List Int) (a n : Nat) : List Int := (S.filter (inT a n)).map fun c => c - (a : Int)
theorem someF_snoc (S : List Int) (c : Int) (a n : Nat) : someF (S ++ [c]) a n = if inT a n c = true then someF S a n ++ [c - (a : Int)] else someF S a n := by
  unfold someF
  rw [List.filter_append, List.map_append]
  by_cases h : inT a n c = true
  · rw [if_pos h, List.filter_cons_of_pos h]
    rfl
  · rw [if_neg h, List.filter_cons_of_neg h]
    simp
theorem some_same (all : List Int) (a n : Nat) : (if someF (Lib.compact (sortI all)) a n = [] then [0] else someF (Lib.compact (sortI all)) a n) = someC all a n := by
  have h : someF (Lib.compact (sortI all)) a n = ((List.range n).filter fun c => decide (((a + c : Nat) : Int) ∈ all)).map fun c : Nat => (c : Int) := by
    obtain ⟨h1, h2⟩ := compact_spec all
    refine strict_uniq _ _ ?_ ?_ fun x => ?_
    · unfold someF
      exact List.Pairwise.map _ (fun x y (hxy : x < y) => (by omega : x - (a : Int) < y - (a : Int))) (h1.filter _)
    · exact List.Pairwise.map _ (fun x y (hxy : x < y) => (by omega : (x : Int) < (y : Int))) (List.pairwise_lt_range.filter _)
    · unfold someF
      rw [List.mem_map, List.mem_map]
      constructor
      · rintro ⟨c, hc, rfl⟩
        rw [List.mem_filter] at hc
        obtain ⟨hc1, hc2⟩ := hc
        rw [h2] at hc1
        unfold inT at hc2
        rw [Bool.and_eq_true, decide_eq_true_iff, decide_eq_true_iff] at hc2
        refine ⟨(c - (a : Int)).toNat, ?_, by omega⟩
        rw [List.mem_filter, List.mem_range]
        refine ⟨by omega, decide_eq_true ?_⟩
        rwa [show ((a + (c - (a : Int)).toNat : Nat) : Int) = c by omega]
      · rintro ⟨c, hc, rfl⟩
        rw [List.mem_filter, List.mem_range] at hc
        obtain ⟨hc1, hc2⟩ := hc
        refine ⟨((a + c : Nat) : Int), ?_, by omega⟩
        rw [List.mem_filter, h2]
        refine ⟨of_decide_eq_true hc2, ?_⟩
        unfold inT
        rw [decide_eq_true (by omega), decide_eq_true (by omega)]
        rfl
  rw [h]
  rfl
end Go.Proofs.Ytheafcfbahdcfaa
