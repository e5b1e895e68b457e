/- Values in order, and rows in order joined: a plain law, with no program in sight. -/
import Derived.Test.YtghaffafglfdlaaJoO
import Derived.Test.YtghaffafglfdlaaJoF
namespace Go.Proofs.Ytghaffafglfdlaa
open Go.RowKit

theorem bl_irrefl : ∀ a : List UInt8, Op.bytesLess a a = false
  | [] => rfl
  | x :: a => by
    unfold Op.bytesLess
    rw [bl_irrefl a]
    simp
theorem bl_trans : ∀ {a b c : List UInt8}, Op.bytesLess a b = true → Op.bytesLess b c = true → Op.bytesLess a c = true
  | _, [], _, h, _ => by unfold Op.bytesLess at h; cases h
  | _, _ :: _, [], _, h => by unfold Op.bytesLess at h; cases h
  | [], _ :: _, _ :: _, _, _ => rfl
  | x :: a, y :: b, z :: c, h1, h2 => by
    unfold Op.bytesLess at h1 h2 ⊢
    simp only [Bool.or_eq_true, Bool.and_eq_true, decide_eq_true_eq, beq_iff_eq] at h1 h2 ⊢
    rcases h1 with h1 | ⟨rfl, h1⟩
    · rcases h2 with h2 | ⟨rfl, h2⟩
      · exact .inl (UInt8.lt_trans h1 h2)
      · exact .inl h1
    · rcases h2 with h2 | ⟨rfl, h2⟩
      · exact .inl h2
      · exact .inr ⟨rfl, bl_trans h1 h2⟩
theorem bl_tri : ∀ {a b : List UInt8}, a ≠ b → Op.bytesLess a b = true ∨ Op.bytesLess b a = true
  | [], [], h => absurd rfl h
  | [], _ :: _, _ => .inl rfl
  | _ :: _, [], _ => .inr rfl
  | x :: a, y :: b, h => by
    unfold Op.bytesLess
    simp only [Bool.or_eq_true, Bool.and_eq_true, decide_eq_true_eq, beq_iff_eq]
    by_cases e : x = y
    · subst e
      rcases bl_tri (a := a) (b := b) (fun e2 => h (by rw [e2])) with h1 | h1
      · exact .inl (.inr ⟨rfl, h1⟩)
      · exact .inr (.inr ⟨rfl, h1⟩)
    · have hn : x.toNat ≠ y.toNat := fun e2 => e (UInt8.toNat_inj.1 e2)
      rcases Nat.lt_or_gt_of_ne hn with h1 | h1
      · exact .inl (.inl (UInt8.lt_iff_toNat_lt.2 h1))
      · exact .inr (.inl (UInt8.lt_iff_toNat_lt.2 h1))

theorem cmpI_neg (a b : Int) : cmpI a b < 0 ↔ a < b := by unfold cmpI; split <;> (try split) <;> omega
theorem cmpI_zero (a b : Int) : cmpI a b = 0 ↔ a = b := by unfold cmpI; split <;> (try split) <;> omega
theorem cmpS_neg (a b : List UInt8) : cmpS a b < 0 ↔ Op.bytesLess a b = true := by
  unfold cmpS
  split
  · rename_i h; simp [h]
  · rename_i h; split <;> simp [h]
theorem cmpS_zero (a b : List UInt8) : cmpS a b = 0 ↔ a = b := by
  unfold cmpS
  split
  · rename_i h
    constructor
    · intro h2; omega
    · rintro rfl
      rw [bl_irrefl] at h
      cases h
  · split
    · rename_i h; simp [h]
    · rename_i h; simp [h]

/-- A value stands ahead of another one, by kind, number, text. -/
def ltV (x y : Va) : Prop := x.k < y.k ∨ (x.k = y.k ∧ (x.n < y.n ∨ (x.n = y.n ∧ Op.bytesLess x.s y.s = true)))
theorem cmpVa_neg (x y : Va) : cmpVa x y < 0 ↔ ltV x y := by
  unfold cmpVa or3 ltV
  have h1 := cmpI_neg x.k y.k
  have h2 := cmpI_zero x.k y.k
  have h3 := cmpI_neg x.n y.n
  have h4 := cmpI_zero x.n y.n
  have h5 := cmpS_neg x.s y.s
  split
  · rename_i h
    constructor
    · intro h6; exact .inl (h1.1 h6)
    · rintro (h6 | ⟨h6, _⟩)
      · exact h1.2 h6
      · exact absurd (h2.2 h6) h
  · rename_i h
    have hk : x.k = y.k := h2.1 (by omega)
    split
    · rename_i h'
      constructor
      · intro h6; exact .inr ⟨hk, .inl (h3.1 h6)⟩
      · rintro (h6 | ⟨_, h6 | ⟨h6, _⟩⟩)
        · omega
        · exact h3.2 h6
        · exact absurd (h4.2 h6) h'
    · rename_i h'
      have hn : x.n = y.n := h4.1 (by omega)
      constructor
      · intro h6; exact .inr ⟨hk, .inr ⟨hn, h5.1 h6⟩⟩
      · rintro (h6 | ⟨_, h6 | ⟨_, h6⟩⟩)
        · omega
        · omega
        · exact h5.2 h6
theorem cmpVa_zero (x y : Va) : cmpVa x y = 0 ↔ x = y := by
  unfold cmpVa or3
  have h2 := cmpI_zero x.k y.k
  have h4 := cmpI_zero x.n y.n
  have h6 := cmpS_zero x.s y.s
  obtain ⟨k, n, s⟩ := x
  obtain ⟨k', n', s'⟩ := y
  dsimp only at *
  split
  · rename_i h
    constructor
    · intro h7; exact absurd h7 h
    · intro h7
      injection h7 with h7
      exact absurd (h2.2 h7) h
  · split
    · rename_i h
      constructor
      · intro h7; exact absurd h7 h
      · intro h7
        injection h7 with _ h7
        exact absurd (h4.2 h7) h
    · rename_i h h'
      have hk : k = k' := h2.1 (by omega)
      have hn : n = n' := h4.1 (by omega)
      rw [h6]
      constructor
      · intro h7; rw [hk, hn, h7]
      · intro h7
        injection h7
theorem ltV_trans {x y z : Va} (h1 : ltV x y) (h2 : ltV y z) : ltV x z := by
  unfold ltV at *
  rcases h1 with h1 | ⟨e1, h1 | ⟨f1, h1⟩⟩
  · rcases h2 with h2 | ⟨e2, _⟩
    · exact .inl (by omega)
    · exact .inl (by omega)
  · rcases h2 with h2 | ⟨e2, h2 | ⟨f2, h2⟩⟩
    · exact .inl (by omega)
    · exact .inr ⟨by omega, .inl (by omega)⟩
    · exact .inr ⟨by omega, .inl (by omega)⟩
  · rcases h2 with h2 | ⟨e2, h2 | ⟨f2, h2⟩⟩
    · exact .inl (by omega)
    · exact .inr ⟨by omega, .inl (by omega)⟩
    · exact .inr ⟨by omega, .inr ⟨by omega, bl_trans h1 h2⟩⟩
theorem ltV_irrefl (x : Va) : ¬ ltV x x := by
  unfold ltV
  rw [bl_irrefl]
  rintro (h | ⟨_, h | ⟨_, h⟩⟩)
  · omega
  · omega
  · cases h
theorem ltV_tri {x y : Va} (h : x ≠ y) : ltV x y ∨ ltV y x := by
  obtain ⟨k, n, s⟩ := x
  obtain ⟨k', n', s'⟩ := y
  unfold ltV
  dsimp only
  by_cases hk : k = k'
  · by_cases hn : n = n'
    · rcases bl_tri (a := s) (b := s') (fun e => h (by rw [hk, hn, e])) with h1 | h1
      · exact .inl (.inr ⟨hk, .inr ⟨hn, h1⟩⟩)
      · exact .inr (.inr ⟨hk.symm, .inr ⟨hn.symm, h1⟩⟩)
    · by_cases h1 : n < n'
      · exact .inl (.inr ⟨hk, .inl h1⟩)
      · exact .inr (.inr ⟨hk.symm, .inl (by omega)⟩)
  · by_cases h1 : k < k'
    · exact .inl (.inl h1)
    · exact .inr (.inl (by omega))

/-- A value stands ahead of another one, nothing ahead of all. -/
def ltO (x y : Va) : Prop := (x.k = 0 ∧ y.k ≠ 0) ∨ (x.k ≠ 0 ∧ y.k ≠ 0 ∧ ltV x y)
theorem oneV_neg (x y : Va) : oneV x y < 0 ↔ ltO x y := by
  unfold oneV ltO
  by_cases hx : x.k = 0
  · by_cases hy : y.k = 0
    · rw [if_pos ⟨hx, hy⟩]
      constructor
      · intro h; omega
      · rintro (⟨_, h⟩ | ⟨h, _⟩)
        · exact absurd hy h
        · exact absurd hx h
    · rw [if_neg (fun h => hy h.2), if_pos hx]
      exact ⟨fun _ => .inl ⟨hx, hy⟩, fun _ => by omega⟩
  · rw [if_neg (fun h => hx h.1), if_neg hx]
    by_cases hy : y.k = 0
    · rw [if_pos hy]
      constructor
      · intro h; omega
      · rintro (⟨h, _⟩ | ⟨_, h, _⟩)
        · exact absurd h hx
        · exact absurd hy h
    · rw [if_neg hy, cmpVa_neg]
      exact ⟨fun h => .inr ⟨hx, hy, h⟩, fun h => by
        rcases h with ⟨h, _⟩ | ⟨_, _, h⟩
        · exact absurd h hx
        · exact h⟩
theorem ltO_trans {x y z : Va} (h1 : ltO x y) (h2 : ltO y z) : ltO x z := by
  unfold ltO at *
  rcases h1 with ⟨h1, h1'⟩ | ⟨h1, h1', h1''⟩
  · rcases h2 with ⟨h2, _⟩ | ⟨_, h2, _⟩
    · exact absurd h2 h1'
    · exact .inl ⟨h1, h2⟩
  · rcases h2 with ⟨h2, _⟩ | ⟨_, h2, h2'⟩
    · exact absurd h2 h1'
    · exact .inr ⟨h1, h2, ltV_trans h1'' h2'⟩
theorem ltO_irrefl (x : Va) : ¬ ltO x x := by
  rintro (⟨h1, h2⟩ | ⟨_, _, h⟩)
  · exact h2 h1
  · exact ltV_irrefl x h
/-- Values that may be: there is one nothing. -/
theorem right_nil {x : Va} (h : rightV x = true) (h0 : x.k = 0) : x = Va.nil := by
  obtain ⟨k, n, s⟩ := x
  unfold rightV at h
  dsimp only at h h0
  subst h0
  rw [if_pos rfl] at h
  have := of_decide_eq_true h
  rw [this.1, this.2]
  rfl
theorem ltO_tri {x y : Va} (hx : rightV x = true) (hy : rightV y = true) (h : x ≠ y) : ltO x y ∨ ltO y x := by
  by_cases h1 : x.k = 0
  · by_cases h2 : y.k = 0
    · exact absurd ((right_nil hx h1).trans (right_nil hy h2).symm) h
    · exact .inl (.inl ⟨h1, h2⟩)
  · by_cases h2 : y.k = 0
    · exact .inr (.inl ⟨h2, h1⟩)
    · rcases ltV_tri h with h3 | h3
      · exact .inl (.inr ⟨h1, h2, h3⟩)
      · exact .inr (.inr ⟨h2, h1, h3⟩)
/-- What stands ahead of, or like, is not behind. -/
def leO (x y : Va) : Prop := ¬ ltO y x
theorem ltO_neg_trans {x y z : Va} (h : ltO x z) : ltO x y ∨ ltO y z := by
  rcases h with ⟨h1, h2⟩ | ⟨h1, h2, h3⟩
  · by_cases hy : y.k = 0
    · exact .inr (.inl ⟨hy, h2⟩)
    · exact .inl (.inl ⟨h1, hy⟩)
  · by_cases hy : y.k = 0
    · exact .inr (.inl ⟨hy, h2⟩)
    · by_cases e : y = z
      · rw [e]; exact .inl (.inr ⟨h1, h2, h3⟩)
      · rcases ltV_tri e with h4 | h4
        · exact .inr (.inr ⟨hy, h2, h4⟩)
        · exact .inl (.inr ⟨h1, hy, ltV_trans h3 h4⟩)
theorem leO_trans {x y z : Va} (h1 : leO x y) (h2 : leO y z) : leO x z := fun h => by
  rcases ltO_neg_trans (y := y) h with h3 | h3
  · exact h2 h3
  · exact h1 h3
theorem leO_total (x y : Va) : leO x y ∨ leO y x := by
  by_cases h : ltO y x
  · exact .inr fun h2 => ltO_irrefl _ (ltO_trans h h2)
  · exact .inl h
theorem ltO_of_lt_le {x y z : Va} (h1 : ltO x y) (h2 : leO y z) : ltO x z := by
  rcases ltO_neg_trans (y := z) h1 with h | h
  · exact h
  · exact absurd h h2
theorem ltO_ne {x y : Va} (h : ltO x y) : x ≠ y := fun e => ltO_irrefl y (e ▸ h)

/-- Rows in order by a column, each against all that stand behind. -/
def Ord (rs : List RowM) (col : Int) : Prop := rs.Pairwise fun x y => leO (colAt x col) (colAt y col)
theorem inOrder_at {rs : List RowM} {col : Int} (h : inOrder rs col) : ∀ (d i : Nat), i + d < rs.length → leO (colAt (rs.getD i []) col) (colAt (rs.getD (i + d) []) col)
  | 0, i, _ => fun h2 => ltO_irrefl _ h2
  | d + 1, i, hl => leO_trans (inOrder_at h d i (by omega)) fun h2 => h (i + d + 1) (by omega) (by omega) ((oneV_neg _ _).2 h2)
theorem ord_of {rs : List RowM} {col : Int} (h : inOrder rs col) : Ord rs col := by
  unfold Ord
  rw [List.pairwise_iff_getElem]
  intro i j hi hj hij
  have := inOrder_at h (j - i) i (by omega)
  rw [show i + (j - i) = j from by omega] at this
  rw [List.getD, List.getD, List.getElem?_eq_getElem hi, List.getElem?_eq_getElem hj] at this
  exact this
theorem of_ord {rs : List RowM} {col : Int} (h : Ord rs col) : inOrder rs col := fun i h0 hi h2 => by
  unfold Ord at h
  rw [List.pairwise_iff_getElem] at h
  have := h (i - 1) i (by omega) hi (by omega)
  unfold downAt at h2
  rw [List.getD, List.getD, List.getElem?_eq_getElem hi, List.getElem?_eq_getElem (by omega)] at h2
  exact this ((oneV_neg _ _).1 h2)
theorem Ord.drop {rs : List RowM} {col : Int} (h : Ord rs col) (n : Nat) : Ord (rs.drop n) col := List.Pairwise.sublist (List.drop_sublist n rs) h

/-- How many of the first rows have the same value in a column. -/
def runN (rs : List RowM) (col : Int) : Nat := match rs with | [] => 0 | x :: _ => (rs.takeWhile fun y => decide (colAt y col = colAt x col)).length
theorem runN_pos {x : RowM} {rs : List RowM} {col : Int} : 0 < runN (x :: rs) col := by
  show 0 < ((x :: rs).takeWhile fun y => decide (colAt y col = colAt x col)).length
  rw [List.takeWhile_cons, if_pos (by simp)]
  simp
theorem runN_le (rs : List RowM) (col : Int) : runN rs col ≤ rs.length := by
  unfold runN
  split
  · exact Nat.zero_le _
  · exact (List.takeWhile_sublist _).length_le
theorem takeWhile_take {α : Type} (p : α → Bool) : ∀ l : List α, l.take (l.takeWhile p).length = l.takeWhile p ∧ l.drop (l.takeWhile p).length = l.dropWhile p
  | [] => ⟨rfl, rfl⟩
  | x :: l => by
    by_cases h : p x = true
    · rw [List.takeWhile_cons, if_pos h, List.dropWhile_cons, if_pos h]
      have := takeWhile_take p l
      exact ⟨by rw [List.length_cons, List.take_succ_cons, this.1], by rw [List.length_cons, List.drop_succ_cons, this.2]⟩
    · rw [List.takeWhile_cons, if_neg h, List.dropWhile_cons, if_neg h]
      exact ⟨rfl, rfl⟩
theorem mem_takeWhile {α : Type} {p : α → Bool} : ∀ {l : List α} {y : α}, y ∈ l.takeWhile p → p y = true
  | x :: l, y, h => by
    rw [List.takeWhile_cons] at h
    split at h
    · rcases List.mem_cons.1 h with rfl | h
      · assumption
      · exact mem_takeWhile h
    · cases h
  | [], _, h => by cases h
theorem run_in {x : RowM} {rs : List RowM} {col : Int} {y : RowM} (h : y ∈ (x :: rs).take (runN (x :: rs) col)) : colAt y col = colAt x col := by
  unfold runN at h
  rw [(takeWhile_take _ _).1] at h
  have h' := mem_takeWhile h
  exact of_decide_eq_true h'
theorem head_dropWhile {α : Type} (p : α → Bool) : ∀ (l : List α) {y : α} {t : List α}, l.dropWhile p = y :: t → p y = false
  | [], _, _, h => by cases h
  | x :: l, y, t, h => by
    rw [List.dropWhile_cons] at h
    split at h
    · exact head_dropWhile p l h
    · rename_i h2
      injection h with h _
      subst h
      simpa using h2
theorem colAt_right {r : RowM} (h : ∀ v ∈ r, rightV v = true) (c : Int) : rightV (colAt r c) = true := by
  unfold colAt
  split
  · rfl
  · rename_i hc
    rw [List.getD, List.getElem?_eq_getElem (by omega)]
    exact h _ (List.getElem_mem _)
theorem run_out {x : RowM} {rs : List RowM} {col : Int} (ho : Ord (x :: rs) col) (hr : ∀ z ∈ x :: rs, ∀ v ∈ z, rightV v = true) {y : RowM} (h : y ∈ (x :: rs).drop (runN (x :: rs) col)) : ltO (colAt x col) (colAt y col) := by
  have ho' := ho.drop (runN (x :: rs) col)
  have hd : (x :: rs).drop (runN (x :: rs) col) = (x :: rs).dropWhile fun y => decide (colAt y col = colAt x col) := (takeWhile_take _ _).2
  have hsub : ∀ z ∈ (x :: rs).drop (runN (x :: rs) col), z ∈ x :: rs := fun z hz => List.mem_of_mem_drop hz
  rw [hd] at h ho' hsub
  cases e : (x :: rs).dropWhile fun y => decide (colAt y col = colAt x col) with
  | nil => rw [e] at h; cases h
  | cons z t =>
    rw [e] at h ho' hsub
    have hz := head_dropWhile _ _ e
    have hzx : colAt z col ≠ colAt x col := of_decide_eq_false hz
    have hzm := hsub z (List.mem_cons_self ..)
    have hxz : ltO (colAt x col) (colAt z col) := by
      rcases ltO_tri (colAt_right (hr x (List.mem_cons_self ..)) col) (colAt_right (hr z hzm) col) (fun e => hzx e.symm) with h1 | h1
      · exact h1
      · rcases List.mem_cons.1 hzm with rfl | hm
        · exact absurd rfl hzx
        · exact absurd h1 ((List.pairwise_cons.1 ho).1 z hm)
    rcases List.mem_cons.1 h with rfl | hm
    · exact hxz
    · exact ltO_of_lt_le hxz ((List.pairwise_cons.1 ho').1 y hm)

theorem nestRow_nil {l r : Int} {x : RowM} {b : List RowM} (h : ∀ y ∈ b, goes l r x y = false) : nestRow l r x b = [] := by
  unfold nestRow
  rw [List.filter_eq_nil_iff.2 (fun y hy => by rw [h y hy]; simp)]
  rfl
theorem nestRow_append (l r : Int) (x : RowM) (b b' : List RowM) : nestRow l r x (b ++ b') = nestRow l r x b ++ nestRow l r x b' := by
  unfold nestRow
  rw [List.filter_append, List.map_append]
theorem nested_append (a a' b : List RowM) (l r : Int) : nested (a ++ a') b l r = nested a b l r ++ nested a' b l r := by
  unfold nested
  rw [List.flatMap_append]
theorem nested_none {a b : List RowM} {l r : Int} (h : ∀ x ∈ a, ∀ y ∈ b, goes l r x y = false) : nested a b l r = [] := by
  unfold nested
  rw [List.flatMap_eq_nil_iff]
  exact fun x hx => nestRow_nil (h x hx)
theorem nested_right {a b b' : List RowM} {l r : Int} (h : ∀ x ∈ a, ∀ y ∈ b, goes l r x y = false) : nested a (b ++ b') l r = nested a b' l r := by
  induction a with
  | nil => rfl
  | cons x a ih =>
    unfold nested at *
    rw [List.flatMap_cons, List.flatMap_cons, ih (fun z hz => h z (List.mem_cons_of_mem _ hz)), nestRow_append, nestRow_nil (h x (List.mem_cons_self ..)), List.nil_append]
theorem nested_left {a b b' : List RowM} {l r : Int} (h : ∀ x ∈ a, ∀ y ∈ b', goes l r x y = false) : nested a (b ++ b') l r = nested a b l r := by
  induction a with
  | nil => rfl
  | cons x a ih =>
    unfold nested at *
    rw [List.flatMap_cons, List.flatMap_cons, ih (fun z hz => h z (List.mem_cons_of_mem _ hz)), nestRow_append, nestRow_nil (h x (List.mem_cons_self ..)), List.append_nil]
theorem nested_full {a b : List RowM} {l r : Int} (h : ∀ x ∈ a, ∀ y ∈ b, goes l r x y = true) : nested a b l r = a.flatMap fun x => b.map (x ++ ·) := by
  induction a with
  | nil => rfl
  | cons x a ih =>
    have e : nestRow l r x b = b.map (x ++ ·) := by
      unfold nestRow
      rw [List.filter_eq_self.2 (fun y hy => h x (List.mem_cons_self ..) y hy)]
    unfold nested at *
    rw [List.flatMap_cons, List.flatMap_cons, ih (fun z hz => h z (List.mem_cons_of_mem _ hz)), e]
theorem goes_eq (l r : Int) (x y : RowM) : goes l r x y = decide (colAt y r = colAt x l ∧ (colAt x l).k ≠ 0) := by
  unfold goes eqV
  by_cases h : colAt x l = colAt y r
  · rw [h]
    by_cases h0 : (colAt y r).k = 0
    · simp [h0]
    · simp [h0]
  · have h' : ¬ colAt y r = colAt x l := fun e => h e.symm
    split
    · simp [h']
    · simp [h, h']
theorem goes_false {l r : Int} {x y : RowM} (h : colAt y r = colAt x l → (colAt x l).k = 0) : goes l r x y = false := by
  rw [goes_eq]
  exact decide_eq_false fun h2 => h2.2 (h h2.1)

section
variable {x y : RowM} {a b : List RowM} {l r : Int} (ha : Ord (x :: a) l) (hb : Ord (y :: b) r) (hra : ∀ z ∈ x :: a, ∀ v ∈ z, rightV v = true) (hrb : ∀ z ∈ y :: b, ∀ v ∈ z, rightV v = true)
include hb in
theorem merge_a (h : (colAt x l).k = 0 ∨ ((colAt y r).k ≠ 0 ∧ cmpVa (colAt x l) (colAt y r) < 0)) : nested (x :: a) (y :: b) l r = nested ((x :: a).drop (runN (x :: a) l)) (y :: b) l r := by
  conv => lhs; rw [← List.take_append_drop (runN (x :: a) l) (x :: a)]
  rw [nested_append, nested_none, List.nil_append]
  intro p hp q hq
  refine goes_false fun e => ?_
  rw [run_in hp] at e ⊢
  rcases h with h | ⟨h1, h2⟩
  · exact h
  · by_cases h0 : (colAt x l).k = 0
    · exact h0
    · exfalso
      have hlt : ltO (colAt x l) (colAt y r) := .inr ⟨h0, h1, (cmpVa_neg _ _).1 h2⟩
      have hle : leO (colAt y r) (colAt q r) := by
        rcases List.mem_cons.1 hq with rfl | hm
        · exact fun h => ltO_irrefl _ h
        · exact (List.pairwise_cons.1 hb).1 q hm
      exact ltO_ne (ltO_of_lt_le hlt hle) e.symm
include ha in
theorem merge_b (h0 : (colAt x l).k ≠ 0) (h1 : (colAt y r).k = 0 ∨ ¬ cmpVa (colAt x l) (colAt y r) < 0) (h2 : cmpVa (colAt x l) (colAt y r) ≠ 0) : nested (x :: a) (y :: b) l r = nested (x :: a) ((y :: b).drop (runN (y :: b) r)) l r := by
  conv => lhs; rw [← List.take_append_drop (runN (y :: b) r) (y :: b)]
  refine nested_right fun p hp q hq => goes_false fun e => ?_
  rw [run_in hq] at e
  rw [← e]
  rcases h1 with h1 | h1
  · exact h1
  · by_cases hy : (colAt y r).k = 0
    · exact hy
    · exfalso
      have hlt : ltO (colAt y r) (colAt x l) := by
        refine .inr ⟨hy, h0, ?_⟩
        rcases ltV_tri (fun e => h2 ((cmpVa_zero _ _).2 e)) with h3 | h3
        · exact absurd ((cmpVa_neg _ _).2 h3) h1
        · exact h3
      have hle : leO (colAt x l) (colAt p l) := by
        rcases List.mem_cons.1 hp with rfl | hm
        · exact fun h => ltO_irrefl _ h
        · exact (List.pairwise_cons.1 ha).1 p hm
      exact ltO_ne (ltO_of_lt_le hlt hle) e
include ha hb hra hrb in
theorem merge_both (h0 : (colAt x l).k ≠ 0) (h2 : cmpVa (colAt x l) (colAt y r) = 0) : nested (x :: a) (y :: b) l r = (((x :: a).take (runN (x :: a) l)).flatMap fun p => ((y :: b).take (runN (y :: b) r)).map (p ++ ·)) ++ nested ((x :: a).drop (runN (x :: a) l)) ((y :: b).drop (runN (y :: b) r)) l r := by
  have hxy : colAt x l = colAt y r := (cmpVa_zero _ _).1 h2
  have e1 : nested ((x :: a).take (runN (x :: a) l)) ((y :: b).drop (runN (y :: b) r)) l r = [] := nested_none fun p hp q hq => goes_false fun e => by
    rw [run_in hp, hxy] at e
    exact absurd e.symm (ltO_ne (run_out hb hrb hq))
  have e2 : nested ((x :: a).drop (runN (x :: a) l)) (y :: b) l r = nested ((x :: a).drop (runN (x :: a) l)) ((y :: b).drop (runN (y :: b) r)) l r := by
    conv => lhs; rw [← List.take_append_drop (runN (y :: b) r) (y :: b)]
    refine nested_right fun p hp q hq => goes_false fun e => ?_
    rw [run_in hq, ← hxy] at e
    exact absurd e (ltO_ne (run_out ha hra hp))
  have e3 : nested ((x :: a).take (runN (x :: a) l)) (y :: b) l r = nested ((x :: a).take (runN (x :: a) l)) ((y :: b).take (runN (y :: b) r)) l r := by
    conv => lhs; rw [← List.take_append_drop (runN (y :: b) r) (y :: b)]
    refine nested_left fun p hp q hq => goes_false fun e => ?_
    rw [run_in hp, hxy] at e
    exact absurd e.symm (ltO_ne (run_out hb hrb hq))
  conv => lhs; rw [← List.take_append_drop (runN (x :: a) l) (x :: a)]
  rw [nested_append, e2, e3, nested_full]
  intro p hp q hq
  rw [goes_eq]
  refine decide_eq_true ⟨?_, ?_⟩
  · rw [run_in hp, run_in hq]; exact hxy.symm
  · rw [run_in hp]; exact h0
end
end Go.Proofs.Ytghaffafglfdlaa
