/- Words, rising, each once: plain laws. Words of texts, their places, where a text stands among them: plain laws. Where words stand, and how places stand to one another: plain laws. -/
import Derived.Lib.SlicesCompact
import Derived.Lib.RowBridge
import Derived.Sort.Walk0
import Derived.Test.YtojppmnmhdgnnaaMStSt
namespace Go.Proofs.Ytojppmnmhdgnnaa
set_option linter.unusedVariables false
set_option linter.unusedSimpArgs false

/-- A text is less than another one. -/
abbrev wlt (a b : List UInt8) : Prop := a < b
theorem wlt_irrefl (a : List UInt8) : ¬ a < a := List.lt_irrefl a
theorem wlt_trans {a b c : List UInt8} (h : a < b) (h' : b < c) : a < c := List.lt_trans h h'
theorem wlt_tri (a b : List UInt8) : a < b ∨ a = b ∨ b < a := by
  by_cases h : a < b
  · exact .inl h
  · by_cases h2 : b < a
    · exact .inr (.inr h2)
    · exact .inr (.inl (List.le_antisymm (List.not_lt.1 h2) (List.not_lt.1 h)))
theorem wlt_asymm {a b : List UInt8} (h : a < b) : ¬ b < a := fun h2 => wlt_irrefl a (wlt_trans h h2)

/-! ### Lists that rise are told by their members -/
theorem wstrict_uniq : ∀ (a b : List (List UInt8)), a.Pairwise (· < ·) → b.Pairwise (· < ·) → (∀ x, x ∈ a ↔ x ∈ b) → a = b
  | [], [], _, _, _ => rfl
  | [], y :: b, _, _, h => absurd ((h y).2 (List.mem_cons_self ..)) (by simp)
  | x :: a, [], _, _, h => absurd ((h x).1 (List.mem_cons_self ..)) (by simp)
  | x :: a, y :: b, ha, hb, h => by
    rw [List.pairwise_cons] at ha hb
    have hxy : x = y := by
      rcases List.mem_cons.1 ((h x).1 (List.mem_cons_self ..)) with e | h1
      · exact e
      · rcases List.mem_cons.1 ((h y).2 (List.mem_cons_self ..)) with e | h2
        · exact e.symm
        · exact absurd (ha.1 y h2) (wlt_asymm (hb.1 x h1))
    subst hxy
    congr 1
    refine wstrict_uniq a b ha.2 hb.2 fun z => ?_
    constructor
    · intro hz
      rcases List.mem_cons.1 ((h z).1 (List.mem_cons_of_mem _ hz)) with e | h1
      · subst e; exact absurd (ha.1 z hz) (wlt_irrefl z)
      · exact h1
    · intro hz
      rcases List.mem_cons.1 ((h z).2 (List.mem_cons_of_mem _ hz)) with e | h1
      · subst e; exact absurd (hb.1 z hz) (wlt_irrefl z)
      · exact h1

/-! ### Sorted, each once -/
def sortW (l : List (List UInt8)) : List (List UInt8) := l.mergeSort fun x y => decide (x ≤ y)
theorem sortW_le (l : List (List UInt8)) : (sortW l).Pairwise (· ≤ ·) := by
  have h := List.pairwise_mergeSort (le := fun x y : List UInt8 => decide (x ≤ y)) (fun a b c h1 h2 => by
    rw [decide_eq_true_iff] at *; exact List.le_trans h1 h2) (fun a b => by
    rw [Bool.or_eq_true, decide_eq_true_iff, decide_eq_true_iff]; exact List.le_total a b) l
  exact h.imp fun h => of_decide_eq_true h
theorem sortW_mem (l : List (List UInt8)) (x : List UInt8) : x ∈ sortW l ↔ x ∈ l := List.mem_mergeSort
theorem sortW_len (l : List (List UInt8)) : (sortW l).length = l.length := List.length_mergeSort l
theorem wlt_of_le_ne {a b : List UInt8} (h : a ≤ b) (hn : a ≠ b) : a < b := by
  rcases wlt_tri a b with h1 | h1 | h1
  · exact h1
  · exact absurd h1 hn
  · exact absurd h1 (List.not_lt.2 h)
theorem wcu_spec (zs : List (List UInt8)) (hs : ∀ i j, i ≤ j → j < zs.length → zs.toArray[i]! ≤ zs.toArray[j]!) : ∀ m, m ≤ zs.length →
    (Lib.compactUpTo zs.toArray m).Pairwise (· < ·) ∧ ∀ x, x ∈ Lib.compactUpTo zs.toArray m ↔ ∃ j, j < m ∧ zs.toArray[j]! = x
  | 0, _ => ⟨by simp [Lib.compactUpTo], fun x => by simp [Lib.compactUpTo]⟩
  | m + 1, hm => by
    obtain ⟨h1, h2⟩ := wcu_spec zs hs m (by omega)
    rw [Lib.compactUpTo_succ]
    by_cases hk : Lib.keeps zs.toArray m = true
    · rw [if_pos hk]
      have hnew : ∀ x ∈ Lib.compactUpTo zs.toArray m, x < zs.toArray[m]! := fun x hx => by
        obtain ⟨j, hj, rfl⟩ := (h2 x).1 hx
        unfold Lib.keeps at hk
        have hk := of_decide_eq_true hk
        have h3 := hs j (m - 1) (by omega) (by omega)
        have h4 := hs (m - 1) m (by omega) (by omega)
        rcases hk with hk | hk
        · omega
        · have h5 := wlt_of_le_ne h4 (fun e => hk e.symm)
          rcases wlt_tri zs.toArray[j]! zs.toArray[m - 1]! with g | g | g
          · exact wlt_trans g h5
          · rw [g]; exact h5
          · exact absurd g (List.not_lt.2 h3)
      constructor
      · rw [List.pairwise_append]
        exact ⟨h1, by simp, fun x hx y hy => by rw [List.mem_singleton.1 hy]; exact hnew x hx⟩
      · intro x
        rw [List.mem_append, h2, List.mem_singleton]
        constructor
        · rintro (⟨j, hj, e⟩ | e)
          · exact ⟨j, by omega, e⟩
          · exact ⟨m, by omega, e.symm⟩
        · rintro ⟨j, hj, e⟩
          by_cases hjm : j = m
          · subst hjm; exact .inr e.symm
          · exact .inl ⟨j, by omega, e⟩
    · rw [if_neg hk, List.append_nil]
      refine ⟨h1, fun x => ?_⟩
      rw [h2]
      constructor
      · rintro ⟨j, hj, e⟩
        exact ⟨j, by omega, e⟩
      · rintro ⟨j, hj, e⟩
        by_cases hjm : j = m
        · subst hjm
          unfold Lib.keeps at hk
          rw [decide_eq_true_iff] at hk
          have h0 : ¬ j = 0 := fun h => hk (.inl h)
          have h3 : zs.toArray[j]! = zs.toArray[j - 1]! := Classical.byContradiction fun h => hk (.inr h)
          exact ⟨j - 1, by omega, by rw [← h3]; exact e⟩
        · exact ⟨j, by omega, e⟩
/-- The words of texts. -/
def wordsM (l : List (List UInt8)) : List (List UInt8) := Lib.compact (sortW l)
theorem wordsM_spec (l : List (List UInt8)) : (wordsM l).Pairwise (· < ·) ∧ ∀ x, x ∈ wordsM l ↔ x ∈ l := by
  have hg : ∀ j, j < (sortW l).length → (sortW l).toArray[j]! = (sortW l)[j]! := fun j hj => by simp
  have hp := sortW_le l
  rw [List.pairwise_iff_getElem] at hp
  obtain ⟨h1, h2⟩ := wcu_spec (sortW l) (fun i j hij hj => by
    rw [hg i (by omega), hg j hj, getElem!_pos (sortW l) i (by omega), getElem!_pos (sortW l) j hj]
    by_cases e : i = j
    · subst e; exact List.le_refl _
    · exact hp i j (by omega) hj (by omega)) _ (Nat.le_refl _)
  refine ⟨h1, fun x => (h2 x).trans ?_⟩
  rw [← sortW_mem]
  constructor
  · rintro ⟨j, hj, rfl⟩
    rw [hg j hj, getElem!_pos (sortW l) j hj]
    exact List.getElem_mem hj
  · intro h
    obtain ⟨j, hj, e⟩ := List.getElem_of_mem h
    exact ⟨j, hj, by rw [hg j hj, getElem!_pos (sortW l) j hj]; exact e⟩

/-! ### One by one, each where it belongs -/
/-- How many of a list are ahead of a text. -/
def wahd (c : List UInt8) : List (List UInt8) → Nat
  | [] => 0
  | x :: t => if x < c then wahd c t + 1 else 0
theorem wahd_le (c : List UInt8) : ∀ s : List (List UInt8), wahd c s ≤ s.length
  | [] => Nat.le_refl _
  | x :: t => by
    have := wahd_le c t
    rw [wahd]
    split
    · rw [List.length_cons]; omega
    · omega
theorem wahd_lt (c : List UInt8) : ∀ (s : List (List UInt8)) (j : Nat) (x : List UInt8), j < wahd c s → s[j]? = some x → x < c
  | [], j, x, h, _ => by rw [wahd] at h; omega
  | y :: t, j, x, h, hx => by
    rw [wahd] at h
    split at h
    · rename_i h0
      cases j with
      | zero => simp at hx; rw [← hx]; exact h0
      | succ j => exact wahd_lt c t j x (by omega) (by simpa using hx)
    · omega
theorem wahd_ge (c : List UInt8) : ∀ (s : List (List UInt8)) (x : List UInt8), s[wahd c s]? = some x → ¬ x < c
  | [], x, h => by simp at h
  | y :: t, x, h => by
    rw [wahd] at h
    split at h
    · exact wahd_ge c t x (by simpa using h)
    · rename_i h0
      simp at h
      rw [← h]
      exact h0
theorem wahd_at (c : List UInt8) : ∀ (s : List (List UInt8)) (k : Nat), k ≤ s.length → (∀ j x, j < k → s[j]? = some x → x < c) → (∀ x, s[k]? = some x → ¬ x < c) → wahd c s = k
  | [], k, hk, _, _ => by simp at hk; subst hk; rfl
  | y :: t, 0, _, _, h2 => by rw [wahd, if_neg (h2 y rfl)]
  | y :: t, k + 1, hk, h1, h2 => by
    rw [wahd, if_pos (h1 0 y (by omega) rfl), wahd_at c t k (by simpa using hk) (fun j x hj hx => h1 (j + 1) x (by omega) (by simpa using hx)) (fun x hx => h2 x (by simpa using hx))]
def insW (c : List UInt8) (s : List (List UInt8)) : List (List UInt8) := if c ∈ s then s else s.take (wahd c s) ++ c :: s.drop (wahd c s)
theorem insW_spec (c : List UInt8) (s : List (List UInt8)) (hs : s.Pairwise (· < ·)) : (insW c s).Pairwise (· < ·) ∧ ∀ x, x ∈ insW c s ↔ x = c ∨ x ∈ s := by
  unfold insW
  by_cases h : c ∈ s
  · rw [if_pos h]
    refine ⟨hs, fun x => ⟨.inr, ?_⟩⟩
    rintro (rfl | h1)
    · exact h
    · exact h1
  · rw [if_neg h]
    have hp := List.pairwise_iff_getElem.1 hs
    have hlo : ∀ x ∈ s.take (wahd c s), x < c := fun x hx => by
      obtain ⟨j, hj, e⟩ := List.getElem_of_mem hx
      rw [List.length_take] at hj
      rw [List.getElem_take] at e
      exact wahd_lt c s j x (by omega) (by rw [List.getElem?_eq_getElem (by omega), e])
    have hhi : ∀ x ∈ s.drop (wahd c s), c < x := fun x hx => by
      obtain ⟨j, hj, e⟩ := List.getElem_of_mem hx
      rw [List.length_drop] at hj
      rw [List.getElem_drop] at e
      have ha : wahd c s < s.length := by omega
      have h0 := List.getElem?_eq_getElem ha
      have h1 := wahd_ge c s _ h0
      have h2 : ¬ s[wahd c s] = c := fun e => h (by rw [← e]; exact List.getElem_mem ha)
      have h4 : c < s[wahd c s] := by
        rcases wlt_tri c s[wahd c s] with g | g | g
        · exact g
        · exact absurd g.symm h2
        · exact absurd g h1
      by_cases hj0 : j = 0
      · subst hj0
        rw [← e]
        simp only [Nat.add_zero]
        exact h4
      · rw [← e]
        exact wlt_trans h4 (hp (wahd c s) (wahd c s + j) ha (by omega) (by omega))
    constructor
    · rw [List.pairwise_append]
      refine ⟨hs.sublist (List.take_sublist _ _), ?_, ?_⟩
      · rw [List.pairwise_cons]
        exact ⟨hhi, hs.sublist (List.drop_sublist _ _)⟩
      · intro x hx y hy
        rcases List.mem_cons.1 hy with rfl | hy
        · exact hlo x hx
        · exact wlt_trans (hlo x hx) (hhi y hy)
    · intro x
      rw [List.mem_append, List.mem_cons]
      have ht : x ∈ s ↔ x ∈ s.take (wahd c s) ∨ x ∈ s.drop (wahd c s) := by
        conv => lhs; rw [← List.take_append_drop (wahd c s) s]
        rw [List.mem_append]
      rw [ht]
      constructor
      · rintro (h1 | h1 | h1)
        · exact .inr (.inl h1)
        · exact .inl h1
        · exact .inr (.inr h1)
      · rintro (h1 | h1 | h1)
        · exact .inr (.inl h1)
        · exact .inl h1
        · exact .inr (.inr h1)
theorem insW_len (c : List UInt8) (s : List (List UInt8)) : (insW c s).length = if c ∈ s then s.length else s.length + 1 := by
  unfold insW
  split
  · rfl
  · have := wahd_le c s
    rw [List.length_append, List.length_cons, List.length_take, List.length_drop]
    omega
theorem wfold_spec : ∀ (l s : List (List UInt8)), s.Pairwise (· < ·) → (l.foldl (fun s c => insW c s) s).Pairwise (· < ·) ∧ ∀ x, x ∈ l.foldl (fun s c => insW c s) s ↔ x ∈ s ∨ x ∈ l
  | [], s, hs => ⟨hs, fun x => by simp⟩
  | n :: l, s, hs => by
    obtain ⟨h1, h2⟩ := insW_spec n s hs
    obtain ⟨h3, h4⟩ := wfold_spec l (insW n s) h1
    refine ⟨h3, fun x => ?_⟩
    rw [List.foldl_cons, h4, h2, List.mem_cons]
    constructor
    · rintro ((h | h) | h)
      · exact .inr (.inl h)
      · exact .inl h
      · exact .inr (.inr h)
    · rintro (h | h | h)
      · exact .inl (.inr h)
      · exact .inl (.inl h)
      · exact .inr h
theorem words_same (l : List (List UInt8)) : wordsM l = l.foldl (fun s c => insW c s) [] := by
  obtain ⟨h1, h2⟩ := wordsM_spec l
  obtain ⟨h3, h4⟩ := wfold_spec l [] (by simp)
  refine wstrict_uniq _ _ h1 h3 fun x => ?_
  rw [h2, h4]
  simp
theorem wfold_mono : ∀ (l s : List (List UInt8)), s.length ≤ (l.foldl (fun s c => insW c s) s).length
  | [], s => Nat.le_refl _
  | n :: l, s => by
    have h1 := wfold_mono l (insW n s)
    have h2 := insW_len n s
    rw [List.foldl_cons]
    split at h2 <;> omega

/-- A text's place among others; -1: it is none. -/
def placeM (l : List (List UInt8)) (s : List UInt8) : Int := if s ∈ l then (l.idxOf s : Int) else -1
theorem wahd_idx {l : List (List UInt8)} (hl : l.Pairwise (· < ·)) {s : List UInt8} (h : s ∈ l) : l.idxOf s = wahd s l ∧ l[wahd s l]? = some s := by
  have hi := List.idxOf_lt_length_of_mem h
  have hp := List.pairwise_iff_getElem.1 hl
  have hg : l[l.idxOf s] = s := List.getElem_idxOf hi
  have hk : wahd s l = l.idxOf s := by
    refine wahd_at s l (l.idxOf s) (by omega) (fun j x hj hx => ?_) (fun x hx => ?_)
    · have := hp j (l.idxOf s) (by omega) hi hj
      rw [hg] at this
      rw [List.getElem?_eq_getElem (by omega)] at hx
      cases hx
      exact this
    · rw [List.getElem?_eq_getElem hi, hg] at hx
      cases hx
      exact wlt_irrefl s
  refine ⟨hk.symm, ?_⟩
  rw [hk, List.getElem?_eq_getElem hi, hg]
theorem wahd_not {l : List (List UInt8)} {s : List UInt8} (h : ¬ s ∈ l) : ¬ l[wahd s l]? = some s := fun e => h (List.mem_of_getElem? e)
end Go.Proofs.Ytojppmnmhdgnnaa
namespace Go.Proofs.Ytojppmnmhdgnnaa
set_option linter.unusedVariables false
set_option linter.unusedSimpArgs false

/-- Whether words may be: each less than the next, none too long, not too many. -/
def adjW : List (List UInt8) → Bool
  | x :: y :: t => decide (x < y) && adjW (y :: t)
  | _ => true
def rightW (l : List (List UInt8)) : Bool := l.all (fun x => decide (x.length ≤ 1024)) && adjW l && decide (l.length ≤ 200)
theorem adjW_strict : ∀ l : List (List UInt8), adjW l = true ↔ l.Pairwise (· < ·)
  | [] => by simp [adjW]
  | [x] => by simp [adjW]
  | x :: y :: t => by
    rw [adjW, Bool.and_eq_true, decide_eq_true_iff, adjW_strict (y :: t), List.pairwise_cons (a := x) (l := y :: t)]
    constructor
    · rintro ⟨h1, h2⟩
      refine ⟨fun z hz => ?_, h2⟩
      rcases List.mem_cons.1 hz with rfl | hz
      · exact h1
      · exact wlt_trans h1 ((List.pairwise_cons.1 h2).1 z hz)
    · rintro ⟨h1, h2⟩
      exact ⟨h1 y (List.mem_cons_self ..), h2⟩
theorem rightW_strict {l : List (List UInt8)} (h : rightW l = true) : l.Pairwise (· < ·) := by
  unfold rightW at h
  exact (adjW_strict l).1 (Bool.and_eq_true_iff.1 (Bool.and_eq_true_iff.1 h).1).2
/-- The loop over words: all is well up to place j. -/
def okAt (l : List (List UInt8)) (j : Nat) : Bool := decide ((l.getD j []).length ≤ 1024) && (decide (j = 0) || decide (l.getD (j - 1) [] < l.getD j []))
theorem okAt_all (l : List (List UInt8)) : ((List.range l.length).all (okAt l)) = (l.all (fun x => decide (x.length ≤ 1024)) && adjW l) := by
    apply Bool.eq_iff_iff.2
    rw [Bool.and_eq_true, adjW_strict, List.all_eq_true, List.all_eq_true]
    constructor
    · intro h
      have hj : ∀ j, j < l.length → (l.getD j []).length ≤ 1024 ∧ (j = 0 ∨ l.getD (j - 1) [] < l.getD j []) := fun j hj => by
        have := h j (List.mem_range.2 hj)
        unfold okAt at this
        obtain ⟨h1, h2⟩ := Bool.and_eq_true_iff.1 this
        refine ⟨of_decide_eq_true h1, ?_⟩
        rcases Bool.or_eq_true_iff.1 h2 with h2 | h2
        · exact .inl (of_decide_eq_true h2)
        · exact .inr (of_decide_eq_true h2)
      constructor
      · intro x hx
        obtain ⟨j, hjl, e⟩ := List.getElem_of_mem hx
        have := (hj j hjl).1
        rw [List.getD, List.getElem?_eq_getElem hjl, Option.getD_some, e] at this
        exact decide_eq_true this
      · rw [List.pairwise_iff_getElem]
        intro a b ha hb hab
        have key : ∀ d, a + 1 + d < l.length → l.getD a [] < l.getD (a + 1 + d) [] := by
          intro d
          induction d with
          | zero =>
            intro hd
            rcases (hj (a + 1) hd).2 with h0 | h0
            · omega
            · exact h0
          | succ d ih =>
            intro hd
            have h1 := ih (by omega)
            rcases (hj (a + 1 + (d + 1)) hd).2 with h0 | h0
            · omega
            · rw [show a + 1 + (d + 1) - 1 = a + 1 + d from by omega] at h0
              exact wlt_trans h1 h0
        have := key (b - (a + 1)) (by omega)
        rw [show a + 1 + (b - (a + 1)) = b from by omega] at this
        rw [List.getD, List.getElem?_eq_getElem ha, List.getD, List.getElem?_eq_getElem hb] at this
        exact this
    · rintro ⟨h1, h2⟩ j hj
      have hjl := List.mem_range.1 hj
      unfold okAt
      rw [Bool.and_eq_true, Bool.or_eq_true]
      have hg : l.getD j [] = l[j] := by rw [List.getD, List.getElem?_eq_getElem hjl]; rfl
      refine ⟨?_, ?_⟩
      · rw [hg]
        exact h1 _ (List.getElem_mem hjl)
      · by_cases h0 : j = 0
        · exact .inl (decide_eq_true h0)
        · right
          have hp := List.pairwise_iff_getElem.1 h2 (j - 1) j (by omega) hjl (by omega)
          have hg2 : l.getD (j - 1) [] = l[j - 1] := by rw [List.getD, List.getElem?_eq_getElem (by omega)]; rfl
          rw [hg, hg2]
          exact decide_eq_true hp
theorem rightW_loop (l : List (List UInt8)) : rightW l = ((List.range l.length).all (okAt l) && decide (l.length ≤ 200)) := by
  unfold rightW
  rw [okAt_all]

/-! ### The words of texts -/
def longs (l : List (List UInt8)) : Bool := l.any fun x => decide (1024 < x.length)
def ofM (l : List (List UInt8)) : Option (List (List UInt8) × List Int) :=
  if longs l = true ∨ 200 < (wordsM l).length then none else some (wordsM l, l.map (placeM (wordsM l)))
/-- The reference's: one by one. -/
def rOf (s : List (List UInt8)) : List (List UInt8) → Option (List (List UInt8))
  | [] => some s
  | x :: t => if 1024 < x.length then none else if x ∈ s then rOf s t else if s.length = 200 then none else rOf (insW x s) t
theorem rOf_spec : ∀ (l s : List (List UInt8)), s.length ≤ 200 → rOf s l = if longs l = true ∨ 200 < (l.foldl (fun s c => insW c s) s).length then none else some (l.foldl (fun s c => insW c s) s)
  | [], s, hs => by
    rw [rOf, if_neg]
    · rfl
    · rintro (h | h)
      · cases h
      · simp at h; omega
  | x :: t, s, hs => by
    rw [rOf, List.foldl_cons]
    have hl : longs (x :: t) = (decide (1024 < x.length) || longs t) := rfl
    by_cases hx : 1024 < x.length
    · rw [if_pos hx, if_pos (.inl (by rw [hl, decide_eq_true hx]; rfl))]
    · rw [if_neg hx, hl, decide_eq_false hx, Bool.false_or]
      have hn := insW_len x s
      by_cases hm : x ∈ s
      · have he : insW x s = s := by unfold insW; rw [if_pos hm]
        rw [if_pos hm, he]
        exact rOf_spec t s hs
      · rw [if_neg hm]
        rw [if_neg hm] at hn
        by_cases h2 : s.length = 200
        · have := wfold_mono t (insW x s)
          rw [if_pos h2, if_pos (.inr (by omega))]
        · rw [if_neg h2]
          exact rOf_spec t (insW x s) (by omega)
theorem rOf_ofM (l : List (List UInt8)) : (rOf [] l).map (fun w => (w, l.map (placeM w))) = ofM l := by
  rw [rOf_spec l [] (by simp), ← words_same]
  unfold ofM
  split <;> rfl

/-! ### Where a text stands -/
def findM (l : List (List UInt8)) (s : List UInt8) : Option Nat := if rightW l = true ∧ s ∈ l then some (wahd s l) else none
/-- How many words are less. -/
def fromM (l : List (List UInt8)) (s : List UInt8) : Nat := if rightW l = true then l.countP (fun x => decide (x < s)) else 0
def begW (x s : List UInt8) : Bool := decide (x.take s.length = s)
def behindM (l : List (List UInt8)) (s : List UInt8) : Nat := if rightW l = true then l.countP (fun x => decide (x < s) || begW x s) else 0
/-- What lies between a text and a longer one begins with it. -/
theorem beg_between : ∀ (s x y : List UInt8), begW y s = true → ¬ x < s → x < y → begW x s = true
  | [], x, y, _, _, _ => by unfold begW; simp
  | c :: s, [], y, _, h, _ => absurd (List.Lex.nil) h
  | c :: s, a :: x, [], h, _, _ => by
    unfold begW at h
    simp at h
  | c :: s, a :: x, b :: y, h, hx, hy => by
    unfold begW at h ⊢
    simp only [List.length_cons, List.take_succ_cons, List.cons.injEq, decide_eq_true_eq] at h ⊢
    obtain ⟨rfl, h⟩ := h
    have h1 : ¬ a < b := fun e => hx (List.Lex.rel e)
    have h2 : a = b := by
      cases hy with
      | rel e => exact absurd e h1
      | cons e => rfl
    subst h2
    have h3 : x < y := by
      cases hy with
      | rel e => exact absurd e (by simp)
      | cons e => exact e
    exact ⟨rfl, of_decide_eq_true (beg_between s x y (decide_eq_true h) (fun e => hx (List.Lex.cons e)) h3)⟩
end Go.Proofs.Ytojppmnmhdgnnaa
namespace Go.Proofs.Ytojppmnmhdgnnaa
set_option linter.unusedVariables false
set_option linter.unusedSimpArgs false

theorem count_lt {l : List (List UInt8)} (hl : l.Pairwise (· < ·)) (s : List UInt8) : l.countP (fun x => decide (x < s)) = wahd s l := by
  induction l with
  | nil => rfl
  | cons y t ih =>
    rw [List.pairwise_cons] at hl
    rw [wahd, List.countP_cons]
    by_cases h : y < s
    · rw [if_pos h, ih hl.2, decide_eq_true h, if_pos rfl]
    · rw [if_neg h, decide_eq_false h]
      have h0 : t.countP (fun x => decide (x < s)) = 0 := by
        rw [List.countP_eq_zero]
        intro x hx
        rw [decide_eq_true_iff]
        exact fun h2 => h (wlt_trans (hl.1 x hx) h2)
      rw [h0, if_neg (by decide)]
theorem wahd_mono {l : List (List UInt8)} (hl : l.Pairwise (· < ·)) {a b : List UInt8} (ha : a ∈ l) (hb : b ∈ l) : (wahd a l < wahd b l ↔ a < b) := by
  obtain ⟨_, h1⟩ := wahd_idx hl ha
  obtain ⟨_, h2⟩ := wahd_idx hl hb
  constructor
  · intro h
    exact wahd_lt b l _ _ h h1
  · intro h
    refine Nat.lt_of_not_le fun hle => ?_
    by_cases e : wahd b l = wahd a l
    · rw [e] at h2
      rw [h1] at h2
      cases h2
      exact wlt_irrefl a h
    · have := wahd_lt a l _ _ (by omega) h2
      exact wlt_asymm h this
theorem wahd_lt_len {l : List (List UInt8)} (hl : l.Pairwise (· < ·)) {a : List UInt8} (ha : a ∈ l) : wahd a l < l.length :=
  (List.getElem?_eq_some_iff.1 (wahd_idx hl ha).2).1
theorem placeM_mem {l : List (List UInt8)} (hl : l.Pairwise (· < ·)) {a : List UInt8} (ha : a ∈ l) : placeM l a = (wahd a l : Int) := by
  unfold placeM
  rw [if_pos ha, (wahd_idx hl ha).1]
theorem placeM_not {l : List (List UInt8)} {a : List UInt8} (ha : ¬ a ∈ l) : placeM l a = -1 := by
  unfold placeM
  rw [if_neg ha]
/-- What Of tells may be. -/
theorem ofM_right {l w : List (List UInt8)} {p : List Int} (h : ofM l = some (w, p)) : rightW w = true ∧ w = wordsM l ∧ p = l.map (placeM w) ∧ ∀ x ∈ l, x ∈ w := by
  unfold ofM at h
  split at h
  · cases h
  · rename_i hn
    cases h
    obtain ⟨h1, h2⟩ := wordsM_spec l
    have hlong : ¬ longs l = true := fun e => hn (.inl e)
    have hlen : ¬ 200 < (wordsM l).length := fun e => hn (.inr e)
    refine ⟨?_, rfl, rfl, fun x hx => (h2 x).2 hx⟩
    unfold rightW
    rw [Bool.and_eq_true, Bool.and_eq_true]
    refine ⟨⟨?_, (adjW_strict _).2 h1⟩, decide_eq_true (by omega)⟩
    rw [List.all_eq_true]
    intro x hx
    refine decide_eq_true (Nat.le_of_not_lt fun h => hlong ?_)
    unfold longs
    rw [List.any_eq_true]
    exact ⟨x, (h2 x).1 hx, decide_eq_true h⟩
/-- How many words a text has that is among them. -/
theorem fromM_mem {l : List (List UInt8)} (hr : rightW l = true) {a : List UInt8} : fromM l a = wahd a l := by
  unfold fromM
  rw [if_pos hr, count_lt (rightW_strict hr)]
/-- The places of words among themselves. -/
theorem wahd_self {l : List (List UInt8)} (hl : l.Pairwise (· < ·)) (i : Nat) (hi : i < l.length) : wahd l[i] l = i := by
  have hp := List.pairwise_iff_getElem.1 hl
  refine wahd_at l[i] l i (by omega) (fun j x hj hx => ?_) (fun x hx => ?_)
  · rw [List.getElem?_eq_getElem (by omega)] at hx
    cases hx
    exact hp j i (by omega) hi hj
  · rw [List.getElem?_eq_getElem hi] at hx
    cases hx
    exact wlt_irrefl _
/-- What Behind counts goes from yes to no once. -/
theorem behind_mono {l : List (List UInt8)} (hl : l.Pairwise (· < ·)) (s : List UInt8) (a b : Nat) (hab : a ≤ b) (hb : b < l.length) (h : (decide (l.getD a [] < s) || begW (l.getD a []) s) = false) : (decide (l.getD b [] < s) || begW (l.getD b []) s) = false := by
  by_cases e : a = b
  · subst e; exact h
  · have hp := List.pairwise_iff_getElem.1 hl a b (by omega) hb (by omega)
    have ga : l.getD a [] = l[a] := by rw [List.getD, List.getElem?_eq_getElem (by omega)]; rfl
    have gb : l.getD b [] = l[b] := by rw [List.getD, List.getElem?_eq_getElem hb]; rfl
    rw [ga] at h
    rw [gb]
    rw [Bool.or_eq_false_iff, decide_eq_false_iff_not] at h ⊢
    refine ⟨fun h2 => h.1 (wlt_trans hp h2), ?_⟩
    cases hx : begW l[b] s
    · rfl
    · have := beg_between s l[a] l[b] hx h.1 hp
      rw [this] at h
      cases h.2
theorem from_mono {l : List (List UInt8)} (hl : l.Pairwise (· < ·)) (s : List UInt8) (a b : Nat) (hab : a ≤ b) (hb : b < l.length) (h : decide (l.getD a [] < s) = false) : decide (l.getD b [] < s) = false := by
  by_cases e : a = b
  · subst e; exact h
  · have hp := List.pairwise_iff_getElem.1 hl a b (by omega) hb (by omega)
    have ga : l.getD a [] = l[a] := by rw [List.getD, List.getElem?_eq_getElem (by omega)]; rfl
    have gb : l.getD b [] = l[b] := by rw [List.getD, List.getElem?_eq_getElem hb]; rfl
    rw [ga] at h
    rw [gb]
    rw [decide_eq_false_iff_not] at h ⊢
    exact fun h2 => h (wlt_trans hp h2)
/-- Counting by places is counting by words. -/
theorem count_range (p : List UInt8 → Bool) : ∀ l : List (List UInt8), (List.range l.length).countP (fun i => p (l.getD i [])) = l.countP p
  | [] => rfl
  | x :: t => by
    rw [List.length_cons, List.range_succ_eq_map, List.countP_cons, List.countP_map, List.countP_cons, ← count_range p t]
    rfl
end Go.Proofs.Ytojppmnmhdgnnaa
