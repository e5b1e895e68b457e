/- Words, rising, each once: plain laws. Words of texts, their places, where a text stands among them: plain laws. Where words stand, and how places stand to one another: plain laws. Numbers and texts that bytes begin with: plain laws, with no program in sight. Words as bytes, and the words that bytes begin with: plain laws. -/
import Derived.Lib.SlicesCompact
import Derived.Lib.RowBridge
import Derived.Sort.Walk0
import Derived.Test.YtojppmnmhdgnnaaGreatMBaCr
import Derived.Test.YtojppmnmhdgnnaaGreatMOcLW
namespace Go.Proofs.YtojppmnmhdgnnaaGreat
set_option linter.unusedVariables false
set_option linter.unusedSimpArgs false

/-- A text is less than another one. -/
abbrev wlt (a b : List UInt8) : Prop := a < b
theorem wlt_irrefl (a : List UInt8) : ¬ a < a := List.lt_irrefl a
theorem wlt_trans {a b c : List UInt8} (h : a < b) (h' : b < c) : a < c := List.lt_trans h h'
theorem wlt_tri (a b : List UInt8) : a < b ∨ a = b ∨ b < a := by
  by_cases h : a < b
  · exact .inl h
  · by_cases h2 : b < a
    · exact .inr (.inr h2)
    · exact .inr (.inl (List.le_antisymm (List.not_lt.1 h2) (List.not_lt.1 h)))
theorem wlt_asymm {a b : List UInt8} (h : a < b) : ¬ b < a := fun h2 => wlt_irrefl a (wlt_trans h h2)

/-! ### Lists that rise are told by their members -/
theorem wstrict_uniq : ∀ (a b : List (List UInt8)), a.Pairwise (· < ·) → b.Pairwise (· < ·) → (∀ x, x ∈ a ↔ x ∈ b) → a = b
  | [], [], _, _, _ => rfl
  | [], y :: b, _, _, h => absurd ((h y).2 (List.mem_cons_self ..)) (by simp)
  | x :: a, [], _, _, h => absurd ((h x).1 (List.mem_cons_self ..)) (by simp)
  | x :: a, y :: b, ha, hb, h => by
    rw [List.pairwise_cons] at ha hb
    have hxy : x = y := by
      rcases List.mem_cons.1 ((h x).1 (List.mem_cons_self ..)) with e | h1
      · exact e
      · rcases List.mem_cons.1 ((h y).2 (List.mem_cons_self ..)) with e | h2
        · exact e.symm
        · exact absurd (ha.1 y h2) (wlt_asymm (hb.1 x h1))
    subst hxy
    congr 1
    refine wstrict_uniq a b ha.2 hb.2 fun z => ?_
    constructor
    · intro hz
      rcases List.mem_cons.1 ((h z).1 (List.mem_cons_of_mem _ hz)) with e | h1
      · subst e; exact absurd (ha.1 z hz) (wlt_irrefl z)
      · exact h1
    · intro hz
      rcases List.mem_cons.1 ((h z).2 (List.mem_cons_of_mem _ hz)) with e | h1
      · subst e; exact absurd (hb.1 z hz) (wlt_irrefl z)
      · exact h1

/-! ### Sorted, each once -/
def sortW (l : List (List UInt8)) : List (List UInt8) := l.mergeSort fun x y => decide (x ≤ y)
theorem sortW_le (l : List (List UInt8)) : (sortW l).Pairwise (· ≤ ·) := by
  have h := List.pairwise_mergeSort (le := fun x y : List UInt8 => decide (x ≤ y)) (fun a b c h1 h2 => by
    rw [decide_eq_true_iff] at *; exact List.le_trans h1 h2) (fun a b => by
    rw [Bool.or_eq_true, decide_eq_true_iff, decide_eq_true_iff]; exact List.le_total a b) l
  exact h.imp fun h => of_decide_eq_true h
theorem sortW_mem (l : List (List UInt8)) (x : List UInt8) : x ∈ sortW l ↔ x ∈ l := List.mem_mergeSort
theorem sortW_len (l : List (List UInt8)) : (sortW l).length = l.length := List.length_mergeSort l
theorem wlt_of_le_ne {a b : List UInt8} (h : a ≤ b) (hn : a ≠ b) : a < b := by
  rcases wlt_tri a b with h1 | h1 | h1
  · exact h1
  · exact absurd h1 hn
  · exact absurd h1 (List.not_lt.2 h)
theorem wcu_spec (zs : List (List UInt8)) (hs : ∀ i j, i ≤ j → j < zs.length → zs.toArray[i]! ≤ zs.toArray[j]!) : ∀ m, m ≤ zs.length →
    (Lib.compactUpTo zs.toArray m).Pairwise (· < ·) ∧ ∀ x, x ∈ Lib.compactUpTo zs.toArray m ↔ ∃ j, j < m ∧ zs.toArray[j]! = x
  | 0, _ => ⟨by simp [Lib.compactUpTo], fun x => by simp [Lib.compactUpTo]⟩
  | m + 1, hm => by
    obtain ⟨h1, h2⟩ := wcu_spec zs hs m (by omega)
    rw [Lib.compactUpTo_succ]
    by_cases hk : Lib.keeps zs.toArray m = true
    · rw [if_pos hk]
      have hnew : ∀ x ∈ Lib.compactUpTo zs.toArray m, x < zs.toArray[m]! := fun x hx => by
        obtain ⟨j, hj, rfl⟩ := (h2 x).1 hx
        unfold Lib.keeps at hk
        have hk := of_decide_eq_true hk
        have h3 := hs j (m - 1) (by omega) (by omega)
        have h4 := hs (m - 1) m (by omega) (by omega)
        rcases hk with hk | hk
        · omega
        · have h5 := wlt_of_le_ne h4 (fun e => hk e.symm)
          rcases wlt_tri zs.toArray[j]! zs.toArray[m - 1]! with g | g | g
          · exact wlt_trans g h5
          · rw [g]; exact h5
          · exact absurd g (List.not_lt.2 h3)
      constructor
      · rw [List.pairwise_append]
        exact ⟨h1, by simp, fun x hx y hy => by rw [List.mem_singleton.1 hy]; exact hnew x hx⟩
      · intro x
        rw [List.mem_append, h2, List.mem_singleton]
        constructor
        · rintro (⟨j, hj, e⟩ | e)
          · exact ⟨j, by omega, e⟩
          · exact ⟨m, by omega, e.symm⟩
        · rintro ⟨j, hj, e⟩
          by_cases hjm : j = m
          · subst hjm; exact .inr e.symm
          · exact .inl ⟨j, by omega, e⟩
    · rw [if_neg hk, List.append_nil]
      refine ⟨h1, fun x => ?_⟩
      rw [h2]
      constructor
      · rintro ⟨j, hj, e⟩
        exact ⟨j, by omega, e⟩
      · rintro ⟨j, hj, e⟩
        by_cases hjm : j = m
        · subst hjm
          unfold Lib.keeps at hk
          rw [decide_eq_true_iff] at hk
          have h0 : ¬ j = 0 := fun h => hk (.inl h)
          have h3 : zs.toArray[j]! = zs.toArray[j - 1]! := Classical.byContradiction fun h => hk (.inr h)
          exact ⟨j - 1, by omega, by rw [← h3]; exact e⟩
        · exact ⟨j, by omega, e⟩
/-- The words of texts. -/
def wordsM (l : List (List UInt8)) : List (List UInt8) := Lib.compact (sortW l)
theorem wordsM_spec (l : List (List UInt8)) : (wordsM l).Pairwise (· < ·) ∧ ∀ x, x ∈ wordsM l ↔ x ∈ l := by
  have hg : ∀ j, j < (sortW l).length → (sortW l).toArray[j]! = (sortW l)[j]! := fun j hj => by simp
  have hp := sortW_le l
  rw [List.pairwise_iff_getElem] at hp
  obtain ⟨h1, h2⟩ := wcu_spec (sortW l) (fun i j hij hj => by
    rw [hg i (by omega), hg j hj, getElem!_pos (sortW l) i (by omega), getElem!_pos (sortW l) j hj]
    by_cases e : i = j
    · subst e; exact List.le_refl _
    · exact hp i j (by omega) hj (by omega)) _ (Nat.le_refl _)
  refine ⟨h1, fun x => (h2 x).trans ?_⟩
  rw [← sortW_mem]
  constructor
  · rintro ⟨j, hj, rfl⟩
    rw [hg j hj, getElem!_pos (sortW l) j hj]
    exact List.getElem_mem hj
  · intro h
    obtain ⟨j, hj, e⟩ := List.getElem_of_mem h
    exact ⟨j, hj, by rw [hg j hj, getElem!_pos (sortW l) j hj]; exact e⟩

/-! ### One by one, each where it belongs -/
/-- How many of a list are ahead of a text. -/
def wahd (c : List UInt8) : List (List UInt8) → Nat
  | [] => 0
  | x :: t => if x < c then wahd c t + 1 else 0
theorem wahd_le (c : List UInt8) : ∀ s : List (List UInt8), wahd c s ≤ s.length
  | [] => Nat.le_refl _
  | x :: t => by
    have := wahd_le c t
    rw [wahd]
    split
    · rw [List.length_cons]; omega
    · omega
theorem wahd_lt (c : List UInt8) : ∀ (s : List (List UInt8)) (j : Nat) (x : List UInt8), j < wahd c s → s[j]? = some x → x < c
  | [], j, x, h, _ => by rw [wahd] at h; omega
  | y :: t, j, x, h, hx => by
    rw [wahd] at h
    split at h
    · rename_i h0
      cases j with
      | zero => simp at hx; rw [← hx]; exact h0
      | succ j => exact wahd_lt c t j x (by omega) (by simpa using hx)
    · omega
theorem wahd_ge (c : List UInt8) : ∀ (s : List (List UInt8)) (x : List UInt8), s[wahd c s]? = some x → ¬ x < c
  | [], x, h => by simp at h
  | y :: t, x, h => by
    rw [wahd] at h
    split at h
    · exact wahd_ge c t x (by simpa using h)
    · rename_i h0
      simp at h
      rw [← h]
      exact h0
theorem wahd_at (c : List UInt8) : ∀ (s : List (List UInt8)) (k : Nat), k ≤ s.length → (∀ j x, j < k → s[j]? = some x → x < c) → (∀ x, s[k]? = some x → ¬ x < c) → wahd c s = k
  | [], k, hk, _, _ => by simp at hk; subst hk; rfl
  | y :: t, 0, _, _, h2 => by rw [wahd, if_neg (h2 y rfl)]
  | y :: t, k + 1, hk, h1, h2 => by
    rw [wahd, if_pos (h1 0 y (by omega) rfl), wahd_at c t k (by simpa using hk) (fun j x hj hx => h1 (j + 1) x (by omega) (by simpa using hx)) (fun x hx => h2 x (by simpa using hx))]
def insW (c : List UInt8) (s : List (List UInt8)) : List (List UInt8) := if c ∈ s then s else s.take (wahd c s) ++ c :: s.drop (wahd c s)
theorem insW_spec (c : List UInt8) (s : List (List UInt8)) (hs : s.Pairwise (· < ·)) : (insW c s).Pairwise (· < ·) ∧ ∀ x, x ∈ insW c s ↔ x = c ∨ x ∈ s := by
  unfold insW
  by_cases h : c ∈ s
  · rw [if_pos h]
    refine ⟨hs, fun x => ⟨.inr, ?_⟩⟩
    rintro (rfl | h1)
    · exact h
    · exact h1
  · rw [if_neg h]
    have hp := List.pairwise_iff_getElem.1 hs
    have hlo : ∀ x ∈ s.take (wahd c s), x < c := fun x hx => by
      obtain ⟨j, hj, e⟩ := List.getElem_of_mem hx
      rw [List.length_take] at hj
      rw [List.getElem_take] at e
      exact wahd_lt c s j x (by omega) (by rw [List.getElem?_eq_getElem (by omega), e])
    have hhi : ∀ x ∈ s.drop (wahd c s), c < x := fun x hx => by
      obtain ⟨j, hj, e⟩ := List.getElem_of_mem hx
      rw [List.length_drop] at hj
      rw [List.getElem_drop] at e
      have ha : wahd c s < s.length := by omega
      have h0 := List.getElem?_eq_getElem ha
      have h1 := wahd_ge c s _ h0
      have h2 : ¬ s[wahd c s] = c := fun e => h (by rw [← e]; exact List.getElem_mem ha)
      have h4 : c < s[wahd c s] := by
        rcases wlt_tri c s[wahd c s] with g | g | g
        · exact g
        · exact absurd g.symm h2
        · exact absurd g h1
      by_cases hj0 : j = 0
      · subst hj0
        rw [← e]
        simp only [Nat.add_zero]
        exact h4
      · rw [← e]
        exact wlt_trans h4 (hp (wahd c s) (wahd c s + j) ha (by omega) (by omega))
    constructor
    · rw [List.pairwise_append]
      refine ⟨hs.sublist (List.take_sublist _ _), ?_, ?_⟩
      · rw [List.pairwise_cons]
        exact ⟨hhi, hs.sublist (List.drop_sublist _ _)⟩
      · intro x hx y hy
        rcases List.mem_cons.1 hy with rfl | hy
        · exact hlo x hx
        · exact wlt_trans (hlo x hx) (hhi y hy)
    · intro x
      rw [List.mem_append, List.mem_cons]
      have ht : x ∈ s ↔ x ∈ s.take (wahd c s) ∨ x ∈ s.drop (wahd c s) := by
        conv => lhs; rw [← List.take_append_drop (wahd c s) s]
        rw [List.mem_append]
      rw [ht]
      constructor
      · rintro (h1 | h1 | h1)
        · exact .inr (.inl h1)
        · exact .inl h1
        · exact .inr (.inr h1)
      · rintro (h1 | h1 | h1)
        · exact .inr (.inl h1)
        · exact .inl h1
        · exact .inr (.inr h1)
theorem insW_len (c : List UInt8) (s : List (List UInt8)) : (insW c s).length = if c ∈ s then s.length else s.length + 1 := by
  unfold insW
  split
  · rfl
  · have := wahd_le c s
    rw [List.length_append, List.length_cons, List.length_take, List.length_drop]
    omega
theorem wfold_spec : ∀ (l s : List (List UInt8)), s.Pairwise (· < ·) → (l.foldl (fun s c => insW c s) s).Pairwise (· < ·) ∧ ∀ x, x ∈ l.foldl (fun s c => insW c s) s ↔ x ∈ s ∨ x ∈ l
  | [], s, hs => ⟨hs, fun x => by simp⟩
  | n :: l, s, hs => by
    obtain ⟨h1, h2⟩ := insW_spec n s hs
    obtain ⟨h3, h4⟩ := wfold_spec l (insW n s) h1
    refine ⟨h3, fun x => ?_⟩
    rw [List.foldl_cons, h4, h2, List.mem_cons]
    constructor
    · rintro ((h | h) | h)
      · exact .inr (.inl h)
      · exact .inl h
      · exact .inr (.inr h)
    · rintro (h | h | h)
      · exact .inl (.inr h)
      · exact .inl (.inl h)
      · exact .inr h
theorem words_same (l : List (List UInt8)) : wordsM l = l.foldl (fun s c => insW c s) [] := by
  obtain ⟨h1, h2⟩ := wordsM_spec l
  obtain ⟨h3, h4⟩ := wfold_spec l [] (by simp)
  refine wstrict_uniq _ _ h1 h3 fun x => ?_
  rw [h2, h4]
  simp
theorem wfold_mono : ∀ (l s : List (List UInt8)), s.length ≤ (l.foldl (fun s c => insW c s) s).length
  | [], s => Nat.le_refl _
  | n :: l, s => by
    have h1 := wfold_mono l (insW n s)
    have h2 := insW_len n s
    rw [List.foldl_cons]
    split at h2 <;> omega

/-- A text's place among others; -1: it is none. -/
def placeM (l : List (List UInt8)) (s : List UInt8) : Int := if s ∈ l then (l.idxOf s : Int) else -1
theorem wahd_idx {l : List (List UInt8)} (hl : l.Pairwise (· < ·)) {s : List UInt8} (h : s ∈ l) : l.idxOf s = wahd s l ∧ l[wahd s l]? = some s := by
  have hi := List.idxOf_lt_length_of_mem h
  have hp := List.pairwise_iff_getElem.1 hl
  have hg : l[l.idxOf s] = s := List.getElem_idxOf hi
  have hk : wahd s l = l.idxOf s := by
    refine wahd_at s l (l.idxOf s) (by omega) (fun j x hj hx => ?_) (fun x hx => ?_)
    · have := hp j (l.idxOf s) (by omega) hi hj
      rw [hg] at this
      rw [List.getElem?_eq_getElem (by omega)] at hx
      cases hx
      exact this
    · rw [List.getElem?_eq_getElem hi, hg] at hx
      cases hx
      exact wlt_irrefl s
  refine ⟨hk.symm, ?_⟩
  rw [hk, List.getElem?_eq_getElem hi, hg]
theorem wahd_not {l : List (List UInt8)} {s : List UInt8} (h : ¬ s ∈ l) : ¬ l[wahd s l]? = some s := fun e => h (List.mem_of_getElem? e)
end Go.Proofs.YtojppmnmhdgnnaaGreat
namespace Go.Proofs.YtojppmnmhdgnnaaGreat
set_option linter.unusedVariables false
set_option linter.unusedSimpArgs false

/-- Whether words may be: each less than the next, none too long, not too many. -/
def adjW : List (List UInt8) → Bool
  | x :: y :: t => decide (x < y) && adjW (y :: t)
  | _ => true
def rightW (l : List (List UInt8)) : Bool := l.all (fun x => decide (x.length ≤ 1024)) && adjW l && decide (l.length ≤ 200)
theorem adjW_strict : ∀ l : List (List UInt8), adjW l = true ↔ l.Pairwise (· < ·)
  | [] => by simp [adjW]
  | [x] => by simp [adjW]
  | x :: y :: t => by
    rw [adjW, Bool.and_eq_true, decide_eq_true_iff, adjW_strict (y :: t), List.pairwise_cons (a := x) (l := y :: t)]
    constructor
    · rintro ⟨h1, h2⟩
      refine ⟨fun z hz => ?_, h2⟩
      rcases List.mem_cons.1 hz with rfl | hz
      · exact h1
      · exact wlt_trans h1 ((List.pairwise_cons.1 h2).1 z hz)
    · rintro ⟨h1, h2⟩
      exact ⟨h1 y (List.mem_cons_self ..), h2⟩
theorem rightW_strict {l : List (List UInt8)} (h : rightW l = true) : l.Pairwise (· < ·) := by
  unfold rightW at h
  exact (adjW_strict l).1 (Bool.and_eq_true_iff.1 (Bool.and_eq_true_iff.1 h).1).2
/-- The loop over words: all is well up to place j. -/
def okAt (l : List (List UInt8)) (j : Nat) : Bool := decide ((l.getD j []).length ≤ 1024) && (decide (j = 0) || decide (l.getD (j - 1) [] < l.getD j []))
theorem okAt_all (l : List (List UInt8)) : ((List.range l.length).all (okAt l)) = (l.all (fun x => decide (x.length ≤ 1024)) && adjW l) := by
    apply Bool.eq_iff_iff.2
    rw [Bool.and_eq_true, adjW_strict, List.all_eq_true, List.all_eq_true]
    constructor
    · intro h
      have hj : ∀ j, j < l.length → (l.getD j []).length ≤ 1024 ∧ (j = 0 ∨ l.getD (j - 1) [] < l.getD j []) := fun j hj => by
        have := h j (List.mem_range.2 hj)
        unfold okAt at this
        obtain ⟨h1, h2⟩ := Bool.and_eq_true_iff.1 this
        refine ⟨of_decide_eq_true h1, ?_⟩
        rcases Bool.or_eq_true_iff.1 h2 with h2 | h2
        · exact .inl (of_decide_eq_true h2)
        · exact .inr (of_decide_eq_true h2)
      constructor
      · intro x hx
        obtain ⟨j, hjl, e⟩ := List.getElem_of_mem hx
        have := (hj j hjl).1
        rw [List.getD, List.getElem?_eq_getElem hjl, Option.getD_some, e] at this
        exact decide_eq_true this
      · rw [List.pairwise_iff_getElem]
        intro a b ha hb hab
        have key : ∀ d, a + 1 + d < l.length → l.getD a [] < l.getD (a + 1 + d) [] := by
          intro d
          induction d with
          | zero =>
            intro hd
            rcases (hj (a + 1) hd).2 with h0 | h0
            · omega
            · exact h0
          | succ d ih =>
            intro hd
            have h1 := ih (by omega)
            rcases (hj (a + 1 + (d + 1)) hd).2 with h0 | h0
            · omega
            · rw [show a + 1 + (d + 1) - 1 = a + 1 + d from by omega] at h0
              exact wlt_trans h1 h0
        have := key (b - (a + 1)) (by omega)
        rw [show a + 1 + (b - (a + 1)) = b from by omega] at this
        rw [List.getD, List.getElem?_eq_getElem ha, List.getD, List.getElem?_eq_getElem hb] at this
        exact this
    · rintro ⟨h1, h2⟩ j hj
      have hjl := List.mem_range.1 hj
      unfold okAt
      rw [Bool.and_eq_true, Bool.or_eq_true]
      have hg : l.getD j [] = l[j] := by rw [List.getD, List.getElem?_eq_getElem hjl]; rfl
      refine ⟨?_, ?_⟩
      · rw [hg]
        exact h1 _ (List.getElem_mem hjl)
      · by_cases h0 : j = 0
        · exact .inl (decide_eq_true h0)
        · right
          have hp := List.pairwise_iff_getElem.1 h2 (j - 1) j (by omega) hjl (by omega)
          have hg2 : l.getD (j - 1) [] = l[j - 1] := by rw [List.getD, List.getElem?_eq_getElem (by omega)]; rfl
          rw [hg, hg2]
          exact decide_eq_true hp
theorem rightW_loop (l : List (List UInt8)) : rightW l = ((List.range l.length).all (okAt l) && decide (l.length ≤ 200)) := by
  unfold rightW
  rw [okAt_all]

/-! ### The words of texts -/
def longs (l : List (List UInt8)) : Bool := l.any fun x => decide (1024 < x.length)
def ofM (l : List (List UInt8)) : Option (List (List UInt8) × List Int) :=
  if longs l = true ∨ 200 < (wordsM l).length then none else some (wordsM l, l.map (placeM (wordsM l)))
/-- The reference's: one by one. -/
def rOf (s : List (List UInt8)) : List (List UInt8) → Option (List (List UInt8))
  | [] => some s
  | x :: t => if 1024 < x.length then none else if x ∈ s then rOf s t else if s.length = 200 then none else rOf (insW x s) t
theorem rOf_spec : ∀ (l s : List (List UInt8)), s.length ≤ 200 → rOf s l = if longs l = true ∨ 200 < (l.foldl (fun s c => insW c s) s).length then none else some (l.foldl (fun s c => insW c s) s)
  | [], s, hs => by
    rw [rOf, if_neg]
    · rfl
    · rintro (h | h)
      · cases h
      · simp at h; omega
  | x :: t, s, hs => by
    rw [rOf, List.foldl_cons]
    have hl : longs (x :: t) = (decide (1024 < x.length) || longs t) := rfl
    by_cases hx : 1024 < x.length
    · rw [if_pos hx, if_pos (.inl (by rw [hl, decide_eq_true hx]; rfl))]
    · rw [if_neg hx, hl, decide_eq_false hx, Bool.false_or]
      have hn := insW_len x s
      by_cases hm : x ∈ s
      · have he : insW x s = s := by unfold insW; rw [if_pos hm]
        rw [if_pos hm, he]
        exact rOf_spec t s hs
      · rw [if_neg hm]
        rw [if_neg hm] at hn
        by_cases h2 : s.length = 200
        · have := wfold_mono t (insW x s)
          rw [if_pos h2, if_pos (.inr (by omega))]
        · rw [if_neg h2]
          exact rOf_spec t (insW x s) (by omega)
theorem rOf_ofM (l : List (List UInt8)) : (rOf [] l).map (fun w => (w, l.map (placeM w))) = ofM l := by
  rw [rOf_spec l [] (by simp), ← words_same]
  unfold ofM
  split <;> rfl

/-! ### Where a text stands -/
def findM (l : List (List UInt8)) (s : List UInt8) : Option Nat := if rightW l = true ∧ s ∈ l then some (wahd s l) else none
/-- How many words are less. -/
def fromM (l : List (List UInt8)) (s : List UInt8) : Nat := if rightW l = true then l.countP (fun x => decide (x < s)) else 0
def begW (x s : List UInt8) : Bool := decide (x.take s.length = s)
def behindM (l : List (List UInt8)) (s : List UInt8) : Nat := if rightW l = true then l.countP (fun x => decide (x < s) || begW x s) else 0
/-- What lies between a text and a longer one begins with it. -/
theorem beg_between : ∀ (s x y : List UInt8), begW y s = true → ¬ x < s → x < y → begW x s = true
  | [], x, y, _, _, _ => by unfold begW; simp
  | c :: s, [], y, _, h, _ => absurd (List.Lex.nil) h
  | c :: s, a :: x, [], h, _, _ => by
    unfold begW at h
    simp at h
  | c :: s, a :: x, b :: y, h, hx, hy => by
    unfold begW at h ⊢
    simp only [List.length_cons, List.take_succ_cons, List.cons.injEq, decide_eq_true_eq] at h ⊢
    obtain ⟨rfl, h⟩ := h
    have h1 : ¬ a < b := fun e => hx (List.Lex.rel e)
    have h2 : a = b := by
      cases hy with
      | rel e => exact absurd e h1
      | cons e => rfl
    subst h2
    have h3 : x < y := by
      cases hy with
      | rel e => exact absurd e (by simp)
      | cons e => exact e
    exact ⟨rfl, of_decide_eq_true (beg_between s x y (decide_eq_true h) (fun e => hx (List.Lex.cons e)) h3)⟩
end Go.Proofs.YtojppmnmhdgnnaaGreat
namespace Go.Proofs.YtojppmnmhdgnnaaGreat
set_option linter.unusedVariables false
set_option linter.unusedSimpArgs false

theorem count_lt {l : List (List UInt8)} (hl : l.Pairwise (· < ·)) (s : List UInt8) : l.countP (fun x => decide (x < s)) = wahd s l := by
  induction l with
  | nil => rfl
  | cons y t ih =>
    rw [List.pairwise_cons] at hl
    rw [wahd, List.countP_cons]
    by_cases h : y < s
    · rw [if_pos h, ih hl.2, decide_eq_true h, if_pos rfl]
    · rw [if_neg h, decide_eq_false h]
      have h0 : t.countP (fun x => decide (x < s)) = 0 := by
        rw [List.countP_eq_zero]
        intro x hx
        rw [decide_eq_true_iff]
        exact fun h2 => h (wlt_trans (hl.1 x hx) h2)
      rw [h0, if_neg (by decide)]
theorem wahd_mono {l : List (List UInt8)} (hl : l.Pairwise (· < ·)) {a b : List UInt8} (ha : a ∈ l) (hb : b ∈ l) : (wahd a l < wahd b l ↔ a < b) := by
  obtain ⟨_, h1⟩ := wahd_idx hl ha
  obtain ⟨_, h2⟩ := wahd_idx hl hb
  constructor
  · intro h
    exact wahd_lt b l _ _ h h1
  · intro h
    refine Nat.lt_of_not_le fun hle => ?_
    by_cases e : wahd b l = wahd a l
    · rw [e] at h2
      rw [h1] at h2
      cases h2
      exact wlt_irrefl a h
    · have := wahd_lt a l _ _ (by omega) h2
      exact wlt_asymm h this
theorem wahd_lt_len {l : List (List UInt8)} (hl : l.Pairwise (· < ·)) {a : List UInt8} (ha : a ∈ l) : wahd a l < l.length :=
  (List.getElem?_eq_some_iff.1 (wahd_idx hl ha).2).1
theorem placeM_mem {l : List (List UInt8)} (hl : l.Pairwise (· < ·)) {a : List UInt8} (ha : a ∈ l) : placeM l a = (wahd a l : Int) := by
  unfold placeM
  rw [if_pos ha, (wahd_idx hl ha).1]
theorem placeM_not {l : List (List UInt8)} {a : List UInt8} (ha : ¬ a ∈ l) : placeM l a = -1 := by
  unfold placeM
  rw [if_neg ha]
/-- What Of tells may be. -/
theorem ofM_right {l w : List (List UInt8)} {p : List Int} (h : ofM l = some (w, p)) : rightW w = true ∧ w = wordsM l ∧ p = l.map (placeM w) ∧ ∀ x ∈ l, x ∈ w := by
  unfold ofM at h
  split at h
  · cases h
  · rename_i hn
    cases h
    obtain ⟨h1, h2⟩ := wordsM_spec l
    have hlong : ¬ longs l = true := fun e => hn (.inl e)
    have hlen : ¬ 200 < (wordsM l).length := fun e => hn (.inr e)
    refine ⟨?_, rfl, rfl, fun x hx => (h2 x).2 hx⟩
    unfold rightW
    rw [Bool.and_eq_true, Bool.and_eq_true]
    refine ⟨⟨?_, (adjW_strict _).2 h1⟩, decide_eq_true (by omega)⟩
    rw [List.all_eq_true]
    intro x hx
    refine decide_eq_true (Nat.le_of_not_lt fun h => hlong ?_)
    unfold longs
    rw [List.any_eq_true]
    exact ⟨x, (h2 x).1 hx, decide_eq_true h⟩
/-- How many words a text has that is among them. -/
theorem fromM_mem {l : List (List UInt8)} (hr : rightW l = true) {a : List UInt8} : fromM l a = wahd a l := by
  unfold fromM
  rw [if_pos hr, count_lt (rightW_strict hr)]
/-- The places of words among themselves. -/
theorem wahd_self {l : List (List UInt8)} (hl : l.Pairwise (· < ·)) (i : Nat) (hi : i < l.length) : wahd l[i] l = i := by
  have hp := List.pairwise_iff_getElem.1 hl
  refine wahd_at l[i] l i (by omega) (fun j x hj hx => ?_) (fun x hx => ?_)
  · rw [List.getElem?_eq_getElem (by omega)] at hx
    cases hx
    exact hp j i (by omega) hi hj
  · rw [List.getElem?_eq_getElem hi] at hx
    cases hx
    exact wlt_irrefl _
/-- What Behind counts goes from yes to no once. -/
theorem behind_mono {l : List (List UInt8)} (hl : l.Pairwise (· < ·)) (s : List UInt8) (a b : Nat) (hab : a ≤ b) (hb : b < l.length) (h : (decide (l.getD a [] < s) || begW (l.getD a []) s) = false) : (decide (l.getD b [] < s) || begW (l.getD b []) s) = false := by
  by_cases e : a = b
  · subst e; exact h
  · have hp := List.pairwise_iff_getElem.1 hl a b (by omega) hb (by omega)
    have ga : l.getD a [] = l[a] := by rw [List.getD, List.getElem?_eq_getElem (by omega)]; rfl
    have gb : l.getD b [] = l[b] := by rw [List.getD, List.getElem?_eq_getElem hb]; rfl
    rw [ga] at h
    rw [gb]
    rw [Bool.or_eq_false_iff, decide_eq_false_iff_not] at h ⊢
    refine ⟨fun h2 => h.1 (wlt_trans hp h2), ?_⟩
    cases hx : begW l[b] s
    · rfl
    · have := beg_between s l[a] l[b] hx h.1 hp
      rw [this] at h
      cases h.2
theorem from_mono {l : List (List UInt8)} (hl : l.Pairwise (· < ·)) (s : List UInt8) (a b : Nat) (hab : a ≤ b) (hb : b < l.length) (h : decide (l.getD a [] < s) = false) : decide (l.getD b [] < s) = false := by
  by_cases e : a = b
  · subst e; exact h
  · have hp := List.pairwise_iff_getElem.1 hl a b (by omega) hb (by omega)
    have ga : l.getD a [] = l[a] := by rw [List.getD, List.getElem?_eq_getElem (by omega)]; rfl
    have gb : l.getD b [] = l[b] := by rw [List.getD, List.getElem?_eq_getElem hb]; rfl
    rw [ga] at h
    rw [gb]
    rw [decide_eq_false_iff_not] at h ⊢
    exact fun h2 => h (wlt_trans hp h2)
/-- Counting by places is counting by words. -/
theorem count_range (p : List UInt8 → Bool) : ∀ l : List (List UInt8), (List.range l.length).countP (fun i => p (l.getD i [])) = l.countP p
  | [] => rfl
  | x :: t => by
    rw [List.length_cons, List.range_succ_eq_map, List.countP_cons, List.countP_map, List.countP_cons, ← count_range p t]
    rfl
end Go.Proofs.YtojppmnmhdgnnaaGreat
namespace Go.Proofs.YtojppmnmhdgnnaaGreat
set_option linter.unusedVariables false
set_option linter.unusedSimpArgs false
open Go.RowKit

/-- The number that bytes are, the highest first. -/
def valB (l : List UInt8) : Nat := l.foldl (fun n c => n * 256 + c.toNat) 0
theorem valB_acc : ∀ (l : List UInt8) (a : Nat), l.foldl (fun n c => n * 256 + c.toNat) a = a * 256 ^ l.length + valB l
  | [], a => by simp [valB]
  | c :: l, a => by
    have h1 := valB_acc l (a * 256 + c.toNat)
    have h2 := valB_acc l (0 * 256 + c.toNat)
    unfold valB at *
    rw [List.foldl_cons, List.foldl_cons, h1, h2, List.length_cons, Nat.pow_succ, Nat.add_mul, Nat.zero_mul, Nat.zero_add, Nat.mul_assoc, Nat.mul_comm 256, Nat.add_assoc]
theorem valB_cons (c : UInt8) (l : List UInt8) : valB (c :: l) = c.toNat * 256 ^ l.length + valB l := by
  have h := valB_acc l (0 * 256 + c.toNat)
  rw [Nat.zero_mul, Nat.zero_add] at h
  rw [← h]
  unfold valB
  rw [List.foldl_cons, Nat.zero_mul, Nat.zero_add]
theorem valB_snoc (l : List UInt8) (c : UInt8) : valB (l ++ [c]) = valB l * 256 + c.toNat := by simp [valB]
theorem valB_lt : ∀ l : List UInt8, valB l < 256 ^ l.length
  | [] => by simp [valB]
  | c :: l => by
    have h1 := valB_lt l
    have h2 := c.toNat_lt
    rw [valB_cons, List.length_cons, Nat.pow_succ]
    have : (c.toNat + 1) * 256 ^ l.length ≤ 256 * 256 ^ l.length := Nat.mul_le_mul_right _ (by omega)
    rw [Nat.add_mul, Nat.one_mul] at this
    rw [Nat.mul_comm (256 ^ l.length) 256]
    omega
theorem valB_big (n : Nat) : ∀ t : Nat, valB (big n t t) = n % 256 ^ t
  | 0 => by rw [big_zero, Nat.pow_zero, Nat.mod_one]; rfl
  | t + 1 => by
    rw [big_cons, valB_cons, big_len, byteN_toNat, valB_big n t, Nat.pow_succ, Nat.mod_mul, Nat.mul_comm, Nat.add_comm]
theorem lt_lenB : ∀ (f n : Nat), n ≤ f → n < 18446744073709551616 → n < 256 ^ lenB n
  | f, n, hf, hn => by
    by_cases h0 : n = 0
    · subst h0
      rw [lenB_zero]
      decide
    · rw [lenB_next h0 hn, Nat.pow_succ]
      cases f with
      | zero => omega
      | succ f =>
        have := lt_lenB f (n / 256) (by omega) (by omega)
        omega
theorem lenB_bits {n : Nat} (h0 : n ≠ 0) (hn : n < 18446744073709551616) : 8 * (lenB n - 1) < Lib.bitLen n := by
  have h1 : lenB n = lenB (n / 256) + 1 := lenB_next h0 hn
  unfold lenB at h1 ⊢
  omega

/-- The number that bytes begin with, and the bytes behind. -/
def takeNum : List UInt8 → Option (Nat × List UInt8)
  | [] => none
  | f :: t =>
    if f.toNat < 248 then some (f.toNat, t)
    else if t.length < f.toNat - 247 then none
    else if valB (t.take (f.toNat - 247)) < 248 ∨ Lib.bitLen (valB (t.take (f.toNat - 247))) ≤ 8 * (f.toNat - 248) then none
    else some (valB (t.take (f.toNat - 247)), t.drop (f.toNat - 247))
theorem takeNum_lt {l u : List UInt8} {m : Nat} (h : takeNum l = some (m, u)) : m < 18446744073709551616 ∧ u.length < l.length := by
  cases l with
  | nil => cases h
  | cons f t =>
    rw [takeNum] at h
    have hf := f.toNat_lt
    split at h
    · obtain ⟨h1, h2⟩ := Prod.mk.inj (Option.some.inj h)
      subst h1; subst h2
      exact ⟨by omega, by simp⟩
    · split at h
      · cases h
      · split at h
        · cases h
        · obtain ⟨h1, h2⟩ := Prod.mk.inj (Option.some.inj h)
          subst h1; subst h2
          refine ⟨?_, by rw [List.length_drop, List.length_cons]; omega⟩
          have := valB_lt (t.take (f.toNat - 247))
          have h8 : (t.take (f.toNat - 247)).length ≤ 8 := by rw [List.length_take]; omega
          exact Nat.lt_of_lt_of_le this (Nat.le_trans (Nat.pow_le_pow_right (by decide) h8) (by decide +kernel))
theorem takeNum_suf {l u : List UInt8} {m : Nat} (h : takeNum l = some (m, u)) : ∃ k, u = l.drop k ∧ k ≤ l.length := by
  cases l with
  | nil => cases h
  | cons f t =>
    rw [takeNum] at h
    split at h
    · obtain ⟨h1, h2⟩ := Prod.mk.inj (Option.some.inj h)
      exact ⟨1, h2.symm, by simp⟩
    · split at h
      · cases h
      · split at h
        · cases h
        · obtain ⟨h1, h2⟩ := Prod.mk.inj (Option.some.inj h)
          exact ⟨f.toNat - 247 + 1, by rw [List.drop_succ_cons]; exact h2.symm, by rw [List.length_cons]; omega⟩
theorem takeNum_put {n : Nat} (hn : n < 18446744073709551616) (U : List UInt8) : takeNum (numB n ++ U) = some (n, U) := by
  unfold numB
  split
  · rename_i h
    rw [List.cons_append, List.nil_append, takeNum, byteN_toNat, Nat.mod_eq_of_lt (by omega), if_pos h]
  · rename_i h
    have h8 := lenB_le hn
    have h1 := lenB_pos (by omega) hn
    have e1 : (byteN (247 + lenB n)).toNat = 247 + lenB n := by rw [byteN_toNat, Nat.mod_eq_of_lt (by omega)]
    have e2 : (big n (lenB n) (lenB n) ++ U).take (lenB n) = big n (lenB n) (lenB n) := List.take_left' (big_len ..)
    have e3 : (big n (lenB n) (lenB n) ++ U).drop (lenB n) = U := List.drop_left' (big_len ..)
    have e4 : valB (big n (lenB n) (lenB n)) = n := by rw [valB_big, Nat.mod_eq_of_lt (lt_lenB n n (Nat.le_refl _) hn)]
    have h2 := lenB_bits (n := n) (by omega) hn
    rw [List.cons_append, takeNum, e1, if_neg (by omega), if_neg (by rw [List.length_append, big_len]; omega), show 247 + lenB n - 247 = lenB n from by omega, e2, e3, e4, if_neg]
    omega
theorem takeNum_short {n : Nat} (hn : n < 18446744073709551616) {j : Nat} (hj : j < (numB n).length) : takeNum ((numB n).take j) = none := by
  cases j with
  | zero => rfl
  | succ j =>
    unfold numB at hj ⊢
    split at hj
    · simp at hj
    · rename_i h
      have h8 := lenB_le hn
      rw [if_neg h]
      rw [List.length_cons, big_len] at hj
      have e1 : (byteN (247 + lenB n)).toNat = 247 + lenB n := by rw [byteN_toNat, Nat.mod_eq_of_lt (by omega)]
      have h1 := lenB_pos (by omega) hn
      rw [List.take_succ_cons, takeNum, e1, if_neg (by omega), if_pos (by rw [List.length_take, big_len]; omega)]

/-- The number that may be below nothing. -/
def unzig (m : Nat) : Int := if m % 2 = 0 then ((m / 2 : Nat) : Int) else -((m / 2 : Nat) : Int) - 1
theorem unzig_zig (n : Int) : unzig (zigN n) = n := by
  unfold unzig zigN
  split <;> split <;> omega
theorem unzig_in {m : Nat} (h : m < 18446744073709551616) : -9223372036854775808 ≤ unzig m ∧ unzig m ≤ 9223372036854775807 := by
  unfold unzig
  split <;> omega

/-- The text that bytes begin with. -/
def takeText (l : List UInt8) : Option (List UInt8 × List UInt8) :=
  match takeNum l with
  | none => none
  | some (m, u) => if 1024 < m ∨ u.length < m then none else some (u.take m, u.drop m)
theorem takeText_put {s : List UInt8} (hs : s.length ≤ 1024) (U : List UInt8) : takeText (numB s.length ++ s ++ U) = some (s, U) := by
  unfold takeText
  rw [List.append_assoc, takeNum_put (by omega)]
  dsimp only
  rw [if_neg (by rw [List.length_append]; omega), List.take_left, List.drop_left]
theorem take_le {α : Type} (l m : List α) {j : Nat} (h : j ≤ l.length) : (l ++ m).take j = l.take j := List.take_append_of_le_length h
theorem take_more {α : Type} (l m : List α) {j : Nat} (h : l.length ≤ j) : (l ++ m).take j = l ++ m.take (j - l.length) := by
  rw [List.take_append, List.take_of_length_le h]
theorem takeText_short {s : List UInt8} (hs : s.length ≤ 1024) {j : Nat} (hj : j < (numB s.length ++ s).length) : takeText ((numB s.length ++ s).take j) = none := by
  unfold takeText
  by_cases h : j < (numB s.length).length
  · rw [take_le _ _ (by omega), takeNum_short (by omega) h]
  · rw [List.length_append] at hj
    rw [take_more _ _ (by omega), takeNum_put (by omega)]
    dsimp only
    rw [if_pos (by rw [List.length_take]; omega)]

theorem takeText_suf {l s u : List UInt8} (h : takeText l = some (s, u)) : s.length ≤ 1024 ∧ ∃ k, u = l.drop k ∧ k ≤ l.length := by
  unfold takeText at h
  cases e : takeNum l with
  | none => rw [e] at h; cases h
  | some x =>
    obtain ⟨m, t⟩ := x
    rw [e] at h
    dsimp only at h
    split at h
    · cases h
    · obtain ⟨h1, h2⟩ := Prod.mk.inj (Option.some.inj h)
      obtain ⟨k, rfl, hk⟩ := takeNum_suf e
      refine ⟨by rw [← h1, List.length_take]; omega, k + m, ?_, ?_⟩
      · rw [← h2, List.drop_drop]
      · rw [List.length_drop] at *
        omega
end Go.Proofs.YtojppmnmhdgnnaaGreat
namespace Go.Proofs.YtojppmnmhdgnnaaGreat
set_option linter.unusedVariables false
set_option linter.unusedSimpArgs false

/-! ### What is taken was put so -/
theorem byteN_of (c : UInt8) : byteN c.toNat = c := by
  apply UInt8.toNat_inj.1
  rw [byteN_toNat]
  have := c.toNat_lt
  omega
theorem byteN_256 (c : UInt8) (q : Nat) : byteN (q * 256 + c.toNat) = c := by
  apply UInt8.toNat_inj.1
  rw [byteN_toNat]
  have := c.toNat_lt
  omega
theorem big_mod : ∀ (t n m : Nat), n % 256 ^ t = m % 256 ^ t → big n t t = big m t t
  | 0, _, _, _ => rfl
  | t + 1, n, m, h => by
    rw [big_cons, big_cons]
    have h1 : n % 256 ^ t = m % 256 ^ t := by
      have e : ∀ x : Nat, x % 256 ^ t = x % 256 ^ (t + 1) % 256 ^ t := fun x => (Nat.mod_mod_of_dvd x (by rw [Nat.pow_succ]; exact Nat.dvd_mul_right ..)).symm
      rw [e n, e m, h]
    have h2 : n / 256 ^ t % 256 = m / 256 ^ t % 256 := by
      have e : ∀ x : Nat, x / 256 ^ t % 256 = x % 256 ^ (t + 1) / 256 ^ t := fun x => by
        rw [Nat.pow_succ, Nat.mod_mul_right_div_self]
      rw [e n, e m, h]
    rw [big_mod t n m h1]
    congr 1
    apply UInt8.toNat_inj.1
    rw [byteN_toNat, byteN_toNat, h2]
theorem big_valB : ∀ l : List UInt8, big (valB l) l.length l.length = l
  | [] => rfl
  | c :: l => by
    have hl := valB_lt l
    have h0 : 0 < 256 ^ l.length := Nat.pow_pos (by decide)
    rw [List.length_cons, big_cons, valB_cons]
    congr 1
    · rw [Nat.mul_comm, Nat.mul_add_div h0, Nat.div_eq_of_lt hl, Nat.add_zero, byteN_of]
    · have := big_mod l.length (c.toNat * 256 ^ l.length + valB l) (valB l) (by rw [Nat.mul_comm, Nat.mul_add_mod])
      rw [this, big_valB l]
theorem takeNum_inv {l u : List UInt8} {n : Nat} (h : takeNum l = some (n, u)) : l = numB n ++ u := by
  cases l with
  | nil => cases h
  | cons f t =>
    rw [takeNum] at h
    have hf := f.toNat_lt
    split at h
    · rename_i h1
      cases h
      unfold numB
      rw [if_pos h1, byteN_of]
      rfl
    · rename_i h1
      split at h
      · cases h
      · rename_i h2
        split at h
        · cases h
        · rename_i h3
          obtain ⟨h4, h5⟩ := Prod.mk.inj (Option.some.inj h)
          subst h4
          subst h5
          have hl : (t.take (f.toNat - 247)).length = f.toNat - 247 := by rw [List.length_take]; omega
          have hv := valB_lt (t.take (f.toNat - 247))
          rw [hl] at hv
          have h8 : f.toNat - 247 ≤ 8 := by omega
          have hb := Lib.bitLen_le (valB (t.take (f.toNat - 247))) (8 * (f.toNat - 247)) (by omega) (by rw [Nat.pow_mul]; exact hv)
          have hL : lenB (valB (t.take (f.toNat - 247))) = f.toNat - 247 := by
            unfold lenB
            omega
          have hbig := big_valB (t.take (f.toNat - 247))
          rw [hl] at hbig
          unfold numB
          rw [if_neg (by omega), hL, hbig, List.cons_append, List.take_append_drop, show 247 + (f.toNat - 247) = f.toNat from by omega, byteN_of]
theorem takeText_inv {l s u : List UInt8} (h : takeText l = some (s, u)) : l = numB s.length ++ s ++ u ∧ s.length ≤ 1024 := by
  unfold takeText at h
  cases e : takeNum l with
  | none => rw [e] at h; cases h
  | some x =>
    obtain ⟨m, t⟩ := x
    rw [e] at h
    dsimp only at h
    split at h
    · cases h
    · rename_i h1
      cases h
      have hl : (t.take m).length = m := by rw [List.length_take]; omega
      rw [hl, takeNum_inv e, List.append_assoc, List.take_append_drop]
      exact ⟨rfl, by omega⟩

/-- What the reference looks at: whether the number's bytes are these. -/
theorem numB_canon {f : UInt8} {t : List UInt8} {k : Nat} (h : ¬ f.toNat < 248) (hk : f.toNat = k + 247) (hl : k ≤ t.length) : (numB (valB (t.take k)) = f :: t.take k) ↔ ¬ (valB (t.take k) < 248 ∨ Lib.bitLen (valB (t.take k)) ≤ 8 * (k - 1)) := by
  have hf := f.toNat_lt
  have htn : takeNum (f :: t) = if valB (t.take k) < 248 ∨ Lib.bitLen (valB (t.take k)) ≤ 8 * (k - 1) then none else some (valB (t.take k), t.drop k) := by
    rw [takeNum, if_neg h, show f.toNat - 247 = k from by omega, show f.toNat - 248 = k - 1 from by omega, if_neg (by omega)]
  constructor
  · intro e hc
    rw [if_pos hc] at htn
    have hV : valB (t.take k) < 18446744073709551616 := by
      have := valB_lt (t.take k)
      exact Nat.lt_of_lt_of_le this (Nat.le_trans (Nat.pow_le_pow_right (by decide) (show (t.take k).length ≤ 8 by rw [List.length_take]; omega)) (by decide +kernel))
    have h2 := takeNum_put hV (t.drop k)
    rw [e, List.cons_append, List.take_append_drop, htn] at h2
    cases h2
  · intro hc
    rw [if_neg hc] at htn
    have h2 := takeNum_inv htn
    have h3 : (f :: t.take k) ++ t.drop k = numB (valB (t.take k)) ++ t.drop k := by rw [← h2, List.cons_append, List.take_append_drop]
    exact (List.append_cancel_right h3).symm

/-! ### With how many bytes both begin -/
def comM : List UInt8 → List UInt8 → Nat
  | a :: x, b :: y => if a = b then comM x y + 1 else 0
  | _, _ => 0
theorem comM_le : ∀ x y : List UInt8, comM x y ≤ x.length ∧ comM x y ≤ y.length ∧ x.take (comM x y) = y.take (comM x y)
  | [], _ => by simp [comM]
  | _ :: _, [] => by simp [comM]
  | a :: x, b :: y => by
    rw [comM]
    split
    · rename_i h
      subst h
      obtain ⟨h1, h2, h3⟩ := comM_le x y
      exact ⟨by simpa using h1, by simpa using h2, by rw [List.take_succ_cons, List.take_succ_cons, h3]⟩
    · simp
theorem comM_ge : ∀ (x : List UInt8) (n : Nat) (s : List UInt8), n ≤ x.length → n ≤ comM x (x.take n ++ s)
  | _, 0, _, _ => Nat.zero_le _
  | [], n + 1, _, h => by simp at h
  | a :: x, n + 1, s, h => by
    rw [List.take_succ_cons, List.cons_append, comM, if_pos rfl]
    have := comM_ge x n s (by simpa using h)
    omega
/-- As a loop has it: how many are alike up to place j, and then no more. -/
theorem comM_at : ∀ (x y : List UInt8) (k : Nat), k ≤ x.length → k ≤ y.length → (∀ j, j < k → x.getD j 0 = y.getD j 0) → (k = min x.length y.length ∨ x.getD k 0 ≠ y.getD k 0) → comM x y = k
  | [], y, k, h1, _, _, _ => by
    simp at h1
    subst h1
    simp [comM]
  | a :: x, [], k, _, h2, _, _ => by
    simp at h2
    subst h2
    simp [comM]
  | a :: x, b :: y, 0, _, _, _, h4 => by
    rw [comM, if_neg]
    rintro rfl
    rcases h4 with h | h
    · simp at h
    · exact h (by simp)
  | a :: x, b :: y, k + 1, h1, h2, h3, h4 => by
    have h0 : a = b := by have := h3 0 (by omega); simpa using this
    rw [comM, if_pos h0, comM_at x y k (by simpa using h1) (by simpa using h2) (fun j hj => by have := h3 (j + 1) (by omega); simpa using this) ?_]
    rcases h4 with h | h
    · left; simp at h; omega
    · right; simpa using h

/-! ### Words as bytes -/
def putF (last : List UInt8) : List (List UInt8) → List UInt8
  | [] => []
  | w :: t => numB (comM last w) ++ (numB (w.drop (comM last w)).length ++ w.drop (comM last w)) ++ putF w t
def putM (l : List (List UInt8)) : Option (List UInt8) := if rightW l = true then some (numB l.length ++ putF [] l) else none
/-- So many words, one behind the other, each by how much it has with the one ahead. -/
def takeF : Nat → List UInt8 → List (List UInt8) → List UInt8 → Option (List (List UInt8) × List UInt8)
  | 0, _, a, p => some (a, p)
  | k + 1, last, a, p =>
    match takeNum p with
    | none => none
    | some (n, u) =>
      match takeText u with
      | none => none
      | some (s, v) =>
        if last.length < n then none
        else if comM last (last.take n ++ s) = n then takeF k (last.take n ++ s) (a ++ [last.take n ++ s]) v else none
/-- The reference's: it looks at what would be put only at the end. -/
def takeG : Nat → List UInt8 → List (List UInt8) → List UInt8 → Option (List (List UInt8) × List UInt8)
  | 0, _, a, p => some (a, p)
  | k + 1, last, a, p =>
    match takeNum p with
    | none => none
    | some (n, u) =>
      match takeText u with
      | none => none
      | some (s, v) => if last.length < n then none else takeG k (last.take n ++ s) (a ++ [last.take n ++ s]) v
theorem takeF_G : ∀ (k : Nat) (last : List UInt8) (a : List (List UInt8)) (p : List UInt8) (x : List (List UInt8) × List UInt8), takeF k last a p = some x → takeG k last a p = some x
  | 0, _, _, _, _, h => h
  | k + 1, last, a, p, x, h => by
    rw [takeF] at h
    rw [takeG]
    cases e : takeNum p with
    | none => rw [e] at h; cases h
    | some y =>
      obtain ⟨n, u⟩ := y
      rw [e] at h
      dsimp only at h ⊢
      cases e2 : takeText u with
      | none => rw [e2] at h; cases h
      | some z =>
        obtain ⟨s, v⟩ := z
        rw [e2] at h
        dsimp only at h ⊢
        split at h
        · cases h
        · rename_i h1
          split at h
          · rw [if_neg h1]
            exact takeF_G k _ _ _ _ h
          · cases h
theorem takeG_len : ∀ (k : Nat) (last : List UInt8) (a : List (List UInt8)) (p : List UInt8) (x : List (List UInt8) × List UInt8), takeG k last a p = some x → ∃ w, x.1 = a ++ w ∧ w.length = k
  | 0, _, a, _, _, h => by cases h; exact ⟨[], by simp, rfl⟩
  | k + 1, last, a, p, x, h => by
    rw [takeG] at h
    cases e : takeNum p with
    | none => rw [e] at h; cases h
    | some y =>
      obtain ⟨n, u⟩ := y
      rw [e] at h
      dsimp only at h
      cases e2 : takeText u with
      | none => rw [e2] at h; cases h
      | some z =>
        obtain ⟨s, v⟩ := z
        rw [e2] at h
        dsimp only at h
        split at h
        · cases h
        · obtain ⟨w, h1, h2⟩ := takeG_len k _ _ _ _ h
          exact ⟨(last.take n ++ s) :: w, by rw [h1]; simp, by rw [List.length_cons, h2]⟩
/-- What stands behind is the bytes' end. -/
theorem takeG_suf : ∀ (k : Nat) (last : List UInt8) (a : List (List UInt8)) (p : List UInt8) (x : List (List UInt8) × List UInt8), takeG k last a p = some x → ∃ j, x.2 = p.drop j
  | 0, _, a, _, _, h => by cases h; exact ⟨0, rfl⟩
  | k + 1, last, a, p, x, h => by
    rw [takeG] at h
    cases e : takeNum p with
    | none => rw [e] at h; cases h
    | some y =>
      obtain ⟨n, u⟩ := y
      rw [e] at h
      dsimp only at h
      cases e2 : takeText u with
      | none => rw [e2] at h; cases h
      | some z =>
        obtain ⟨s, v⟩ := z
        rw [e2] at h
        dsimp only at h
        split at h
        · cases h
        · obtain ⟨j1, rfl, _⟩ := takeNum_suf e
          obtain ⟨_, j2, rfl, _⟩ := takeText_suf e2
          obtain ⟨j3, h1⟩ := takeG_suf k _ _ _ _ h
          exact ⟨j1 + (j2 + j3), by rw [h1, List.drop_drop, List.drop_drop]⟩
/-- What was taken was put so. -/
theorem takeF_put : ∀ (k : Nat) (last : List UInt8) (a : List (List UInt8)) (p : List UInt8) (x : List (List UInt8) × List UInt8), takeF k last a p = some x → ∃ w, x.1 = a ++ w ∧ w.length = k ∧ p = putF last w ++ x.2
  | 0, _, a, p, _, h => by cases h; exact ⟨[], by simp, rfl, by simp [putF]⟩
  | k + 1, last, a, p, x, h => by
    rw [takeF] at h
    cases e : takeNum p with
    | none => rw [e] at h; cases h
    | some y =>
      obtain ⟨n, u⟩ := y
      rw [e] at h
      dsimp only at h
      cases e2 : takeText u with
      | none => rw [e2] at h; cases h
      | some z =>
        obtain ⟨s, v⟩ := z
        rw [e2] at h
        dsimp only at h
        split at h
        · cases h
        · rename_i h1
          split at h
          · rename_i h2
            obtain ⟨w, h3, h4, h5⟩ := takeF_put k _ _ _ _ h
            refine ⟨(last.take n ++ s) :: w, by rw [h3]; simp, by rw [List.length_cons, h4], ?_⟩
            have hd : (last.take n ++ s).drop n = s := List.drop_left' (by rw [List.length_take]; omega)
            rw [putF, h2, hd, takeNum_inv e, (takeText_inv e2).1, h5]
            simp only [List.append_assoc]
          · cases h
/-- And so is what the reference takes, if it would be put so. -/
theorem takeG_F : ∀ (k : Nat) (last : List UInt8) (a : List (List UInt8)) (p : List UInt8) (w : List (List UInt8)) (r : List UInt8), last.length + 1024 * k < 18446744073709551616 → takeG k last a p = some (a ++ w, r) → p = putF last w ++ r → takeF k last a p = some (a ++ w, r)
  | 0, _, _, _, _, _, _, h, _ => h
  | k + 1, last, a, p, w, r, hk, h, hp => by
    rw [takeG] at h
    rw [takeF]
    cases e : takeNum p with
    | none => rw [e] at h; cases h
    | some y =>
      obtain ⟨n, u⟩ := y
      rw [e] at h
      dsimp only at h ⊢
      cases e2 : takeText u with
      | none => rw [e2] at h; cases h
      | some z =>
        obtain ⟨s, v⟩ := z
        rw [e2] at h
        dsimp only at h ⊢
        split at h
        · cases h
        · rename_i h1
          obtain ⟨w2, h2, h3⟩ := takeG_len k _ _ _ _ h
          rw [if_neg h1]
          have hw : w = (last.take n ++ s) :: w2 := by
            have : a ++ w = a ++ [last.take n ++ s] ++ w2 := h2
            rw [List.append_assoc] at this
            exact List.append_cancel_left this
          have hs := (takeText_inv e2).2
          have hge := comM_ge last n s (by omega)
          have hle := comM_le last (last.take n ++ s)
          rw [hw, putF] at hp
          simp only [List.append_assoc] at hp
          have e' := e
          rw [hp, takeNum_put (by omega)] at e'
          obtain ⟨h4, h5⟩ := Prod.mk.inj (Option.some.inj e')
          have hd : (last.take n ++ s).drop n = s := List.drop_left' (by rw [List.length_take]; omega)
          rw [if_pos h4]
          rw [h4, hd] at h5
          have e2' := e2
          rw [← h5, ← List.append_assoc, takeText_put hs] at e2'
          obtain ⟨_, h6⟩ := Prod.mk.inj (Option.some.inj e2')
          have h7 : a ++ w = a ++ [last.take n ++ s] ++ w2 := h2
          rw [h7] at h ⊢
          refine takeG_F k _ _ _ w2 r ?_ h h6.symm
          rw [List.length_append, List.length_take]
          omega
/-- What was put is taken, with whatever stands behind. -/
theorem takeF_of : ∀ (l : List (List UInt8)) (last : List UInt8) (a : List (List UInt8)) (U : List UInt8), last.length ≤ 1024 → (∀ x ∈ l, x.length ≤ 1024) → takeF l.length last a (putF last l ++ U) = some (a ++ l, U)
  | [], last, a, U, _, _ => by simp [takeF, putF]
  | w :: t, last, a, U, hl, h => by
    obtain ⟨h1, h2, h3⟩ := comM_le last w
    have hw := h w (List.mem_cons_self ..)
    rw [List.length_cons, takeF, putF]
    simp only [List.append_assoc]
    rw [takeNum_put (by omega)]
    dsimp only
    rw [← List.append_assoc (numB _), takeText_put (by rw [List.length_drop]; omega)]
    dsimp only
    rw [if_neg (by omega), h3, List.take_append_drop, if_pos rfl, takeF_of t w _ U hw (fun x hx => h x (List.mem_cons_of_mem _ hx))]
    simp
def takeM (b : List UInt8) : Option (List (List UInt8) × List UInt8) :=
  match takeNum b with
  | none => none
  | some (m, u) => if 200 < m then none else match takeF m [] [] u with | none => none | some (w, r) => if rightW w = true then some (w, r) else none
def rTakeM (b : List UInt8) : Option (List (List UInt8) × List UInt8) :=
  match takeNum b with
  | none => none
  | some (m, u) => if 200 < m then none else match takeG m [] [] u with | none => none | some (w, r) => if putM w = some (b.take (b.length - r.length)) then some (w, r) else none
theorem rightW_le {l : List (List UInt8)} (h : rightW l = true) : (∀ x ∈ l, x.length ≤ 1024) ∧ l.length ≤ 200 := by
  unfold rightW at h
  rw [Bool.and_eq_true, Bool.and_eq_true, List.all_eq_true] at h
  exact ⟨fun x hx => of_decide_eq_true (h.1.1 x hx), of_decide_eq_true h.2⟩
theorem takeM_put {b : List UInt8} {w : List (List UInt8)} {r : List UInt8} (h : takeM b = some (w, r)) : rightW w = true ∧ b = numB w.length ++ putF [] w ++ r := by
  unfold takeM at h
  cases e : takeNum b with
  | none => rw [e] at h; cases h
  | some y =>
    obtain ⟨m, u⟩ := y
    rw [e] at h
    dsimp only at h
    split at h
    · cases h
    · cases e2 : takeF m [] [] u with
      | none => rw [e2] at h; cases h
      | some z =>
        obtain ⟨w', r'⟩ := z
        rw [e2] at h
        dsimp only at h
        split at h
        · rename_i hr
          cases h
          obtain ⟨w2, h1, h2, h3⟩ := takeF_put m [] [] u _ e2
          rw [List.nil_append] at h1
          cases h1
          refine ⟨hr, ?_⟩
          rw [takeNum_inv e, h2, h3, List.append_assoc]
        · cases h
theorem takeM_same (b : List UInt8) : takeM b = rTakeM b := by
  cases hM : takeM b with
  | some x =>
    obtain ⟨w, r⟩ := x
    obtain ⟨hr, hb⟩ := takeM_put hM
    unfold takeM at hM
    unfold rTakeM
    cases e : takeNum b with
    | none => rw [e] at hM; cases hM
    | some y =>
      obtain ⟨m, u⟩ := y
      rw [e] at hM
      dsimp only at hM ⊢
      split at hM
      · cases hM
      · rename_i hm
        rw [if_neg hm]
        cases e2 : takeF m [] [] u with
        | none => rw [e2] at hM; cases hM
        | some z =>
          obtain ⟨w', r'⟩ := z
          rw [e2] at hM
          dsimp only at hM
          rw [if_pos (by split at hM; assumption; cases hM)] at hM
          cases hM
          rw [takeF_G _ _ _ _ _ e2]
          dsimp only
          rw [if_pos]
          unfold putM
          rw [if_pos hr, hb, List.length_append, Nat.add_sub_cancel, List.take_left]
  | none =>
    unfold rTakeM
    cases e : takeNum b with
    | none => rfl
    | some y =>
      obtain ⟨m, u⟩ := y
      dsimp only
      split
      · rfl
      · rename_i hm
        cases e2 : takeG m [] [] u with
        | none => rfl
        | some z =>
          obtain ⟨w, r⟩ := z
          dsimp only
          split
          · rename_i hp
            exfalso
            unfold putM at hp
            split at hp
            · rename_i hr
              obtain ⟨w2, h1, h2⟩ := takeG_len m [] [] u _ e2
              rw [List.nil_append] at h1
              cases h1
              have hp' : numB w.length ++ putF [] w = b.take (b.length - r.length) := Option.some.inj hp
              obtain ⟨kk, hk⟩ := takeG_suf m [] [] u _ e2
              have hu := takeNum_inv e
              have hb : b = b.take (b.length - r.length) ++ r := by
                have h3 : b = numB m ++ u.take kk ++ r := by rw [List.append_assoc, show u.take kk ++ r = u from by rw [show r = u.drop kk from hk, List.take_append_drop], ← hu]
                have h4 : b.length - r.length = (numB m ++ u.take kk).length := by
                  have := congrArg List.length h3
                  rw [List.length_append] at this
                  omega
                conv => lhs; rw [h3]
                rw [h4]
                conv => rhs; rw [h3]
                rw [List.take_left]
              rw [← hp', h2] at hb
              have h5 : u = putF [] w ++ r := by
                rw [hb, List.append_assoc] at hu
                exact (List.append_cancel_left hu).symm
              have h6 := takeG_F m [] [] u w r (by simp; omega) (by simpa using e2) h5
              unfold takeM at hM
              rw [e] at hM
              dsimp only at hM
              rw [if_neg hm, h6] at hM
              dsimp only [List.nil_append] at hM
              rw [if_pos hr] at hM
              cases hM
            · cases hp
          · rfl
/-- Words that were put are taken, with whatever stands behind. -/
theorem takeM_of {l : List (List UInt8)} (h : rightW l = true) (U : List UInt8) : takeM (numB l.length ++ putF [] l ++ U) = some (l, U) := by
  obtain ⟨h1, h2⟩ := rightW_le h
  unfold takeM
  rw [List.append_assoc, takeNum_put (by omega)]
  dsimp only
  rw [if_neg (by omega), takeF_of l [] [] U (by simp) h1]
  dsimp only
  rw [List.nil_append, if_pos h]
end Go.Proofs.YtojppmnmhdgnnaaGreat
