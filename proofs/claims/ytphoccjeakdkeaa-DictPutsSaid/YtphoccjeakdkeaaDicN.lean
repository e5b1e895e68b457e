/- Words of texts, their places, where a text stands among them: plain laws. -/
import Derived.Test.YtphoccjeakdkeaaDicM
namespace Go.Proofs.Ytphoccjeakdkeaa

/-- Whether words may be: each less than the next, none too long, not too many. -/
def adjW : List (List UInt8) → Bool
  | x :: y :: t => decide (x < y) && adjW (y :: t)
  | _ => true
def rightW (l : List (List UInt8)) : Bool := l.all (fun x => decide (x.length ≤ 1024)) && adjW l && decide (l.length ≤ 200)
theorem adjW_strict : ∀ l : List (List UInt8), adjW l = true ↔ l.Pairwise (· < ·)
  | [] => by simp [adjW]
  | [x] => by simp [adjW]
  | x :: y :: t => by
    rw [adjW, Bool.and_eq_true, decide_eq_true_iff, adjW_strict (y :: t), List.pairwise_cons (a := x) (l := y :: t)]
    constructor
    · rintro ⟨h1, h2⟩
      refine ⟨fun z hz => ?_, h2⟩
      rcases List.mem_cons.1 hz with rfl | hz
      · exact h1
      · exact wlt_trans h1 ((List.pairwise_cons.1 h2).1 z hz)
    · rintro ⟨h1, h2⟩
      exact ⟨h1 y (List.mem_cons_self ..), h2⟩
theorem rightW_strict {l : List (List UInt8)} (h : rightW l = true) : l.Pairwise (· < ·) := by
  unfold rightW at h
  exact (adjW_strict l).1 (Bool.and_eq_true_iff.1 (Bool.and_eq_true_iff.1 h).1).2
/-- The loop over words: all is well up to place j. -/
def okAt (l : List (List UInt8)) (j : Nat) : Bool := decide ((l.getD j []).length ≤ 1024) && (decide (j = 0) || decide (l.getD (j - 1) [] < l.getD j []))
theorem okAt_all (l : List (List UInt8)) : ((List.range l.length).all (okAt l)) = (l.all (fun x => decide (x.length ≤ 1024)) && adjW l) := by
    apply Bool.eq_iff_iff.2
    rw [Bool.and_eq_true, adjW_strict, List.all_eq_true, List.all_eq_true]
    constructor
    · intro h
      have hj : ∀ j, j < l.length → (l.getD j []).length ≤ 1024 ∧ (j = 0 ∨ l.getD (j - 1) [] < l.getD j []) := fun j hj => by
        have := h j (List.mem_range.2 hj)
        unfold okAt at this
        obtain ⟨h1, h2⟩ := Bool.and_eq_true_iff.1 this
        refine ⟨of_decide_eq_true h1, ?_⟩
        rcases Bool.or_eq_true_iff.1 h2 with h2 | h2
        · exact .inl (of_decide_eq_true h2)
        · exact .inr (of_decide_eq_true h2)
      constructor
      · intro x hx
        obtain ⟨j, hjl, e⟩ := List.getElem_of_mem hx
        have := (hj j hjl).1
        rw [List.getD, List.getElem?_eq_getElem hjl, Option.getD_some, e] at this
        exact decide_eq_true this
      · rw [List.pairwise_iff_getElem]
        intro a b ha hb hab
        have key : ∀ d, a + 1 + d < l.length → l.getD a [] < l.getD (a + 1 + d) [] := by
          intro d
          induction d with
          | zero =>
            intro hd
            rcases (hj (a + 1) hd).2 with h0 | h0
            · omega
            · exact h0
          | succ d ih =>
            intro hd
            have h1 := ih (by omega)
            rcases (hj (a + 1 + (d + 1)) hd).2 with h0 | h0
            · omega
            · rw [show a + 1 + (d + 1) - 1 = a + 1 + d from by omega] at h0
              exact wlt_trans h1 h0
        have := key (b - (a + 1)) (by omega)
        rw [show a + 1 + (b - (a + 1)) = b from by omega] at this
        rw [List.getD, List.getElem?_eq_getElem ha, List.getD, List.getElem?_eq_getElem hb] at this
        exact this
    · rintro ⟨h1, h2⟩ j hj
      have hjl := List.mem_range.1 hj
      unfold okAt
      rw [Bool.and_eq_true, Bool.or_eq_true]
      have hg : l.getD j [] = l[j] := by rw [List.getD, List.getElem?_eq_getElem hjl]; rfl
      refine ⟨?_, ?_⟩
      · rw [hg]
        exact h1 _ (List.getElem_mem hjl)
      · by_cases h0 : j = 0
        · exact .inl (decide_eq_true h0)
        · right
          have hp := List.pairwise_iff_getElem.1 h2 (j - 1) j (by omega) hjl (by omega)
          have hg2 : l.getD (j - 1) [] = l[j - 1] := by rw [List.getD, List.getElem?_eq_getElem (by omega)]; rfl
          rw [hg, hg2]
          exact decide_eq_true hp
theorem rightW_loop (l : List (List UInt8)) : rightW l = ((List.range l.length).all (okAt l) && decide (l.length ≤ 200)) := by
  unfold rightW
  rw [okAt_all]

/-! ### The words of texts -/
def longs (l : List (List UInt8)) : Bool := l.any fun x => decide (1024 < x.length)
def ofM (l : List (List UInt8)) : Option (List (List UInt8) × List Int) :=
  if longs l = true ∨ 200 < (wordsM l).length then none else some (wordsM l, l.map (placeM (wordsM l)))
/-- The reference's: one by one. -/
def rOf (s : List (List UInt8)) : List (List UInt8) → Option (List (List UInt8))
  | [] => some s
  | x :: t => if 1024 < x.length then none else if x ∈ s then rOf s t else if s.length = 200 then none else rOf (insW x s) t
theorem rOf_spec : ∀ (l s : List (List UInt8)), s.length ≤ 200 → rOf s l = if longs l = true ∨ 200 < (l.foldl (fun s c => insW c s) s).length then none else some (l.foldl (fun s c => insW c s) s)
  | [], s, hs => by
    rw [rOf, if_neg]
    · rfl
    · rintro (h | h)
      · cases h
      · simp at h; omega
  | x :: t, s, hs => by
    rw [rOf, List.foldl_cons]
    have hl : longs (x :: t) = (decide (1024 < x.length) || longs t) := rfl
    by_cases hx : 1024 < x.length
    · rw [if_pos hx, if_pos (.inl (by rw [hl, decide_eq_true hx]; rfl))]
    · rw [if_neg hx, hl, decide_eq_false hx, Bool.false_or]
      have hn := insW_len x s
      by_cases hm : x ∈ s
      · have he : insW x s = s := by unfold insW; rw [if_pos hm]
        rw [if_pos hm, he]
        exact rOf_spec t s hs
      · rw [if_neg hm]
        rw [if_neg hm] at hn
        by_cases h2 : s.length = 200
        · have := wfold_mono t (insW x s)
          rw [if_pos h2, if_pos (.inr (by omega))]
        · rw [if_neg h2]
          exact rOf_spec t (insW x s) (by omega)
theorem rOf_ofM (l : List (List UInt8)) : (rOf [] l).map (fun w => (w, l.map (placeM w))) = ofM l := by
  rw [rOf_spec l [] (by simp), ← words_same]
  unfold ofM
  split <;> rfl

/-! ### Where a text stands -/
def findM (l : List (List UInt8)) (s : List UInt8) : Option Nat := if rightW l = true ∧ s ∈ l then some (wahd s l) else none
/-- How many words are less. -/
def fromM (l : List (List UInt8)) (s : List UInt8) : Nat := if rightW l = true then l.countP (fun x => decide (x < s)) else 0
def begW (x s : List UInt8) : Bool := decide (x.take s.length = s)
def behindM (l : List (List UInt8)) (s : List UInt8) : Nat := if rightW l = true then l.countP (fun x => decide (x < s) || begW x s) else 0
/-- What lies between a text and a longer one begins with it. -/
theorem beg_between : ∀ (s x y : List UInt8), begW y s = true → ¬ x < s → x < y → begW x s = true
  | [], x, y, _, _, _ => by unfold begW; simp
  | c :: s, [], y, _, h, _ => absurd (List.Lex.nil) h
  | c :: s, a :: x, [], h, _, _ => by
    unfold begW at h
    simp at h
  | c :: s, a :: x, b :: y, h, hx, hy => by
    unfold begW at h ⊢
    simp only [List.length_cons, List.take_succ_cons, List.cons.injEq, decide_eq_true_eq] at h ⊢
    obtain ⟨rfl, h⟩ := h
    have h1 : ¬ a < b := fun e => hx (List.Lex.rel e)
    have h2 : a = b := by
      cases hy with
      | rel e => exact absurd e h1
      | cons e => rfl
    subst h2
    have h3 : x < y := by
      cases hy with
      | rel e => exact absurd e (by simp)
      | cons e => exact e
    exact ⟨rfl, of_decide_eq_true (beg_between s x y (decide_eq_true h) (fun e => hx (List.Lex.cons e)) h3)⟩
end Go.Proofs.Ytphoccjeakdkeaa
