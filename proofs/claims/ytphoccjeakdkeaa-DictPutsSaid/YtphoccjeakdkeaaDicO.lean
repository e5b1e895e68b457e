/- Where words stand, and how places stand to one another: plain laws. -/
import Derived.Test.YtphoccjeakdkeaaDicN
namespace Go.Proofs.Ytphoccjeakdkeaa

theorem count_lt {l : List (List UInt8)} (hl : l.Pairwise (· < ·)) (s : List UInt8) : l.countP (fun x => decide (x < s)) = wahd s l := by
  induction l with
  | nil => rfl
  | cons y t ih =>
    rw [List.pairwise_cons] at hl
    rw [wahd, List.countP_cons]
    by_cases h : y < s
    · rw [if_pos h, ih hl.2, decide_eq_true h, if_pos rfl]
    · rw [if_neg h, decide_eq_false h]
      have h0 : t.countP (fun x => decide (x < s)) = 0 := by
        rw [List.countP_eq_zero]
        intro x hx
        rw [decide_eq_true_iff]
        exact fun h2 => h (wlt_trans (hl.1 x hx) h2)
      rw [h0, if_neg (by decide)]
theorem wahd_mono {l : List (List UInt8)} (hl : l.Pairwise (· < ·)) {a b : List UInt8} (ha : a ∈ l) (hb : b ∈ l) : (wahd a l < wahd b l ↔ a < b) := by
  obtain ⟨_, h1⟩ := wahd_idx hl ha
  obtain ⟨_, h2⟩ := wahd_idx hl hb
  constructor
  · intro h
    exact wahd_lt b l _ _ h h1
  · intro h
    refine Nat.lt_of_not_le fun hle => ?_
    by_cases e : wahd b l = wahd a l
    · rw [e] at h2
      rw [h1] at h2
      cases h2
      exact wlt_irrefl a h
    · have := wahd_lt a l _ _ (by omega) h2
      exact wlt_asymm h this
theorem wahd_lt_len {l : List (List UInt8)} (hl : l.Pairwise (· < ·)) {a : List UInt8} (ha : a ∈ l) : wahd a l < l.length :=
  (List.getElem?_eq_some_iff.1 (wahd_idx hl ha).2).1
theorem placeM_mem {l : List (List UInt8)} (hl : l.Pairwise (· < ·)) {a : List UInt8} (ha : a ∈ l) : placeM l a = (wahd a l : Int) := by
  unfold placeM
  rw [if_pos ha, (wahd_idx hl ha).1]
theorem placeM_not {l : List (List UInt8)} {a : List UInt8} (ha : ¬ a ∈ l) : placeM l a = -1 := by
  unfold placeM
  rw [if_neg ha]
/-- What Of tells may be. -/
theorem ofM_right {l w : List (List UInt8)} {p : List Int} (h : ofM l = some (w, p)) : rightW w = true ∧ w = wordsM l ∧ p = l.map (placeM w) ∧ ∀ x ∈ l, x ∈ w := by
  unfold ofM at h
  split at h
  · cases h
  · rename_i hn
    cases h
    obtain ⟨h1, h2⟩ := wordsM_spec l
    have hlong : ¬ longs l = true := fun e => hn (.inl e)
    have hlen : ¬ 200 < (wordsM l).length := fun e => hn (.inr e)
    refine ⟨?_, rfl, rfl, fun x hx => (h2 x).2 hx⟩
    unfold rightW
    rw [Bool.and_eq_true, Bool.and_eq_true]
    refine ⟨⟨?_, (adjW_strict _).2 h1⟩, decide_eq_true (by omega)⟩
    rw [List.all_eq_true]
    intro x hx
    refine decide_eq_true (Nat.le_of_not_lt fun h => hlong ?_)
    unfold longs
    rw [List.any_eq_true]
    exact ⟨x, (h2 x).1 hx, decide_eq_true h⟩
/-- How many words a text has that is among them. -/
theorem fromM_mem {l : List (List UInt8)} (hr : rightW l = true) {a : List UInt8} : fromM l a = wahd a l := by
  unfold fromM
  rw [if_pos hr, count_lt (rightW_strict hr)]
/-- The places of words among themselves. -/
theorem wahd_self {l : List (List UInt8)} (hl : l.Pairwise (· < ·)) (i : Nat) (hi : i < l.length) : wahd l[i] l = i := by
  have hp := List.pairwise_iff_getElem.1 hl
  refine wahd_at l[i] l i (by omega) (fun j x hj hx => ?_) (fun x hx => ?_)
  · rw [List.getElem?_eq_getElem (by omega)] at hx
    cases hx
    exact hp j i (by omega) hi hj
  · rw [List.getElem?_eq_getElem hi] at hx
    cases hx
    exact wlt_irrefl _
/-- What Behind counts goes from yes to no once. -/
theorem behind_mono {l : List (List UInt8)} (hl : l.Pairwise (· < ·)) (s : List UInt8) (a b : Nat) (hab : a ≤ b) (hb : b < l.length) (h : (decide (l.getD a [] < s) || begW (l.getD a []) s) = false) : (decide (l.getD b [] < s) || begW (l.getD b []) s) = false := by
  by_cases e : a = b
  · subst e; exact h
  · have hp := List.pairwise_iff_getElem.1 hl a b (by omega) hb (by omega)
    have ga : l.getD a [] = l[a] := by rw [List.getD, List.getElem?_eq_getElem (by omega)]; rfl
    have gb : l.getD b [] = l[b] := by rw [List.getD, List.getElem?_eq_getElem hb]; rfl
    rw [ga] at h
    rw [gb]
    rw [Bool.or_eq_false_iff, decide_eq_false_iff_not] at h ⊢
    refine ⟨fun h2 => h.1 (wlt_trans hp h2), ?_⟩
    cases hx : begW l[b] s
    · rfl
    · have := beg_between s l[a] l[b] hx h.1 hp
      rw [this] at h
      cases h.2
theorem from_mono {l : List (List UInt8)} (hl : l.Pairwise (· < ·)) (s : List UInt8) (a b : Nat) (hab : a ≤ b) (hb : b < l.length) (h : decide (l.getD a [] < s) = false) : decide (l.getD b [] < s) = false := by
  by_cases e : a = b
  · subst e; exact h
  · have hp := List.pairwise_iff_getElem.1 hl a b (by omega) hb (by omega)
    have ga : l.getD a [] = l[a] := by rw [List.getD, List.getElem?_eq_getElem (by omega)]; rfl
    have gb : l.getD b [] = l[b] := by rw [List.getD, List.getElem?_eq_getElem hb]; rfl
    rw [ga] at h
    rw [gb]
    rw [decide_eq_false_iff_not] at h ⊢
    exact fun h2 => h (wlt_trans hp h2)
/-- Counting by places is counting by words. -/
theorem count_range (p : List UInt8 → Bool) : ∀ l : List (List UInt8), (List.range l.length).countP (fun i => p (l.getD i [])) = l.countP p
  | [] => rfl
  | x :: t => by
    rw [List.length_cons, List.range_succ_eq_map, List.countP_cons, List.countP_map, List.countP_cons, ← count_range p t]
    rfl
end Go.Proofs.Ytphoccjeakdkeaa
