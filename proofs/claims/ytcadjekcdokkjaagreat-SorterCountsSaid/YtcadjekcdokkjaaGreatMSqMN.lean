/- A stable sort in place, by insertion and by symmetric merges (what it does is a change of places): plain laws, with no program in sight. Rows in order, those that stand alike as they were: what that is, and lists in order merged. Plain laws, with no program in sight. -/
import Derived.Test.YtcadjekcdokkjaaGreatMBaCr
namespace Go.Proofs.YtcadjekcdokkjaaGreat
set_option linter.unusedVariables false
set_option linter.unusedSimpArgs false
namespace Sq
variable {α : Type}
def Srt (le : α → α → Prop) (d : Nat → α) (lo hi : Nat) : Prop := ∀ i j, lo ≤ i → i < j → j < hi → le (d i) (d j)
structure Sub (d d' : Nat → α) (lo hi : Nat) : Prop where
 way : ∃ p q : Nat → Nat, (∀ i, p (q i) = i) ∧ (∀ i, q (p i) = i) ∧ (∀ i, (i < lo ∨ hi ≤ i) → p i = i) ∧ ∀ i, d' i = d (p i)
theorem Sub.out {d d' : Nat → α} {lo hi : Nat} (h : Sub d d' lo hi) (i : Nat) (hi' : i < lo ∨ hi ≤ i) : d' i = d i := by
 obtain ⟨p, q, h1, h2, h3, h4⟩ := h.way
 rw [h4, h3 i hi']
theorem Sub.in_ {d d' : Nat → α} {lo hi : Nat} (h : Sub d d' lo hi) (i : Nat) (h1 : lo ≤ i) (h2 : i < hi) : ∃ j, lo ≤ j ∧ j < hi ∧ d' i = d j := by
 obtain ⟨p, q, a1, a2, a3, a4⟩ := h.way
 by_cases hc : p i < lo ∨ hi ≤ p i
 ·have := a3 (p i) hc
  have e : p i = i := by
   have := congrArg q this
   rwa [a2, a2] at this
  rw [e] at hc
  omega
 ·exact ⟨p i, by omega, by omega, a4 i⟩
structure Ordr (le : α → α → Prop) : Prop where
 trans : ∀ x y z, le x y → le y z → le x z
 total : ∀ x y, le x y ∨ le y x
theorem Sub.refl (d : Nat → α) (lo hi : Nat) : Sub d d lo hi := ⟨⟨id, id, fun _ => rfl, fun _ => rfl, fun _ _ => rfl, fun _ => rfl⟩⟩
theorem Sub.trans {d d' d'' : Nat → α} {lo hi : Nat} (h : Sub d d' lo hi) (k : Sub d' d'' lo hi) : Sub d d'' lo hi := by
 obtain ⟨p, q, a1, a2, a3, a4⟩ := h.way
 obtain ⟨p', q', b1, b2, b3, b4⟩ := k.way
 exact ⟨⟨fun i => p (p' i), fun i => q' (q i), fun i => by dsimp only; rw [b1, a1], fun i => by dsimp only; rw [a2, b2], fun i hi => by dsimp only; rw [b3 i hi, a3 i hi], fun i => by rw [b4, a4]⟩⟩
theorem Sub.wide {d d' : Nat → α} {lo hi lo' hi' : Nat} (h : Sub d d' lo hi) (h1 : lo' ≤ lo) (h2 : hi ≤ hi') : Sub d d' lo' hi' := by
 obtain ⟨p, q, a1, a2, a3, a4⟩ := h.way
 exact ⟨⟨p, q, a1, a2, fun i hi => a3 i (by omega), a4⟩⟩
theorem Srt.part {le : α → α → Prop} {d : Nat → α} {lo hi lo' hi' : Nat} (h : Srt le d lo hi) (h1 : lo ≤ lo') (h2 : hi' ≤ hi) : Srt le d lo' hi' := fun i j a b c => h i j (by omega) b (by omega)
theorem Srt.of_eq {le : α → α → Prop} {d d' : Nat → α} {lo hi : Nat} (h : Srt le d lo hi) (he : ∀ i, lo ≤ i → i < hi → d' i = d i) : Srt le d' lo hi := fun i j a b c => by
 rw [he i a (by omega), he j (by omega) c]
 exact h i j a b c
theorem Srt.le {le : α → α → Prop} (O : Ordr le) {d : Nat → α} {lo hi i j : Nat} (h : Srt le d lo hi) (h1 : lo ≤ i) (h2 : i ≤ j) (h3 : j < hi) : le (d i) (d j) := by
 rcases Nat.lt_or_eq_of_le h2 with h4 | h4
 ·exact h i j h1 h4 h3
 ·subst h4
  exact (O.total (d i) (d i)).elim id id
theorem Srt.join {le : α → α → Prop} {d : Nat → α} {lo mid hi : Nat} (h1 : Srt le d lo mid) (h2 : Srt le d mid hi) (h3 : ∀ i j, lo ≤ i → i < mid → mid ≤ j → j < hi → le (d i) (d j)) : Srt le d lo hi := fun i j a b c => by
 by_cases hj : j < mid
 ·exact h1 i j a b hj
 ·by_cases hi : mid ≤ i
  ·exact h2 i j hi b c
  ·exact h3 i j a (by omega) (by omega) c
/-! ### Exchanging -/
def swp (d : Nat → α) (i j : Nat) : Nat → α := fun p => if p = i then d j else if p = j then d i else d p
def swps (d : Nat → α) (a b n : Nat) : Nat → α := fun p => if a ≤ p ∧ p < a + n then d (p - a + b) else if b ≤ p ∧ p < b + n then d (p - b + a) else d p
def rot (d : Nat → α) (a m b : Nat) : Nat → α := fun p => if a ≤ p ∧ p < a + (b - m) then d (p + (m - a)) else if a + (b - m) ≤ p ∧ p < b then d (p - (b - m)) else d p
theorem swps_zero (d : Nat → α) (a b : Nat) : swps d a b 0 = d := by
 funext p
 unfold swps
 rw [if_neg (by omega), if_neg (by omega)]
theorem swps_succ (d : Nat → α) {a b n : Nat} (h : a + (n + 1) ≤ b) : swp (swps d a b n) (a + n) (b + n) = swps d a b (n + 1) := by
 funext p
 unfold swp swps
 by_cases h1 : p = a + n
 ·subst h1
  rw [if_pos rfl, if_neg (by omega), if_neg (by omega), if_pos (by omega)]
  congr 1
  omega
 ·rw [if_neg h1]
  by_cases h2 : p = b + n
  ·subst h2
   rw [if_pos rfl, if_neg (by omega), if_neg (by omega), if_neg (by omega), if_pos (by omega)]
   congr 1
   omega
  ·rw [if_neg h2]
   by_cases h3 : a ≤ p ∧ p < a + n
   ·rw [if_pos h3, if_pos (by omega)]
   ·rw [if_neg h3]
    by_cases h4 : b ≤ p ∧ p < b + n
    ·rw [if_pos h4, if_neg (by omega), if_pos (by omega)]
    ·rw [if_neg h4, if_neg (by omega), if_neg (by omega)]
theorem rot_gt (d : Nat → α) {m i j : Nat} (hi : i ≤ m) (h : j < i) : rot (swps d (m - i) m j) (m - (i - j)) m (m + j) = rot d (m - i) m (m + j) := by
 funext p
 unfold rot swps
 by_cases h1 : m - i ≤ p ∧ p < m - i + j
 ·rw [if_neg (by omega), if_neg (by omega), if_pos (by omega), if_pos (by omega)]
  congr 1
  omega
 ·by_cases h2 : m - (i - j) ≤ p ∧ p < m - (i - j) + (m + j - m)
  ·rw [if_pos h2]
   by_cases h3 : p + (m - (m - (i - j))) < m
   ·rw [if_neg (by omega), if_neg (by omega), if_neg (by omega), if_pos (by omega)]
    congr 1
    omega
   ·rw [if_neg (by omega), if_pos (by omega), if_neg (by omega), if_pos (by omega)]
    congr 1
    omega
  ·rw [if_neg h2]
   by_cases h3 : m - (i - j) + (m + j - m) ≤ p ∧ p < m + j
   ·rw [if_pos h3, if_neg (by omega), if_neg (by omega), if_neg (by omega), if_pos (by omega)]
   ·rw [if_neg h3, if_neg (by omega), if_neg (by omega), if_neg (by omega), if_neg (by omega)]
theorem rot_lt (d : Nat → α) {m i j : Nat} (hi : i ≤ m) (h : i < j) : rot (swps d (m - i) (m + j - i) i) (m - i) m (m + (j - i)) = rot d (m - i) m (m + j) := by
 funext p
 unfold rot swps
 by_cases h1 : m - i ≤ p ∧ p < m - i + (m + (j - i) - m)
 ·rw [if_pos h1, if_pos (show m - i ≤ p ∧ p < m - i + (m + j - m) by omega)]
  by_cases h2 : p + (m - (m - i)) < m + j - i
  ·rw [if_neg (by omega), if_neg (by omega)]
  ·omega
 ·rw [if_neg h1]
  by_cases h2 : m - i + (m + (j - i) - m) ≤ p ∧ p < m + (j - i)
  ·rw [if_pos h2]
   rw [if_pos (show m - i ≤ p ∧ p < m - i + (m + j - m) by omega), if_pos (by omega)]
   congr 1
   omega
  ·rw [if_neg h2]
   by_cases h3 : m + (j - i) ≤ p ∧ p < m + j
   ·rw [if_neg (by omega), if_pos (by omega), if_neg (by omega), if_pos (by omega)]
    congr 1
    omega
   ·rw [if_neg (by omega), if_neg (by omega), if_neg (by omega), if_neg (by omega)]
theorem rot_eq (d : Nat → α) {m i : Nat} (hi : i ≤ m) : swps d (m - i) m i = rot d (m - i) m (m + i) := by
 funext p
 unfold rot swps
 by_cases h1 : m - i ≤ p ∧ p < m
 ·rw [if_pos (by omega), if_pos (by omega)]
  congr 1
  omega
 ·by_cases h2 : m ≤ p ∧ p < m + i
  ·rw [if_neg (by omega), if_pos (by omega), if_neg (by omega), if_pos (by omega)]
   congr 1
   omega
  ·rw [if_neg (by omega), if_neg (by omega), if_neg (by omega), if_neg (by omega)]
theorem rot_sub (d : Nat → α) {a m b : Nat} (h1 : a ≤ m) (h2 : m ≤ b) : Sub d (rot d a m b) a b := by
 refine ⟨⟨fun p => if a ≤ p ∧ p < a + (b - m) then p + (m - a) else if a + (b - m) ≤ p ∧ p < b then p - (b - m) else p, fun p => if m ≤ p ∧ p < b then p - (m - a) else if a ≤ p ∧ p < m then p + (b - m) else p, fun i => ?_, fun i => ?_, fun i hi => ?_, fun i => ?_⟩⟩
 ·dsimp only
  by_cases e1 : m ≤ i ∧ i < b
  ·rw [if_pos e1, if_pos (by omega)]; omega
  ·rw [if_neg e1]
   by_cases e2 : a ≤ i ∧ i < m
   ·rw [if_pos e2, if_neg (by omega), if_pos (by omega)]; omega
   ·rw [if_neg e2, if_neg (by omega), if_neg (by omega)]
 ·dsimp only
  by_cases e1 : a ≤ i ∧ i < a + (b - m)
  ·rw [if_pos e1, if_pos (by omega)]; omega
  ·rw [if_neg e1]
   by_cases e2 : a + (b - m) ≤ i ∧ i < b
   ·rw [if_pos e2, if_neg (by omega), if_pos (by omega)]; omega
   ·rw [if_neg e2, if_neg (by omega), if_neg (by omega)]
 ·dsimp only
  rw [if_neg (by omega), if_neg (by omega)]
 ·unfold rot
  dsimp only
  split
  ·rfl
  ·split <;> rfl
theorem swp_sub (d : Nat → α) {i j lo hi : Nat} (h1 : lo ≤ i ∧ i < hi) (h2 : lo ≤ j ∧ j < hi) : Sub d (swp d i j) lo hi := by
 have hs : ∀ p : Nat, (fun p => if p = i then j else if p = j then i else p) ((fun p => if p = i then j else if p = j then i else p) p) = p := fun p => by
  dsimp only
  by_cases e1 : p = i
  ·rw [if_pos e1]
   by_cases e2 : j = i
   ·rw [if_pos e2, e2, e1]
   ·rw [if_neg e2, if_pos rfl, e1]
  ·rw [if_neg e1]
   by_cases e2 : p = j
   ·rw [if_pos e2, if_pos rfl, e2]
   ·rw [if_neg e2, if_neg e1, if_neg e2]
 refine ⟨⟨fun p => if p = i then j else if p = j then i else p, fun p => if p = i then j else if p = j then i else p, hs, hs, fun p hp => ?_, fun p => ?_⟩⟩
 ·dsimp only
  rw [if_neg (by omega), if_neg (by omega)]
 ·unfold swp
  dsimp only
  split
  ·rfl
  ·split <;> rfl
/-! ### Insertion -/
structure Ins (le : α → α → Prop) (d : Nat → α) (a i j : Nat) : Prop where
 lo : a ≤ j
 hi : j ≤ i
 rest : ∀ p q, a ≤ p → p < q → q ≤ i → p ≠ j → q ≠ j → le (d p) (d q)
 up : ∀ q, j < q → q ≤ i → le (d j) (d q)
theorem Ins.start {le : α → α → Prop} {d : Nat → α} {a i : Nat} (h : Srt le d a i) (ha : a ≤ i) : Ins le d a i i := ⟨ha, Nat.le_refl _, fun p q h1 h2 h3 _ h5 => h p q h1 h2 (by omega), fun q h1 h2 => by omega⟩
theorem Ins.step {le : α → α → Prop} (O : Ordr le) {d : Nat → α} {a i j : Nat} (h : Ins le d a i (j + 1)) (ha : a ≤ j) (hlt : ¬ le (d j) (d (j + 1))) : Ins le (swp d (j + 1) j) a i j := by
 have hle : le (d (j + 1)) (d j) := (O.total _ _).resolve_left hlt
 have hhi := h.hi
 refine ⟨ha, by omega, fun p q h1 h2 h3 h4 h5 => ?_, fun q h1 h2 => ?_⟩
 ·unfold swp
  by_cases e1 : p = j + 1
  ·subst e1
   rw [if_pos rfl, if_neg (by omega), if_neg h5]
   exact h.rest j q ha (by omega) h3 (by omega) (by omega)
  ·rw [if_neg e1, if_neg h4]
   by_cases e2 : q = j + 1
   ·rw [if_pos e2]
    exact h.rest p j h1 (by omega) (by omega) e1 (by omega)
   ·rw [if_neg e2, if_neg h5]
    exact h.rest p q h1 h2 h3 e1 e2
 ·unfold swp
  rw [if_neg (show j ≠ j + 1 by omega), if_pos rfl]
  by_cases e2 : q = j + 1
  ·rw [if_pos e2]; exact hle
  ·rw [if_neg e2, if_neg (by omega)]
   exact h.up q (by omega) h2
theorem Ins.done {le : α → α → Prop} (O : Ordr le) {d : Nat → α} {a i j : Nat} (h : Ins le d a i j) (hs : j = a ∨ (0 < j ∧ le (d (j - 1)) (d j))) : Srt le d a (i + 1) := fun p q h1 h2 h3 => by
 by_cases e1 : p = j
 ·rw [e1]; exact h.up q (by omega) (by omega)
 ·by_cases e2 : q = j
  ·rcases hs with hs | ⟨h0, hs⟩
   ·omega
   ·rw [e2]
    by_cases e3 : p = j - 1
    ·rw [e3]; exact hs
    ·exact O.trans _ _ _ (h.rest p (j - 1) h1 (by omega) (by have := h.hi; omega) e1 (by omega)) hs
  ·exact h.rest p q h1 h2 (by omega) e1 e2
def Mov (f : α → Nat) (d : Nat → α) (a i j : Nat) : Prop := ∀ p, a ≤ p → p ≤ i → p ≠ j → f (d p) < f (d j)
theorem Mov.swp {f : α → Nat} {d : Nat → α} {a i j : Nat} (h : Mov f d a i (j + 1)) (ha : a ≤ j) (hj : j + 1 ≤ i) : Mov f (swp d (j + 1) j) a i j := fun p h1 h2 h3 => by
 unfold Sq.swp
 rw [if_neg (show j ≠ j + 1 by omega), if_pos rfl]
 by_cases e : p = j + 1
 ·rw [if_pos e]
  exact h j ha (by omega) (by omega)
 ·rw [if_neg e, if_neg h3]
  exact h p h1 h2 e
/-! ### One put among others -/
def upTo (d : Nat → α) (a k : Nat) : Nat → α := fun p => if a ≤ p ∧ p < k then d (p + 1) else if p = k then d a else d p
theorem upTo_zero (d : Nat → α) (a : Nat) : upTo d a a = d := by
 funext p
 unfold upTo
 rw [if_neg (by omega)]
 split
 ·rename_i h; rw [h]
 ·rfl
theorem upTo_succ (d : Nat → α) {a k : Nat} (h : a ≤ k) : swp (upTo d a k) k (k + 1) = upTo d a (k + 1) := by
 funext p
 unfold swp upTo
 by_cases h1 : p = k
 ·subst h1
  rw [if_pos rfl, if_neg (by omega), if_neg (by omega), if_pos (by omega)]
 ·rw [if_neg h1]
  by_cases h2 : p = k + 1
  ·subst h2
   rw [if_pos rfl, if_neg (by omega), if_pos rfl, if_neg (by omega), if_pos rfl]
  ·rw [if_neg h2]
   by_cases h3 : a ≤ p ∧ p < k
   ·rw [if_pos h3, if_pos (by omega)]
   ·rw [if_neg h3, if_neg h1, if_neg (by omega), if_neg h2]
theorem upTo_sub (d : Nat → α) {a k hi : Nat} (h : a ≤ k) (hk : k < hi) : Sub d (upTo d a k) a hi := by
 refine ⟨⟨fun p => if a ≤ p ∧ p < k then p + 1 else if p = k then a else p, fun p => if a < p ∧ p ≤ k then p - 1 else if p = a then k else p, fun p => ?_, fun p => ?_, fun p hp => ?_, fun p => ?_⟩⟩
 ·dsimp only
  by_cases e1 : a < p ∧ p ≤ k
  ·rw [if_pos e1, if_pos (by omega)]; omega
  ·rw [if_neg e1]
   by_cases e2 : p = a
   ·rw [if_pos e2, if_neg (by omega), if_pos rfl, e2]
   ·rw [if_neg e2, if_neg (by omega), if_neg (by omega)]
 ·dsimp only
  by_cases e1 : a ≤ p ∧ p < k
  ·rw [if_pos e1, if_pos (by omega)]; omega
  ·rw [if_neg e1]
   by_cases e2 : p = k
   ·rw [if_pos e2, if_neg (by omega), if_pos rfl, e2]
   ·rw [if_neg e2, if_neg (by omega), if_neg (by omega)]
 ·dsimp only
  rw [if_neg (by omega), if_neg (by omega)]
 ·unfold upTo
  dsimp only
  split
  ·rfl
  ·split <;> rfl
theorem upTo_srt {le : α → α → Prop} {d : Nat → α} {a i b : Nat} (h : Srt le d (a + 1) b) (h1 : a + 1 ≤ i) (h2 : i ≤ b) (h3 : ∀ q, a + 1 ≤ q → q < i → le (d q) (d a)) (h4 : ∀ q, i ≤ q → q < b → le (d a) (d q)) : Srt le (upTo d a (i - 1)) a b := fun p q p1 p2 p3 => by
 unfold upTo
 by_cases e1 : a ≤ p ∧ p < i - 1
 ·rw [if_pos e1]
  by_cases e2 : a ≤ q ∧ q < i - 1
  ·rw [if_pos e2]; exact h _ _ (by omega) (by omega) (by omega)
  ·rw [if_neg e2]
   by_cases e3 : q = i - 1
   ·rw [if_pos e3]; exact h3 _ (by omega) (by omega)
   ·rw [if_neg e3]; exact h _ _ (by omega) (by omega) (by omega)
 ·rw [if_neg e1, if_neg (show ¬ (a ≤ q ∧ q < i - 1) by omega), if_neg (show ¬ q = i - 1 by omega)]
  by_cases e3 : p = i - 1
  ·rw [if_pos e3]; exact h4 _ (by omega) (by omega)
  ·rw [if_neg e3]; exact h _ _ (by omega) (by omega) (by omega)
def dnTo (d : Nat → α) (m k : Nat) : Nat → α := fun p => if k < p ∧ p ≤ m then d (p - 1) else if p = k then d m else d p
theorem dnTo_zero (d : Nat → α) (m : Nat) : dnTo d m m = d := by
 funext p
 unfold dnTo
 rw [if_neg (by omega)]
 split
 ·rename_i h; rw [h]
 ·rfl
theorem dnTo_succ (d : Nat → α) {m k : Nat} (h : k + 1 ≤ m) : swp (dnTo d m (k + 1)) (k + 1) k = dnTo d m k := by
 funext p
 unfold swp dnTo
 by_cases h1 : p = k + 1
 ·subst h1
  rw [if_pos rfl, if_neg (by omega), if_neg (by omega), if_pos (by omega)]
  congr 1
 ·rw [if_neg h1]
  by_cases h2 : p = k
  ·subst h2
   rw [if_pos rfl, if_neg (by omega), if_pos rfl, if_neg (by omega), if_pos rfl]
  ·rw [if_neg h2]
   by_cases h3 : k + 1 < p ∧ p ≤ m
   ·rw [if_pos h3, if_pos (by omega)]
   ·rw [if_neg h3, if_neg h1, if_neg (by omega), if_neg h2]
theorem dnTo_sub (d : Nat → α) {m k lo : Nat} (h : k ≤ m) (hk : lo ≤ k) : Sub d (dnTo d m k) lo (m + 1) := by
 refine ⟨⟨fun p => if k < p ∧ p ≤ m then p - 1 else if p = k then m else p, fun p => if k ≤ p ∧ p < m then p + 1 else if p = m then k else p, fun p => ?_, fun p => ?_, fun p hp => ?_, fun p => ?_⟩⟩
 ·dsimp only
  by_cases e1 : k ≤ p ∧ p < m
  ·rw [if_pos e1, if_pos (by omega)]; omega
  ·rw [if_neg e1]
   by_cases e2 : p = m
   ·rw [if_pos e2, if_neg (by omega), if_pos rfl, e2]
   ·rw [if_neg e2, if_neg (by omega), if_neg (by omega)]
 ·dsimp only
  by_cases e1 : k < p ∧ p ≤ m
  ·rw [if_pos e1, if_pos (by omega)]; omega
  ·rw [if_neg e1]
   by_cases e2 : p = k
   ·rw [if_pos e2, if_neg (by omega), if_pos rfl, e2]
   ·rw [if_neg e2, if_neg (by omega), if_neg (by omega)]
 ·dsimp only
  rw [if_neg (by omega), if_neg (by omega)]
 ·unfold dnTo
  dsimp only
  split
  ·rfl
  ·split <;> rfl
theorem dnTo_srt {le : α → α → Prop} {d : Nat → α} {a i m : Nat} (h : Srt le d a m) (h1 : a ≤ i) (h2 : i ≤ m) (h3 : ∀ q, a ≤ q → q < i → le (d q) (d m)) (h4 : ∀ q, i ≤ q → q < m → le (d m) (d q)) : Srt le (dnTo d m i) a (m + 1) := fun p q p1 p2 p3 => by
 unfold dnTo
 by_cases e1 : i < q ∧ q ≤ m
 ·rw [if_pos e1]
  by_cases e2 : i < p ∧ p ≤ m
  ·rw [if_pos e2]; exact h _ _ (by omega) (by omega) (by omega)
  ·rw [if_neg e2]
   by_cases e3 : p = i
   ·rw [if_pos e3]; exact h4 _ (by omega) (by omega)
   ·rw [if_neg e3]; exact h _ _ (by omega) (by omega) (by omega)
 ·rw [if_neg e1, if_neg (show ¬ (i < p ∧ p ≤ m) by omega), if_neg (show ¬ p = i by omega)]
  by_cases e3 : q = i
  ·rw [if_pos e3]; exact h3 _ (by omega) (by omega)
  ·rw [if_neg e3]; exact h _ _ (by omega) (by omega) (by omega)
/-! ### The symmetric merge -/
structure Cut (le : α → α → Prop) (d : Nat → α) (a m b mid s : Nat) : Prop where
 lo : a ≤ s
 hi : s ≤ m
 lo' : m ≤ mid + m - s
 hi' : mid + m - s ≤ b
 smid : s ≤ mid
 left : a < s → mid + m - s < b → le (d (s - 1)) (d (mid + m - s))
 right : s < m → m < mid + m - s → le (d (mid + m - s - 1)) (d s)
variable {le : α → α → Prop} {d : Nat → α} {a m b mid s : Nat}
theorem Cut.parts (O : Ordr le) (h : Cut le d a m b mid s) (h1 : Srt le d a m) (h2 : Srt le d m b) (hab : a ≤ mid ∧ mid ≤ b) : ∀ i j, a ≤ i → i < mid → mid ≤ j → j < b → le (rot d s m (mid + m - s) i) (rot d s m (mid + m - s) j) := fun i j i1 i2 j1 j2 => by
 obtain ⟨c1, c2, c3, c4, c5, c6, c7⟩ := h
 unfold rot
 by_cases e1 : s ≤ i ∧ i < s + (mid + m - s - m)
 ·rw [if_pos e1]
  rw [if_neg (show ¬ (s ≤ j ∧ j < s + (mid + m - s - m)) by omega)]
  by_cases e2 : s + (mid + m - s - m) ≤ j ∧ j < mid + m - s
  ·rw [if_pos e2]
   have x1 := h2.le O (i := i + (m - s)) (j := mid + m - s - 1) (by omega) (by omega) (by omega)
   have x2 := h1.le O (i := s) (j := j - (mid + m - s - m)) (by omega) (by omega) (by omega)
   exact O.trans _ _ _ x1 (O.trans _ _ _ (c7 (by omega) (by omega)) x2)
  ·rw [if_neg e2]
   exact h2.le O (by omega) (by omega) (by omega)
 ·rw [if_neg e1, if_neg (show ¬ (s + (mid + m - s - m) ≤ i ∧ i < mid + m - s) by omega), if_neg (show ¬ (s ≤ j ∧ j < s + (mid + m - s - m)) by omega)]
  by_cases e2 : s + (mid + m - s - m) ≤ j ∧ j < mid + m - s
  ·rw [if_pos e2]
   exact h1.le O (by omega) (by omega) (by omega)
  ·rw [if_neg e2]
   have x1 := h1.le O (i := i) (j := s - 1) (by omega) (by omega) (by omega)
   have x2 := h2.le O (i := mid + m - s) (j := j) (by omega) (by omega) (by omega)
   exact O.trans _ _ _ x1 (O.trans _ _ _ (c6 (by omega) (by omega)) x2)
theorem Cut.srts (h : Cut le d a m b mid s) (h1 : Srt le d a m) (h2 : Srt le d m b) : Srt le (rot d s m (mid + m - s)) a s ∧ Srt le (rot d s m (mid + m - s)) s mid ∧ Srt le (rot d s m (mid + m - s)) mid (mid + m - s) ∧ Srt le (rot d s m (mid + m - s)) (mid + m - s) b := by
 obtain ⟨c1, c2, c3, c4, c5, c6, c7⟩ := h
 refine ⟨fun i j x y z => ?_, fun i j x y z => ?_, fun i j x y z => ?_, fun i j x y z => ?_⟩
 ·unfold rot
  rw [if_neg (by omega), if_neg (by omega), if_neg (by omega), if_neg (by omega)]
  exact h1 _ _ (by omega) (by omega) (by omega)
 ·unfold rot
  rw [if_pos (by omega), if_pos (by omega)]
  exact h2 _ _ (by omega) (by omega) (by omega)
 ·unfold rot
  rw [if_neg (by omega), if_pos (by omega), if_neg (by omega), if_pos (by omega)]
  exact h1 _ _ (by omega) (by omega) (by omega)
 ·unfold rot
  rw [if_neg (by omega), if_neg (by omega), if_neg (by omega), if_neg (by omega)]
  exact h2 _ _ (by omega) (by omega) (by omega)
theorem Cut.ixs (h : Cut le d a m b mid s) (R : α → α → Prop) (hR : ∀ i j, a ≤ i → i < m → m ≤ j → j < b → R (d i) (d j)) : (∀ i j, a ≤ i → i < s → s ≤ j → j < mid → R (rot d s m (mid + m - s) i) (rot d s m (mid + m - s) j)) ∧ (∀ i j, mid ≤ i → i < mid + m - s → mid + m - s ≤ j → j < b → R (rot d s m (mid + m - s) i) (rot d s m (mid + m - s) j)) := by
 obtain ⟨c1, c2, c3, c4, c5, c6, c7⟩ := h
 refine ⟨fun i j x y z u => ?_, fun i j x y z u => ?_⟩
 ·unfold rot
  rw [if_neg (by omega), if_neg (by omega), if_pos (by omega)]
  exact hR _ _ (by omega) (by omega) (by omega) (by omega)
 ·unfold rot
  rw [if_neg (by omega), if_pos (by omega), if_neg (by omega), if_neg (by omega)]
  exact hR _ _ (by omega) (by omega) (by omega) (by omega)
theorem Cut.sub (h : Cut le d a m b mid s) : Sub d (rot d s m (mid + m - s)) a b := (rot_sub d h.hi h.lo').wide h.lo h.hi'
structure Srch (le : α → α → Prop) (d : Nat → α) (a m b mid s0 r0 s r : Nat) : Prop where
 lo : s0 ≤ s
 mi : s ≤ r
 hi : r ≤ r0
 left : s0 < s → le (d (s - 1)) (d (mid + m - s))
 right : r < r0 → ¬ le (d r) (d (mid + m - 1 - r))
theorem Srch.start (le : α → α → Prop) (d : Nat → α) (a m b mid : Nat) {s0 r0 : Nat} (h : s0 ≤ r0) : Srch le d a m b mid s0 r0 s0 r0 := ⟨Nat.le_refl _, h, Nat.le_refl _, fun h => by omega, fun h => by omega⟩
theorem Srch.up {s0 r0 r c : Nat} (h : Srch le d a m b mid s0 r0 s r) (h1 : s ≤ c) (h2 : c < r) (h3 : le (d c) (d (mid + m - 1 - c))) : Srch le d a m b mid s0 r0 (c + 1) r :=
 ⟨by have := h.lo; omega, by omega, h.hi, fun _ => by rw [show c + 1 - 1 = c from by omega, show mid + m - (c + 1) = mid + m - 1 - c from by omega]; exact h3, h.right⟩
theorem Srch.down {s0 r0 r c : Nat} (h : Srch le d a m b mid s0 r0 s r) (h1 : s ≤ c) (h2 : c < r) (h3 : ¬ le (d c) (d (mid + m - 1 - c))) : Srch le d a m b mid s0 r0 s c :=
 ⟨h.lo, h1, by have := h.hi; omega, h.left, fun _ => h3⟩
theorem Srch.cut (O : Ordr le) {s0 r0 : Nat} (h : Srch le d a m b mid s0 r0 s s) (h1 : a ≤ mid) (h2 : mid ≤ b) (ha : a ≤ m) (hb : m ≤ b) (h3 : (mid < m ∧ s0 = mid + m - b ∧ r0 = mid ∧ b ≤ mid + m ∧ a ≤ mid + m - b) ∨ (m ≤ mid ∧ s0 = a ∧ r0 = m ∧ mid + m - a ≤ b)) : Cut le d a m b mid s := by
 have hlo := h.lo
 have hhi := h.hi
 refine ⟨by omega, by omega, by omega, by omega, by omega, fun x y => h.left (by omega), fun x y => ?_⟩
 have hn := h.right (by omega)
 rw [show mid + m - 1 - s = mid + m - s - 1 from by omega] at hn
 exact (O.total _ _).resolve_left hn
theorem rot_id (d : Nat → α) {a m b : Nat} (h : m ≤ a ∨ b ≤ m) (h1 : a ≤ m) (h2 : m ≤ b) : rot d a m b = d := by
 funext p
 unfold rot
 by_cases e1 : a ≤ p ∧ p < a + (b - m)
 ·rw [if_pos e1]; congr 1; omega
 ·rw [if_neg e1]
  by_cases e2 : a + (b - m) ≤ p ∧ p < b
  ·rw [if_pos e2]; congr 1; omega
  ·rw [if_neg e2]
theorem Cut.fin (O : Ordr le) (h : Cut le d a m b mid s) (h1 : Srt le d a m) (h2 : Srt le d m b) (hab : a ≤ mid ∧ mid ≤ b) {d6 d7 : Nat → α} (s1 : Sub (rot d s m (mid + m - s)) d6 a mid) (o1 : Srt le d6 a mid) (s2 : Sub d6 d7 mid b) (o2 : Srt le d7 mid b) : Sub d d7 a b ∧ Srt le d7 a b := by
 refine ⟨(h.sub.trans (s1.wide (Nat.le_refl _) hab.2)).trans (s2.wide hab.1 (Nat.le_refl _)), Srt.join (mid := mid) (o1.of_eq fun i _ hi => s2.out i (.inl hi)) o2 fun i j i1 i2 j1 j2 => ?_⟩
 rw [s2.out i (.inl i2)]
 obtain ⟨i', x1, x2, x3⟩ := s1.in_ i i1 i2
 obtain ⟨j', y1, y2, y3⟩ := s2.in_ j j1 j2
 rw [x3, y3, s1.out j' (.inr y1)]
 exact h.parts O h1 h2 hab i' j' x1 x2 y1 y2
structure Plc (le : α → α → Prop) (d : Nat → α) (x : α) (lo hi i j : Nat) : Prop where
 l1 : lo ≤ i
 l2 : i ≤ j
 l3 : j ≤ hi
 up : ∀ q, lo ≤ q → q < i → ¬ le x (d q)
 dn : ∀ q, j ≤ q → q < hi → le x (d q)
theorem Plc.start (le : α → α → Prop) (d : Nat → α) (x : α) {lo hi : Nat} (h : lo ≤ hi) : Plc le d x lo hi lo hi := ⟨Nat.le_refl _, h, Nat.le_refl _, fun q h1 h2 => by omega, fun q h1 h2 => by omega⟩
theorem Plc.right (O : Ordr le) {x : α} {lo hi i j c : Nat} (h : Plc le d x lo hi i j) (hs : Srt le d lo hi) (h1 : i ≤ c) (h2 : c < j) (hc : ¬ le x (d c)) : Plc le d x lo hi (c + 1) j :=
 ⟨by have := h.l1; omega, by omega, h.l3, fun q q1 q2 hq => hc (O.trans _ _ _ hq (hs.le O q1 (by omega) (by have := h.l3; omega))), h.dn⟩
theorem Plc.left (O : Ordr le) {x : α} {lo hi i j c : Nat} (h : Plc le d x lo hi i j) (hs : Srt le d lo hi) (h1 : i ≤ c) (h2 : c < j) (hc : le x (d c)) : Plc le d x lo hi i c :=
 ⟨h.l1, h1, by have := h.l3; omega, h.up, fun q q1 q2 => O.trans _ _ _ hc (hs.le O (by have := h.l1; omega) q1 q2)⟩
structure Plb (le : α → α → Prop) (d : Nat → α) (x : α) (lo hi i j : Nat) : Prop where
 l1 : lo ≤ i
 l2 : i ≤ j
 l3 : j ≤ hi
 up : ∀ q, lo ≤ q → q < i → le (d q) x
 dn : ∀ q, j ≤ q → q < hi → ¬ le (d q) x
theorem Plb.start (le : α → α → Prop) (d : Nat → α) (x : α) {lo hi : Nat} (h : lo ≤ hi) : Plb le d x lo hi lo hi := ⟨Nat.le_refl _, h, Nat.le_refl _, fun q h1 h2 => by omega, fun q h1 h2 => by omega⟩
theorem Plb.right (O : Ordr le) {x : α} {lo hi i j c : Nat} (h : Plb le d x lo hi i j) (hs : Srt le d lo hi) (h1 : i ≤ c) (h2 : c < j) (hc : le (d c) x) : Plb le d x lo hi (c + 1) j :=
 ⟨by have := h.l1; omega, by omega, h.l3, fun q q1 q2 => O.trans _ _ _ (hs.le O q1 (by omega) (by have := h.l3; omega)) hc, h.dn⟩
theorem Plb.left (O : Ordr le) {x : α} {lo hi i j c : Nat} (h : Plb le d x lo hi i j) (hs : Srt le d lo hi) (h1 : i ≤ c) (h2 : c < j) (hc : ¬ le (d c) x) : Plb le d x lo hi i c :=
 ⟨h.l1, h1, by have := h.l3; omega, h.up, fun q q1 q2 hq => hc (O.trans _ _ _ (hs.le O (by have := h.l1; omega) q1 q2) hq)⟩
theorem Plc.fin (O : Ordr le) {i : Nat} (h : Plc le d (d a) (a + 1) b i i) (hs : Srt le d (a + 1) b) : Sub d (upTo d a (i - 1)) a b ∧ Srt le (upTo d a (i - 1)) a b := by
 have h1 := h.l1
 have h3 := h.l3
 refine ⟨upTo_sub d (by omega) (by omega), upTo_srt hs h1 h3 (fun q q1 q2 => (O.total _ _).resolve_right (h.up q q1 q2)) h.dn⟩
theorem Plb.fin (O : Ordr le) {i : Nat} (h : Plb le d (d m) a m i i) (hs : Srt le d a m) : Sub d (dnTo d m i) a (m + 1) ∧ Srt le (dnTo d m i) a (m + 1) := by
 have h1 := h.l1
 have h3 := h.l3
 exact ⟨dnTo_sub d h3 h1, dnTo_srt hs h1 h3 h.up fun q q1 q2 => (O.total _ _).resolve_left (h.dn q q1 q2)⟩
end Sq
end Go.Proofs.YtcadjekcdokkjaaGreat
namespace Go.Proofs.YtcadjekcdokkjaaGreat
set_option linter.unusedVariables false
set_option linter.unusedSimpArgs false
namespace Sq
variable {α β : Type}
structure Ordb (le : α → α → Bool) : Prop where
 trans : ∀ x y z, le x y = true → le y z = true → le x z = true
 total : ∀ x y, le x y = true ∨ le y x = true
theorem Ordb.refl {le : α → α → Bool} (O : Ordb le) (x : α) : le x x = true := (O.total x x).elim id id
def eqv (le : α → α → Bool) (v x : α) : Bool := le v x && le x v
theorem eqv_iff {le : α → α → Bool} {v x : α} : eqv le v x = true ↔ le v x = true ∧ le x v = true := by unfold eqv; rw [Bool.and_eq_true]
def Up (le : α → α → Bool) (l : List α) : Prop := l.Pairwise fun x y => le x y = true
def ins (le : α → α → Bool) (x : α) : List α → List α
 | [] => [x]
 | y :: l => if le y x = true then y :: ins le x l else x :: y :: l
def sortM (le : α → α → Bool) (l : List α) : List α := l.foldl (fun out x => ins le x out) []
theorem ins_mem {le : α → α → Bool} {x : α} : ∀ {l : List α} {z : α}, z ∈ ins le x l ↔ z = x ∨ z ∈ l
 | [], z => by simp [ins]
 | y :: l, z => by
  unfold ins
  split
  ·rw [List.mem_cons, ins_mem, List.mem_cons]
   constructor
   ·rintro (h | h | h)
    ·exact .inr (.inl h)
    ·exact .inl h
    ·exact .inr (.inr h)
   ·rintro (h | h | h)
    ·exact .inr (.inl h)
    ·exact .inl h
    ·exact .inr (.inr h)
  ·rw [List.mem_cons]
theorem ins_up {le : α → α → Bool} (O : Ordb le) {x : α} : ∀ {l : List α}, Up le l → Up le (ins le x l)
 | [], _ => List.pairwise_singleton _ _
 | y :: l, h => by
  have h' := List.pairwise_cons.1 h
  unfold ins
  split
  ·rename_i hy
   refine List.pairwise_cons.2 ⟨fun z hz => ?_, ins_up O h'.2⟩
   rcases ins_mem.1 hz with rfl | hz
   ·exact hy
   ·exact h'.1 z hz
  ·rename_i hy
   have hxy : le x y = true := (O.total x y).resolve_right hy
   refine List.pairwise_cons.2 ⟨fun z hz => ?_, h⟩
   rcases List.mem_cons.1 hz with rfl | hz
   ·exact hxy
   ·exact O.trans _ _ _ hxy (h'.1 z hz)
theorem ins_filter {le : α → α → Bool} (O : Ordb le) {x v : α} : ∀ {l : List α}, Up le l → (ins le x l).filter (eqv le v) = l.filter (eqv le v) ++ [x].filter (eqv le v)
 | [], _ => by simp [ins]
 | y :: l, h => by
  have h' := List.pairwise_cons.1 h
  unfold ins
  split
  ·rw [List.filter_cons, List.filter_cons (x := y), ins_filter O h'.2]
   split
   ·rfl
   ·rfl
  ·rename_i hy
   rw [List.filter_cons (x := x)]
   split
   ·rename_i hv
    have hv' := eqv_iff.1 hv
    have hnil : (y :: l).filter (eqv le v) = [] := by
     rw [List.filter_eq_nil_iff]
     intro z hz hc
     have hc' := eqv_iff.1 hc
     refine hy ?_
     rcases List.mem_cons.1 hz with rfl | hz
     ·exact O.trans _ _ _ hc'.2 hv'.1
     ·exact O.trans _ _ _ (h'.1 z hz) (O.trans _ _ _ hc'.2 hv'.1)
    rw [hnil, List.filter_cons, if_pos hv]
    rfl
   ·rename_i hv
    rw [List.filter_cons (x := x), if_neg hv, List.filter_nil, List.append_nil]
theorem sort_aux {le : α → α → Bool} (O : Ordb le) : ∀ (l out : List α), Up le out → Up le (l.foldl (fun out x => ins le x out) out) ∧ ∀ v, (l.foldl (fun out x => ins le x out) out).filter (eqv le v) = out.filter (eqv le v) ++ l.filter (eqv le v)
 | [], out, h => ⟨h, fun v => by simp⟩
 | x :: l, out, h => by
  have ih := sort_aux O l (ins le x out) (ins_up O h)
  refine ⟨ih.1, fun v => ?_⟩
  rw [List.foldl_cons, ih.2 v, ins_filter O h, List.append_assoc, ← List.filter_append]
  rfl
theorem sort_up {le : α → α → Bool} (O : Ordb le) (l : List α) : Up le (sortM le l) := (sort_aux O l [] List.Pairwise.nil).1
theorem sort_filter {le : α → α → Bool} (O : Ordb le) (l : List α) (v : α) : (sortM le l).filter (eqv le v) = l.filter (eqv le v) := (sort_aux O l [] List.Pairwise.nil).2 v
theorem uniq {le : α → α → Bool} (O : Ordb le) : ∀ {a b : List α}, Up le a → Up le b → (∀ v, a.filter (eqv le v) = b.filter (eqv le v)) → a = b
 | [], [], _, _, _ => rfl
 | [], y :: b, _, _, h => by
  have := h y
  rw [List.filter_nil, List.filter_cons, if_pos (eqv_iff.2 ⟨O.refl y, O.refl y⟩)] at this
  cases this
 | x :: a, [], _, _, h => by
  have := h x
  rw [List.filter_nil, List.filter_cons, if_pos (eqv_iff.2 ⟨O.refl x, O.refl x⟩)] at this
  cases this
 | x :: a, y :: b, ha, hb, h => by
  have ha' := List.pairwise_cons.1 ha
  have hb' := List.pairwise_cons.1 hb
  have hx := h x
  have hy := h y
  have hxx : eqv le x x = true := eqv_iff.2 ⟨O.refl x, O.refl x⟩
  have hyy : eqv le y y = true := eqv_iff.2 ⟨O.refl y, O.refl y⟩
  have hyx : le y x = true := by
   have hm : x ∈ (y :: b).filter (eqv le x) := by rw [← hx]; exact List.mem_filter.2 ⟨List.mem_cons_self, hxx⟩
   rcases List.mem_cons.1 (List.mem_filter.1 hm).1 with rfl | hm
   ·exact O.refl x
   ·exact hb'.1 x hm
  have hxy : le x y = true := by
   have hm : y ∈ (x :: a).filter (eqv le y) := by rw [hy]; exact List.mem_filter.2 ⟨List.mem_cons_self, hyy⟩
   rcases List.mem_cons.1 (List.mem_filter.1 hm).1 with rfl | hm
   ·exact O.refl y
   ·exact ha'.1 y hm
  rw [List.filter_cons, if_pos hxx, List.filter_cons, if_pos (eqv_iff.2 ⟨hxy, hyx⟩)] at hx
  injection hx with e _
  subst e
  refine congrArg (x :: ·) (uniq O ha'.2 hb'.2 fun v => ?_)
  have hv := h v
  rw [List.filter_cons, List.filter_cons] at hv
  split at hv
  ·injection hv
  ·exact hv
theorem sort_uniq {le : α → α → Bool} (O : Ordb le) {a l : List α} (ha : Up le a) (h : ∀ v, a.filter (eqv le v) = l.filter (eqv le v)) : a = sortM le l :=
 uniq O ha (sort_up O l) fun v => by rw [h v, sort_filter O]
theorem sort_snoc (le : α → α → Bool) (l : List α) (x : α) : sortM le (l ++ [x]) = ins le x (sortM le l) := by
 unfold sortM
 rw [List.foldl_append]
 rfl
theorem ins_at {le : α → α → Bool} (O : Ordb le) {x : α} : ∀ {l : List α}, Up le l → ∀ (k : Nat), k ≤ l.length → (∀ (h : k < l.length), le l[k] x = false) → (∀ (h : 0 < k) (h2 : k - 1 < l.length), le l[k - 1] x = true) → ins le x l = l.take k ++ x :: l.drop k
 | [], _, k, hk, _, _ => by
  obtain rfl : k = 0 := by simpa using hk
  rfl
 | y :: l, hu, 0, _, h1, _ => by
  have := h1 (by simp)
  unfold ins
  rw [if_neg (by simpa using this)]
  rfl
 | y :: l, hu, k + 1, hk, h1, h2 => by
  have h' := List.pairwise_cons.1 hu
  have hk' : k < (y :: l).length := by omega
  have hyx : le y x = true := by
   have h3 := h2 (by omega) (by simpa using hk')
   simp only [Nat.add_sub_cancel] at h3
   cases k with
   | zero => exact h3
   | succ k =>
    rw [List.getElem_cons_succ] at h3
    exact O.trans _ _ _ (h'.1 _ (List.getElem_mem _)) h3
  unfold ins
  rw [if_pos hyx, ins_at O h'.2 k (by simpa using hk) (fun h => by
   have h3 := h1 (by simpa using h)
   rwa [List.getElem_cons_succ] at h3) (fun h0 h => by
   have h3 := h2 (by omega) (by simpa using hk')
   obtain ⟨j, rfl⟩ : ∃ j, k = j + 1 := ⟨k - 1, by omega⟩
   simpa using h3)]
  rfl
theorem ins_map {le : α → α → Bool} {le' : β → β → Bool} {f : α → β} (hf : ∀ x y, le x y = le' (f x) (f y)) (x : α) : ∀ l : List α, (ins le x l).map f = ins le' (f x) (l.map f)
 | [] => rfl
 | y :: l => by
  rw [List.map_cons]
  unfold ins
  rw [hf y x]
  split
  ·rw [List.map_cons, ins_map hf x l]
  ·rw [List.map_cons, List.map_cons]
theorem sort_map {le : α → α → Bool} {le' : β → β → Bool} {f : α → β} (hf : ∀ x y, le x y = le' (f x) (f y)) (l : List α) : (sortM le l).map f = sortM le' (l.map f) := by
 have h : ∀ (l out : List α), (l.foldl (fun out x => ins le x out) out).map f = (l.map f).foldl (fun out x => ins le' x out) (out.map f) := fun l => by
  induction l with
  | nil => intro out; rfl
  | cons x l ih => intro out; rw [List.foldl_cons, ih, ins_map hf, List.map_cons, List.foldl_cons]
 exact h l []
def leX (le : α → α → Bool) (ix : α → Nat) (x y : α) : Prop := le x y = true ∧ (le y x = true → ix x ≤ ix y)
theorem leX_ordr {le : α → α → Bool} (O : Ordb le) (ix : α → Nat) : Ordr (leX le ix) := by
 refine ⟨fun x y z h1 h2 => ⟨O.trans _ _ _ h1.1 h2.1, fun h => ?_⟩, fun x y => ?_⟩
 ·exact Nat.le_trans (h1.2 (O.trans _ _ _ h2.1 h)) (h2.2 (O.trans _ _ _ h h1.1))
 ·unfold leX
  rcases O.total x y with h | h
  ·by_cases h2 : le y x = true
   ·by_cases h3 : ix x ≤ ix y
    ·exact .inl ⟨h, fun _ => h3⟩
    ·exact .inr ⟨h2, fun _ => by omega⟩
   ·exact .inl ⟨h, fun h3 => absurd h3 h2⟩
  ·by_cases h2 : le x y = true
   ·by_cases h3 : ix x ≤ ix y
    ·exact .inl ⟨h2, fun _ => h3⟩
    ·exact .inr ⟨h, fun _ => by omega⟩
   ·exact .inr ⟨h, fun h3 => absurd h3 h2⟩
theorem leX_iff {le : α → α → Bool} {ix : α → Nat} {x y : α} (h : ix x < ix y) : ¬ leX le ix x y ↔ le x y = false := by
 unfold leX
 constructor
 ·intro h2
  by_cases h3 : le x y = true
  ·exact absurd ⟨h3, fun _ => by omega⟩ h2
  ·simpa using h3
 ·intro h2 h3
  rw [h2] at h3
  cases h3.1
theorem perm_of {d d' : Nat → α} {n : Nat} (h : Sub d d' 0 n) : ((List.range n).map d').Perm ((List.range n).map d) := by
 obtain ⟨p, q, h1, h2, h3, h4⟩ := h.way
 have e : (List.range n).map d' = ((List.range n).map p).map d := by
  rw [List.map_map]
  exact List.map_congr_left fun i _ => h4 i
 rw [e]
 refine List.Perm.map d ?_
 have hin : ∀ i, i < n → p i < n := fun i hi => by
  by_cases hc : p i < n
  ·exact hc
  ·have h5 := h3 (p i) (.inr (by omega))
   have := congrArg q h5
   rw [h2, h2] at this
   omega
 have hin' : ∀ i, i < n → q i < n := fun i hi => by
  by_cases hc : q i < n
  ·exact hc
  ·have h5 := h3 (q i) (.inr (by omega))
   rw [h1] at h5
   omega
 rw [List.perm_ext_iff_of_nodup]
 ·intro a
  rw [List.mem_map, List.mem_range]
  constructor
  ·rintro ⟨i, hi, rfl⟩
   exact hin i (List.mem_range.1 hi)
  ·intro ha
   exact ⟨q a, List.mem_range.2 (hin' a ha), h1 a⟩
 ·refine List.Pairwise.map p (S := fun a b => a ≠ b) (R := fun a b => a ≠ b) (fun a b hab he => hab ?_) List.nodup_range
  have := congrArg q he
  rwa [h2, h2] at this
 ·exact List.nodup_range
theorem place_sort {le : α → α → Bool} (O : Ordb le) (ix : α → Nat) {d d' : Nat → α} {n : Nat} (hs : Sub d d' 0 n) (ho : Srt (leX le ix) d' 0 n) (hi : ∀ i j, i < j → j < n → ix (d i) < ix (d j)) : (List.range n).map d' = sortM le ((List.range n).map d) := by
 have hpw : ((List.range n).map d').Pairwise (leX le ix) := by
  rw [List.pairwise_iff_getElem]
  intro i j h1 h2 hij
  rw [List.length_map, List.length_range] at h1 h2
  rw [List.getElem_map, List.getElem_map, List.getElem_range, List.getElem_range]
  exact ho i j (Nat.zero_le _) hij h2
 have hpi : ((List.range n).map d).Pairwise fun x y => ix x < ix y := by
  rw [List.pairwise_iff_getElem]
  intro i j h1 h2 hij
  rw [List.length_map, List.length_range] at h1 h2
  rw [List.getElem_map, List.getElem_map, List.getElem_range, List.getElem_range]
  exact hi i j hij h2
 have hpm := perm_of hs
 refine sort_uniq O (hpw.imp fun h => h.1) fun v => ?_
 refine List.Perm.eq_of_pairwise (le := fun a b => ix a ≤ ix b) (fun a b ha hb h1 h2 => ?_) ?_ ((hpi.filter _).imp fun h => Nat.le_of_lt h) (hpm.filter _)
 ·have ha' := (hpm.mem_iff).1 (List.mem_filter.1 ha).1
  have hb' := (List.mem_filter.1 hb).1
  obtain ⟨i, hi1, rfl⟩ := List.mem_map.1 ha'
  obtain ⟨j, hj1, rfl⟩ := List.mem_map.1 hb'
  rw [List.mem_range] at hi1 hj1
  rcases Nat.lt_trichotomy i j with h | h | h
  ·have := hi i j h hj1; omega
  ·rw [h]
  ·have := hi j i h hi1; omega
 ·refine (hpw.filter _).imp_of_mem fun {a b} ha hb h => h.2 ?_
  have ha' := eqv_iff.1 (List.mem_filter.1 ha).2
  have hb' := eqv_iff.1 (List.mem_filter.1 hb).2
  exact O.trans _ _ _ hb'.2 ha'.1
/-! ### Lists in order, as one -/
structure Mg (le : α → α → Bool) (C out : List α) (Ls : List (List α)) : Prop where
 up : Up le out
 ups : ∀ l ∈ Ls, Up le l
 far : ∀ o ∈ out, ∀ l ∈ Ls, ∀ z ∈ l, le o z = true
 same : ∀ v, out.filter (eqv le v) ++ Ls.flatten.filter (eqv le v) = C.filter (eqv le v)
structure Pick (le : α → α → Bool) (Ls : List (List α)) (i : Nat) (x : α) (t : List α) : Prop where
 at_ : Ls[i]? = some (x :: t)
 ahead : ∀ j y u, j < i → Ls[j]? = some (y :: u) → le y x = false
 behind : ∀ j y u, i < j → Ls[j]? = some (y :: u) → le x y = true
theorem Mg.start {le : α → α → Bool} {C : List α} {Ls : List (List α)} (h : ∀ l ∈ Ls, Up le l) (hs : ∀ v, Ls.flatten.filter (eqv le v) = C.filter (eqv le v)) : Mg le C [] Ls :=
 ⟨List.Pairwise.nil, h, fun o ho => (by cases ho), fun v => by rw [List.filter_nil, List.nil_append]; exact hs v⟩
theorem Mg.end_ {le : α → α → Bool} (O : Ordb le) {C out : List α} {Ls : List (List α)} (h : Mg le C out Ls) (he : ∀ l ∈ Ls, l = []) : out = sortM le C := by
 refine sort_uniq O h.up fun v => ?_
 have := h.same v
 rw [List.flatten_eq_nil_iff.2 he, List.filter_nil, List.append_nil] at this
 exact this
theorem set_split {γ : Type} : ∀ {l : List γ} {i : Nat} {x : γ}, l[i]? = some x → ∀ y : γ, l = l.take i ++ x :: l.drop (i + 1) ∧ l.set i y = l.take i ++ y :: l.drop (i + 1)
 | [], _, _, h, _ => by cases h
 | z :: l, 0, x, h, y => by
  obtain rfl : z = x := by simpa using h
  exact ⟨rfl, rfl⟩
 | z :: l, i + 1, x, h, y => by
  have := set_split (l := l) (i := i) (x := x) (by simpa using h) y
  constructor
  ·exact congrArg (z :: ·) this.1
  ·exact congrArg (z :: ·) this.2
theorem Mg.step {le : α → α → Bool} (O : Ordb le) {C out : List α} {Ls : List (List α)} {i : Nat} {x : α} {t : List α} (h : Mg le C out Ls) (hp : Pick le Ls i x t) : Mg le C (out ++ [x]) (Ls.set i t) := by
 obtain ⟨e1, e2⟩ := set_split hp.at_ t
 have hxt : (x :: t) ∈ Ls := List.mem_of_getElem? hp.at_
 have hup := List.pairwise_cons.1 (h.ups _ hxt)
 have hmem : ∀ l ∈ Ls.set i t, l = t ∨ l ∈ Ls := fun l hl => by
  rcases List.mem_or_eq_of_mem_set hl with h1 | h1
  ·exact .inr h1
  ·exact .inl h1
 have hleast : ∀ l ∈ Ls, ∀ z ∈ l, le x z = true := fun l hl z hz => by
  obtain ⟨j, hj, rfl⟩ := List.getElem_of_mem hl
  cases hlj : Ls[j] with
  | nil => rw [hlj] at hz; cases hz
  | cons y u =>
   have hju : Ls[j]? = some (y :: u) := by rw [List.getElem?_eq_getElem hj, hlj]
   have hyz : le y z = true := by
    have hu := List.pairwise_cons.1 (h.ups _ (hlj ▸ hl))
    rw [hlj] at hz
    rcases List.mem_cons.1 hz with rfl | hz
    ·exact O.refl _
    ·exact hu.1 z hz
   rcases Nat.lt_trichotomy j i with hji | hji | hji
   ·have := hp.ahead j y u hji hju
    have hxy : le x y = true := (O.total x y).resolve_right (by rw [this]; decide)
    exact O.trans _ _ _ hxy hyz
   ·subst hji
    have e := hju.symm.trans hp.at_
    injection e with e
    injection e with e _
    subst e
    exact hyz
   ·exact O.trans _ _ _ (hp.behind j y u hji hju) hyz
 refine ⟨?_, fun l hl => ?_, fun o ho l hl z hz => ?_, fun v => ?_⟩
 ·unfold Up
  rw [List.pairwise_append]
  exact ⟨h.up, List.pairwise_singleton _ _, fun a ha b hb => by
   rw [List.mem_singleton] at hb
   subst hb
   exact h.far a ha _ hxt _ List.mem_cons_self⟩
 ·rcases hmem l hl with rfl | hl
  ·exact hup.2
  ·exact h.ups l hl
 ·have hz' : ∃ l' ∈ Ls, z ∈ l' := by
   rcases hmem l hl with rfl | hl
   ·exact ⟨_, hxt, List.mem_cons_of_mem _ hz⟩
   ·exact ⟨l, hl, hz⟩
  obtain ⟨l', hl', hz'⟩ := hz'
  rcases List.mem_append.1 ho with ho | ho
  ·exact h.far o ho l' hl' z hz'
  ·rw [List.mem_singleton] at ho
   subst ho
   exact hleast l' hl' z hz'
 ·have hs := h.same v
  rw [e1] at hs
  rw [e2, List.flatten_append, List.flatten_cons, List.filter_append, List.filter_append, List.filter_append]
  rw [List.flatten_append, List.flatten_cons, List.filter_append, List.filter_append] at hs
  rw [← hs, List.filter_cons (x := x)]
  by_cases hv : eqv le v x = true
  ·have hv' := eqv_iff.1 hv
   have hnil : (Ls.take i).flatten.filter (eqv le v) = [] := by
    rw [List.filter_eq_nil_iff]
    intro z hz hc
    have hc' := eqv_iff.1 hc
    obtain ⟨l, hl, hzl⟩ := List.mem_flatten.1 hz
    obtain ⟨j, hj, rfl⟩ := List.getElem_of_mem hl
    rw [List.length_take] at hj
    rw [List.getElem_take] at hzl
    have hjl : j < Ls.length := by omega
    cases hlj : Ls[j] with
    | nil => rw [hlj] at hzl; cases hzl
    | cons y u =>
     have hju : Ls[j]? = some (y :: u) := by rw [List.getElem?_eq_getElem hjl, hlj]
     have hyz : le y z = true := by
      have hu := List.pairwise_cons.1 (h.ups _ (hlj ▸ List.getElem_mem hjl))
      rw [hlj] at hzl
      rcases List.mem_cons.1 hzl with rfl | hz
      ·exact O.refl _
      ·exact hu.1 z hz
     have hlt := hp.ahead j y u (by omega) hju
     rw [O.trans _ _ _ hyz (O.trans _ _ _ hc'.2 hv'.1)] at hlt
     cases hlt
   rw [hnil, if_pos hv, List.filter_cons, if_pos hv, List.filter_nil]
   simp
  ·rw [if_neg hv, List.filter_cons, if_neg hv, List.filter_nil]
   simp
theorem parts_same {le : α → α → Bool} (O : Ordb le) : ∀ (Cs : List (List α)) (v : α), ((Cs.map (sortM le)).flatten).filter (eqv le v) = Cs.flatten.filter (eqv le v)
 | [], _ => rfl
 | c :: Cs, v => by rw [List.map_cons, List.flatten_cons, List.filter_append, sort_filter O, parts_same O Cs v, List.flatten_cons, List.filter_append]
theorem Mg.parts {le : α → α → Bool} (O : Ordb le) (Cs : List (List α)) : Mg le Cs.flatten [] (Cs.map (sortM le)) :=
 Mg.start (fun l hl => by
  obtain ⟨c, _, rfl⟩ := List.mem_map.1 hl
  exact sort_up O c) fun v => parts_same O Cs v
end Sq
end Go.Proofs.YtcadjekcdokkjaaGreat
