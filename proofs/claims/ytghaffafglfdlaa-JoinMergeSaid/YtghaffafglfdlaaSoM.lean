/- A stable sort in place, by insertion and by symmetric merges: plain laws, with no program in sight. -/
import Derived.Test.YtghaffafglfdlaaBase
namespace Go.Proofs.Ytghaffafglfdlaa
namespace So
variable {α : Type}

/-- In order from lo up to hi. -/
def Srt (le : α → α → Prop) (d : Nat → α) (lo hi : Nat) : Prop := ∀ i j, lo ≤ i → i < j → j < hi → le (d i) (d j)
/-- What stands from lo up to hi stood there ahead; all else is as it was. -/
structure Sub (d d' : Nat → α) (lo hi : Nat) : Prop where
  in_ : ∀ i, lo ≤ i → i < hi → ∃ j, lo ≤ j ∧ j < hi ∧ d' i = d j
  out : ∀ i, (i < lo ∨ hi ≤ i) → d' i = d i
/-- An order, as far as what is asked of it. -/
structure Ordr (le : α → α → Prop) : Prop where
  trans : ∀ x y z, le x y → le y z → le x z
  total : ∀ x y, le x y ∨ le y x

theorem Sub.refl (d : Nat → α) (lo hi : Nat) : Sub d d lo hi := ⟨fun i h1 h2 => ⟨i, h1, h2, rfl⟩, fun _ _ => rfl⟩
theorem Sub.trans {d d' d'' : Nat → α} {lo hi : Nat} (h : Sub d d' lo hi) (k : Sub d' d'' lo hi) : Sub d d'' lo hi :=
  ⟨fun i h1 h2 => by
    obtain ⟨j, a, b, c⟩ := k.in_ i h1 h2
    obtain ⟨q, a', b', c'⟩ := h.in_ j a b
    exact ⟨q, a', b', c.trans c'⟩, fun i hi => (k.out i hi).trans (h.out i hi)⟩
theorem Sub.wide {d d' : Nat → α} {lo hi lo' hi' : Nat} (h : Sub d d' lo hi) (h1 : lo' ≤ lo) (h2 : hi ≤ hi') : Sub d d' lo' hi' :=
  ⟨fun i a b => by
    by_cases hc : lo ≤ i ∧ i < hi
    · obtain ⟨j, p, q, r⟩ := h.in_ i hc.1 hc.2
      exact ⟨j, by omega, by omega, r⟩
    · exact ⟨i, a, b, h.out i (by omega)⟩, fun i hi => h.out i (by omega)⟩
theorem Srt.part {le : α → α → Prop} {d : Nat → α} {lo hi lo' hi' : Nat} (h : Srt le d lo hi) (h1 : lo ≤ lo') (h2 : hi' ≤ hi) : Srt le d lo' hi' := fun i j a b c => h i j (by omega) b (by omega)
theorem Srt.of_eq {le : α → α → Prop} {d d' : Nat → α} {lo hi : Nat} (h : Srt le d lo hi) (he : ∀ i, lo ≤ i → i < hi → d' i = d i) : Srt le d' lo hi := fun i j a b c => by
  rw [he i a (by omega), he j (by omega) c]
  exact h i j a b c
theorem Srt.le {le : α → α → Prop} (O : Ordr le) {d : Nat → α} {lo hi i j : Nat} (h : Srt le d lo hi) (h1 : lo ≤ i) (h2 : i ≤ j) (h3 : j < hi) : le (d i) (d j) := by
  rcases Nat.lt_or_eq_of_le h2 with h4 | h4
  · exact h i j h1 h4 h3
  · subst h4
    exact (O.total (d i) (d i)).elim id id
/-- Two parts in order, the one not behind the other. -/
theorem Srt.join {le : α → α → Prop} {d : Nat → α} {lo mid hi : Nat} (h1 : Srt le d lo mid) (h2 : Srt le d mid hi) (h3 : ∀ i j, lo ≤ i → i < mid → mid ≤ j → j < hi → le (d i) (d j)) : Srt le d lo hi := fun i j a b c => by
  by_cases hj : j < mid
  · exact h1 i j a b hj
  · by_cases hi : mid ≤ i
    · exact h2 i j hi b c
    · exact h3 i j a (by omega) (by omega) c

/-! ### Exchanging -/

def swp (d : Nat → α) (i j : Nat) : Nat → α := fun p => if p = i then d j else if p = j then d i else d p
def swps (d : Nat → α) (a b n : Nat) : Nat → α := fun p => if a ≤ p ∧ p < a + n then d (p - a + b) else if b ≤ p ∧ p < b + n then d (p - b + a) else d p
def rot (d : Nat → α) (a m b : Nat) : Nat → α := fun p => if a ≤ p ∧ p < a + (b - m) then d (p + (m - a)) else if a + (b - m) ≤ p ∧ p < b then d (p - (b - m)) else d p
theorem swps_zero (d : Nat → α) (a b : Nat) : swps d a b 0 = d := by
  funext p
  unfold swps
  rw [if_neg (by omega), if_neg (by omega)]
theorem swps_succ (d : Nat → α) {a b n : Nat} (h : a + (n + 1) ≤ b) : swp (swps d a b n) (a + n) (b + n) = swps d a b (n + 1) := by
  funext p
  unfold swp swps
  by_cases h1 : p = a + n
  · subst h1
    rw [if_pos rfl, if_neg (by omega), if_neg (by omega), if_pos (by omega)]
    congr 1
    omega
  · rw [if_neg h1]
    by_cases h2 : p = b + n
    · subst h2
      rw [if_pos rfl, if_neg (by omega), if_neg (by omega), if_neg (by omega), if_pos (by omega)]
      congr 1
      omega
    · rw [if_neg h2]
      by_cases h3 : a ≤ p ∧ p < a + n
      · rw [if_pos h3, if_pos (by omega)]
      · rw [if_neg h3]
        by_cases h4 : b ≤ p ∧ p < b + n
        · rw [if_pos h4, if_neg (by omega), if_pos (by omega)]
        · rw [if_neg h4, if_neg (by omega), if_neg (by omega)]
theorem rot_gt (d : Nat → α) {m i j : Nat} (hi : i ≤ m) (h : j < i) : rot (swps d (m - i) m j) (m - (i - j)) m (m + j) = rot d (m - i) m (m + j) := by
  funext p
  unfold rot swps
  by_cases h1 : m - i ≤ p ∧ p < m - i + j
  · rw [if_neg (by omega), if_neg (by omega), if_pos (by omega), if_pos (by omega)]
    congr 1
    omega
  · by_cases h2 : m - (i - j) ≤ p ∧ p < m - (i - j) + (m + j - m)
    · rw [if_pos h2]
      by_cases h3 : p + (m - (m - (i - j))) < m
      · rw [if_neg (by omega), if_neg (by omega), if_neg (by omega), if_pos (by omega)]
        congr 1
        omega
      · rw [if_neg (by omega), if_pos (by omega), if_neg (by omega), if_pos (by omega)]
        congr 1
        omega
    · rw [if_neg h2]
      by_cases h3 : m - (i - j) + (m + j - m) ≤ p ∧ p < m + j
      · rw [if_pos h3, if_neg (by omega), if_neg (by omega), if_neg (by omega), if_pos (by omega)]
      · rw [if_neg h3, if_neg (by omega), if_neg (by omega), if_neg (by omega), if_neg (by omega)]
theorem rot_lt (d : Nat → α) {m i j : Nat} (hi : i ≤ m) (h : i < j) : rot (swps d (m - i) (m + j - i) i) (m - i) m (m + (j - i)) = rot d (m - i) m (m + j) := by
  funext p
  unfold rot swps
  by_cases h1 : m - i ≤ p ∧ p < m - i + (m + (j - i) - m)
  · rw [if_pos h1, if_pos (show m - i ≤ p ∧ p < m - i + (m + j - m) by omega)]
    by_cases h2 : p + (m - (m - i)) < m + j - i
    · rw [if_neg (by omega), if_neg (by omega)]
    · omega
  · rw [if_neg h1]
    by_cases h2 : m - i + (m + (j - i) - m) ≤ p ∧ p < m + (j - i)
    · rw [if_pos h2]
      rw [if_pos (show m - i ≤ p ∧ p < m - i + (m + j - m) by omega), if_pos (by omega)]
      congr 1
      omega
    · rw [if_neg h2]
      by_cases h3 : m + (j - i) ≤ p ∧ p < m + j
      · rw [if_neg (by omega), if_pos (by omega), if_neg (by omega), if_pos (by omega)]
        congr 1
        omega
      · rw [if_neg (by omega), if_neg (by omega), if_neg (by omega), if_neg (by omega)]
theorem rot_eq (d : Nat → α) {m i : Nat} (hi : i ≤ m) : swps d (m - i) m i = rot d (m - i) m (m + i) := by
  funext p
  unfold rot swps
  by_cases h1 : m - i ≤ p ∧ p < m
  · rw [if_pos (by omega), if_pos (by omega)]
    congr 1
    omega
  · by_cases h2 : m ≤ p ∧ p < m + i
    · rw [if_neg (by omega), if_pos (by omega), if_neg (by omega), if_pos (by omega)]
      congr 1
      omega
    · rw [if_neg (by omega), if_neg (by omega), if_neg (by omega), if_neg (by omega)]
theorem rot_sub (d : Nat → α) {a m b : Nat} (h1 : a ≤ m) (h2 : m ≤ b) : Sub d (rot d a m b) a b := ⟨fun p hp1 hp2 => by
  unfold rot
  by_cases h : a ≤ p ∧ p < a + (b - m)
  · rw [if_pos h]; exact ⟨_, by omega, by omega, rfl⟩
  · rw [if_neg h, if_pos (by omega)]; exact ⟨_, by omega, by omega, rfl⟩, fun p hp => by
  unfold rot
  rw [if_neg (by omega), if_neg (by omega)]⟩
theorem swp_sub (d : Nat → α) {i j lo hi : Nat} (h1 : lo ≤ i ∧ i < hi) (h2 : lo ≤ j ∧ j < hi) : Sub d (swp d i j) lo hi := ⟨fun p hp1 hp2 => by
  unfold swp
  by_cases h : p = i
  · rw [if_pos h]; exact ⟨j, h2.1, h2.2, rfl⟩
  · rw [if_neg h]
    by_cases h' : p = j
    · rw [if_pos h']; exact ⟨i, h1.1, h1.2, rfl⟩
    · rw [if_neg h']; exact ⟨p, hp1, hp2, rfl⟩, fun p hp => by
  unfold swp
  rw [if_neg (by omega), if_neg (by omega)]⟩

/-! ### Insertion -/

/-- One is on its way down: from a up to i, all but what stands at j is in order, and what stands behind j is not ahead of it. -/
structure Ins (le : α → α → Prop) (d : Nat → α) (a i j : Nat) : Prop where
  lo : a ≤ j
  hi : j ≤ i
  rest : ∀ p q, a ≤ p → p < q → q ≤ i → p ≠ j → q ≠ j → le (d p) (d q)
  up : ∀ q, j < q → q ≤ i → le (d j) (d q)
theorem Ins.start {le : α → α → Prop} {d : Nat → α} {a i : Nat} (h : Srt le d a i) (ha : a ≤ i) : Ins le d a i i := ⟨ha, Nat.le_refl _, fun p q h1 h2 h3 _ h5 => h p q h1 h2 (by omega), fun q h1 h2 => by omega⟩
theorem Ins.step {le : α → α → Prop} (O : Ordr le) {d : Nat → α} {a i j : Nat} (h : Ins le d a i (j + 1)) (ha : a ≤ j) (hlt : ¬ le (d j) (d (j + 1))) : Ins le (swp d (j + 1) j) a i j := by
  have hle : le (d (j + 1)) (d j) := (O.total _ _).resolve_left hlt
  have hhi := h.hi
  refine ⟨ha, by omega, fun p q h1 h2 h3 h4 h5 => ?_, fun q h1 h2 => ?_⟩
  · unfold swp
    by_cases e1 : p = j + 1
    · subst e1
      rw [if_pos rfl, if_neg (by omega), if_neg h5]
      exact h.rest j q ha (by omega) h3 (by omega) (by omega)
    · rw [if_neg e1, if_neg h4]
      by_cases e2 : q = j + 1
      · rw [if_pos e2]
        exact h.rest p j h1 (by omega) (by omega) e1 (by omega)
      · rw [if_neg e2, if_neg h5]
        exact h.rest p q h1 h2 h3 e1 e2
  · unfold swp
    rw [if_neg (show j ≠ j + 1 by omega), if_pos rfl]
    by_cases e2 : q = j + 1
    · rw [if_pos e2]; exact hle
    · rw [if_neg e2, if_neg (by omega)]
      exact h.up q (by omega) h2
theorem Ins.done {le : α → α → Prop} (O : Ordr le) {d : Nat → α} {a i j : Nat} (h : Ins le d a i j) (hs : j = a ∨ (0 < j ∧ le (d (j - 1)) (d j))) : Srt le d a (i + 1) := fun p q h1 h2 h3 => by
  by_cases e1 : p = j
  · rw [e1]; exact h.up q (by omega) (by omega)
  · by_cases e2 : q = j
    · rcases hs with hs | ⟨h0, hs⟩
      · omega
      · rw [e2]
        by_cases e3 : p = j - 1
        · rw [e3]; exact hs
        · exact O.trans _ _ _ (h.rest p (j - 1) h1 (by omega) (by have := h.hi; omega) e1 (by omega)) hs
    · exact h.rest p q h1 h2 (by omega) e1 e2

/-! ### One put among others -/

/-- The first moves up to k. -/
def upTo (d : Nat → α) (a k : Nat) : Nat → α := fun p => if a ≤ p ∧ p < k then d (p + 1) else if p = k then d a else d p
theorem upTo_zero (d : Nat → α) (a : Nat) : upTo d a a = d := by
  funext p
  unfold upTo
  rw [if_neg (by omega)]
  split
  · rename_i h; rw [h]
  · rfl
theorem upTo_succ (d : Nat → α) {a k : Nat} (h : a ≤ k) : swp (upTo d a k) k (k + 1) = upTo d a (k + 1) := by
  funext p
  unfold swp upTo
  by_cases h1 : p = k
  · subst h1
    rw [if_pos rfl, if_neg (by omega), if_neg (by omega), if_pos (by omega)]
  · rw [if_neg h1]
    by_cases h2 : p = k + 1
    · subst h2
      rw [if_pos rfl, if_neg (by omega), if_pos rfl, if_neg (by omega), if_pos rfl]
    · rw [if_neg h2]
      by_cases h3 : a ≤ p ∧ p < k
      · rw [if_pos h3, if_pos (by omega)]
      · rw [if_neg h3, if_neg h1, if_neg (by omega), if_neg h2]
theorem upTo_sub (d : Nat → α) {a k hi : Nat} (h : a ≤ k) (hk : k < hi) : Sub d (upTo d a k) a hi := ⟨fun p h1 h2 => by
  unfold upTo
  by_cases h3 : a ≤ p ∧ p < k
  · rw [if_pos h3]; exact ⟨p + 1, by omega, by omega, rfl⟩
  · rw [if_neg h3]
    by_cases h4 : p = k
    · rw [if_pos h4]; exact ⟨a, by omega, by omega, rfl⟩
    · rw [if_neg h4]; exact ⟨p, h1, h2, rfl⟩, fun p hp => by
  unfold upTo
  rw [if_neg (by omega), if_neg (by omega)]⟩
theorem upTo_srt {le : α → α → Prop} {d : Nat → α} {a i b : Nat} (h : Srt le d (a + 1) b) (h1 : a + 1 ≤ i) (h2 : i ≤ b) (h3 : ∀ q, a + 1 ≤ q → q < i → le (d q) (d a)) (h4 : ∀ q, i ≤ q → q < b → le (d a) (d q)) : Srt le (upTo d a (i - 1)) a b := fun p q p1 p2 p3 => by
  unfold upTo
  by_cases e1 : a ≤ p ∧ p < i - 1
  · rw [if_pos e1]
    by_cases e2 : a ≤ q ∧ q < i - 1
    · rw [if_pos e2]; exact h _ _ (by omega) (by omega) (by omega)
    · rw [if_neg e2]
      by_cases e3 : q = i - 1
      · rw [if_pos e3]; exact h3 _ (by omega) (by omega)
      · rw [if_neg e3]; exact h _ _ (by omega) (by omega) (by omega)
  · rw [if_neg e1, if_neg (show ¬ (a ≤ q ∧ q < i - 1) by omega), if_neg (show ¬ q = i - 1 by omega)]
    by_cases e3 : p = i - 1
    · rw [if_pos e3]; exact h4 _ (by omega) (by omega)
    · rw [if_neg e3]; exact h _ _ (by omega) (by omega) (by omega)

/-- The last moves down to k. -/
def dnTo (d : Nat → α) (m k : Nat) : Nat → α := fun p => if k < p ∧ p ≤ m then d (p - 1) else if p = k then d m else d p
theorem dnTo_zero (d : Nat → α) (m : Nat) : dnTo d m m = d := by
  funext p
  unfold dnTo
  rw [if_neg (by omega)]
  split
  · rename_i h; rw [h]
  · rfl
theorem dnTo_succ (d : Nat → α) {m k : Nat} (h : k + 1 ≤ m) : swp (dnTo d m (k + 1)) (k + 1) k = dnTo d m k := by
  funext p
  unfold swp dnTo
  by_cases h1 : p = k + 1
  · subst h1
    rw [if_pos rfl, if_neg (by omega), if_neg (by omega), if_pos (by omega)]
    congr 1
  · rw [if_neg h1]
    by_cases h2 : p = k
    · subst h2
      rw [if_pos rfl, if_neg (by omega), if_pos rfl, if_neg (by omega), if_pos rfl]
    · rw [if_neg h2]
      by_cases h3 : k + 1 < p ∧ p ≤ m
      · rw [if_pos h3, if_pos (by omega)]
      · rw [if_neg h3, if_neg h1, if_neg (by omega), if_neg h2]
theorem dnTo_sub (d : Nat → α) {m k lo : Nat} (h : k ≤ m) (hk : lo ≤ k) : Sub d (dnTo d m k) lo (m + 1) := ⟨fun p h1 h2 => by
  unfold dnTo
  by_cases h3 : k < p ∧ p ≤ m
  · rw [if_pos h3]; exact ⟨p - 1, by omega, by omega, rfl⟩
  · rw [if_neg h3]
    by_cases h4 : p = k
    · rw [if_pos h4]; exact ⟨m, by omega, by omega, rfl⟩
    · rw [if_neg h4]; exact ⟨p, h1, h2, rfl⟩, fun p hp => by
  unfold dnTo
  rw [if_neg (by omega), if_neg (by omega)]⟩
theorem dnTo_srt {le : α → α → Prop} {d : Nat → α} {a i m : Nat} (h : Srt le d a m) (h1 : a ≤ i) (h2 : i ≤ m) (h3 : ∀ q, a ≤ q → q < i → le (d q) (d m)) (h4 : ∀ q, i ≤ q → q < m → le (d m) (d q)) : Srt le (dnTo d m i) a (m + 1) := fun p q p1 p2 p3 => by
  unfold dnTo
  by_cases e1 : i < q ∧ q ≤ m
  · rw [if_pos e1]
    by_cases e2 : i < p ∧ p ≤ m
    · rw [if_pos e2]; exact h _ _ (by omega) (by omega) (by omega)
    · rw [if_neg e2]
      by_cases e3 : p = i
      · rw [if_pos e3]; exact h4 _ (by omega) (by omega)
      · rw [if_neg e3]; exact h _ _ (by omega) (by omega) (by omega)
  · rw [if_neg e1, if_neg (show ¬ (i < p ∧ p ≤ m) by omega), if_neg (show ¬ p = i by omega)]
    by_cases e3 : q = i
    · rw [if_pos e3]; exact h3 _ (by omega) (by omega)
    · rw [if_neg e3]; exact h _ _ (by omega) (by omega) (by omega)

/-! ### The symmetric merge -/

/-- Behind the search: s is where the left part is cut. n = mid + m; the right part is cut at n - s. -/
structure Cut (le : α → α → Prop) (d : Nat → α) (a m b mid s : Nat) : Prop where
  lo : a ≤ s
  hi : s ≤ m
  lo' : m ≤ mid + m - s
  hi' : mid + m - s ≤ b
  smid : s ≤ mid
  left : a < s → mid + m - s < b → le (d (s - 1)) (d (mid + m - s))
  right : s < m → m < mid + m - s → le (d (mid + m - s - 1)) (d s)

variable {le : α → α → Prop} {d : Nat → α} {a m b mid s : Nat}
/-- All of the new left part is not behind all of the new right part. -/
theorem Cut.parts (O : Ordr le) (h : Cut le d a m b mid s) (h1 : Srt le d a m) (h2 : Srt le d m b) (hab : a ≤ mid ∧ mid ≤ b) : ∀ i j, a ≤ i → i < mid → mid ≤ j → j < b → le (rot d s m (mid + m - s) i) (rot d s m (mid + m - s) j) := fun i j i1 i2 j1 j2 => by
  obtain ⟨c1, c2, c3, c4, c5, c6, c7⟩ := h
  unfold rot
  by_cases e1 : s ≤ i ∧ i < s + (mid + m - s - m)
  · rw [if_pos e1]
    rw [if_neg (show ¬ (s ≤ j ∧ j < s + (mid + m - s - m)) by omega)]
    by_cases e2 : s + (mid + m - s - m) ≤ j ∧ j < mid + m - s
    · rw [if_pos e2]
      have x1 := h2.le O (i := i + (m - s)) (j := mid + m - s - 1) (by omega) (by omega) (by omega)
      have x2 := h1.le O (i := s) (j := j - (mid + m - s - m)) (by omega) (by omega) (by omega)
      exact O.trans _ _ _ x1 (O.trans _ _ _ (c7 (by omega) (by omega)) x2)
    · rw [if_neg e2]
      exact h2.le O (by omega) (by omega) (by omega)
  · rw [if_neg e1, if_neg (show ¬ (s + (mid + m - s - m) ≤ i ∧ i < mid + m - s) by omega), if_neg (show ¬ (s ≤ j ∧ j < s + (mid + m - s - m)) by omega)]
    by_cases e2 : s + (mid + m - s - m) ≤ j ∧ j < mid + m - s
    · rw [if_pos e2]
      exact h1.le O (by omega) (by omega) (by omega)
    · rw [if_neg e2]
      have x1 := h1.le O (i := i) (j := s - 1) (by omega) (by omega) (by omega)
      have x2 := h2.le O (i := mid + m - s) (j := j) (by omega) (by omega) (by omega)
      exact O.trans _ _ _ x1 (O.trans _ _ _ (c6 (by omega) (by omega)) x2)
theorem Cut.srts (h : Cut le d a m b mid s) (h1 : Srt le d a m) (h2 : Srt le d m b) : Srt le (rot d s m (mid + m - s)) a s ∧ Srt le (rot d s m (mid + m - s)) s mid ∧ Srt le (rot d s m (mid + m - s)) mid (mid + m - s) ∧ Srt le (rot d s m (mid + m - s)) (mid + m - s) b := by
  obtain ⟨c1, c2, c3, c4, c5, c6, c7⟩ := h
  refine ⟨fun i j x y z => ?_, fun i j x y z => ?_, fun i j x y z => ?_, fun i j x y z => ?_⟩
  · unfold rot
    rw [if_neg (by omega), if_neg (by omega), if_neg (by omega), if_neg (by omega)]
    exact h1 _ _ (by omega) (by omega) (by omega)
  · unfold rot
    rw [if_pos (by omega), if_pos (by omega)]
    exact h2 _ _ (by omega) (by omega) (by omega)
  · unfold rot
    rw [if_neg (by omega), if_pos (by omega), if_neg (by omega), if_pos (by omega)]
    exact h1 _ _ (by omega) (by omega) (by omega)
  · unfold rot
    rw [if_neg (by omega), if_neg (by omega), if_neg (by omega), if_neg (by omega)]
    exact h2 _ _ (by omega) (by omega) (by omega)
theorem Cut.sub (h : Cut le d a m b mid s) : Sub d (rot d s m (mid + m - s)) a b := (rot_sub d h.hi h.lo').wide h.lo h.hi'

/-- The state of the search for the cut. -/
structure Srch (le : α → α → Prop) (d : Nat → α) (a m b mid s0 r0 s r : Nat) : Prop where
  lo : s0 ≤ s
  mi : s ≤ r
  hi : r ≤ r0
  left : s0 < s → le (d (s - 1)) (d (mid + m - s))
  right : r < r0 → ¬ le (d r) (d (mid + m - 1 - r))
theorem Srch.start (le : α → α → Prop) (d : Nat → α) (a m b mid : Nat) {s0 r0 : Nat} (h : s0 ≤ r0) : Srch le d a m b mid s0 r0 s0 r0 := ⟨Nat.le_refl _, h, Nat.le_refl _, fun h => by omega, fun h => by omega⟩
theorem Srch.up {s0 r0 r c : Nat} (h : Srch le d a m b mid s0 r0 s r) (h1 : s ≤ c) (h2 : c < r) (h3 : le (d c) (d (mid + m - 1 - c))) : Srch le d a m b mid s0 r0 (c + 1) r :=
  ⟨by have := h.lo; omega, by omega, h.hi, fun _ => by rw [show c + 1 - 1 = c from by omega, show mid + m - (c + 1) = mid + m - 1 - c from by omega]; exact h3, h.right⟩
theorem Srch.down {s0 r0 r c : Nat} (h : Srch le d a m b mid s0 r0 s r) (h1 : s ≤ c) (h2 : c < r) (h3 : ¬ le (d c) (d (mid + m - 1 - c))) : Srch le d a m b mid s0 r0 s c :=
  ⟨h.lo, h1, by have := h.hi; omega, h.left, fun _ => h3⟩
/-- The search ends in a cut. -/
theorem Srch.cut (O : Ordr le) {s0 r0 : Nat} (h : Srch le d a m b mid s0 r0 s s) (h1 : a ≤ mid) (h2 : mid ≤ b) (ha : a ≤ m) (hb : m ≤ b) (h3 : (mid < m ∧ s0 = mid + m - b ∧ r0 = mid ∧ b ≤ mid + m ∧ a ≤ mid + m - b) ∨ (m ≤ mid ∧ s0 = a ∧ r0 = m ∧ mid + m - a ≤ b)) : Cut le d a m b mid s := by
  have hlo := h.lo
  have hhi := h.hi
  refine ⟨by omega, by omega, by omega, by omega, by omega, fun x y => h.left (by omega), fun x y => ?_⟩
  have hn := h.right (by omega)
  rw [show mid + m - 1 - s = mid + m - s - 1 from by omega] at hn
  exact (O.total _ _).resolve_left hn
theorem rot_id (d : Nat → α) {a m b : Nat} (h : m ≤ a ∨ b ≤ m) (h1 : a ≤ m) (h2 : m ≤ b) : rot d a m b = d := by
  funext p
  unfold rot
  by_cases e1 : a ≤ p ∧ p < a + (b - m)
  · rw [if_pos e1]; congr 1; omega
  · rw [if_neg e1]
    by_cases e2 : a + (b - m) ≤ p ∧ p < b
    · rw [if_pos e2]; congr 1; omega
    · rw [if_neg e2]
/-- Both new parts have been put in order. -/
theorem Cut.fin (O : Ordr le) (h : Cut le d a m b mid s) (h1 : Srt le d a m) (h2 : Srt le d m b) (hab : a ≤ mid ∧ mid ≤ b) {d6 d7 : Nat → α} (s1 : Sub (rot d s m (mid + m - s)) d6 a mid) (o1 : Srt le d6 a mid) (s2 : Sub d6 d7 mid b) (o2 : Srt le d7 mid b) : Sub d d7 a b ∧ Srt le d7 a b := by
  refine ⟨(h.sub.trans (s1.wide (Nat.le_refl _) hab.2)).trans (s2.wide hab.1 (Nat.le_refl _)), Srt.join (mid := mid) (o1.of_eq fun i _ hi => s2.out i (.inl hi)) o2 fun i j i1 i2 j1 j2 => ?_⟩
  rw [s2.out i (.inl i2)]
  obtain ⟨i', x1, x2, x3⟩ := s1.in_ i i1 i2
  obtain ⟨j', y1, y2, y3⟩ := s2.in_ j j1 j2
  rw [x3, y3, s1.out j' (.inr y1)]
  exact h.parts O h1 h2 hab i' j' x1 x2 y1 y2

/-- The search for a place: what stands ahead of i is ahead of x, what stands from j on is not. -/
structure Plc (le : α → α → Prop) (d : Nat → α) (x : α) (lo hi i j : Nat) : Prop where
  l1 : lo ≤ i
  l2 : i ≤ j
  l3 : j ≤ hi
  up : ∀ q, lo ≤ q → q < i → ¬ le x (d q)
  dn : ∀ q, j ≤ q → q < hi → le x (d q)
theorem Plc.start (le : α → α → Prop) (d : Nat → α) (x : α) {lo hi : Nat} (h : lo ≤ hi) : Plc le d x lo hi lo hi := ⟨Nat.le_refl _, h, Nat.le_refl _, fun q h1 h2 => by omega, fun q h1 h2 => by omega⟩
theorem Plc.right (O : Ordr le) {x : α} {lo hi i j c : Nat} (h : Plc le d x lo hi i j) (hs : Srt le d lo hi) (h1 : i ≤ c) (h2 : c < j) (hc : ¬ le x (d c)) : Plc le d x lo hi (c + 1) j :=
  ⟨by have := h.l1; omega, by omega, h.l3, fun q q1 q2 hq => hc (O.trans _ _ _ hq (hs.le O q1 (by omega) (by have := h.l3; omega))), h.dn⟩
theorem Plc.left (O : Ordr le) {x : α} {lo hi i j c : Nat} (h : Plc le d x lo hi i j) (hs : Srt le d lo hi) (h1 : i ≤ c) (h2 : c < j) (hc : le x (d c)) : Plc le d x lo hi i c :=
  ⟨h.l1, h1, by have := h.l3; omega, h.up, fun q q1 q2 => O.trans _ _ _ hc (hs.le O (by have := h.l1; omega) q1 q2)⟩
/-- The search for a place behind its likes. -/
structure Plb (le : α → α → Prop) (d : Nat → α) (x : α) (lo hi i j : Nat) : Prop where
  l1 : lo ≤ i
  l2 : i ≤ j
  l3 : j ≤ hi
  up : ∀ q, lo ≤ q → q < i → le (d q) x
  dn : ∀ q, j ≤ q → q < hi → ¬ le (d q) x
theorem Plb.start (le : α → α → Prop) (d : Nat → α) (x : α) {lo hi : Nat} (h : lo ≤ hi) : Plb le d x lo hi lo hi := ⟨Nat.le_refl _, h, Nat.le_refl _, fun q h1 h2 => by omega, fun q h1 h2 => by omega⟩
theorem Plb.right (O : Ordr le) {x : α} {lo hi i j c : Nat} (h : Plb le d x lo hi i j) (hs : Srt le d lo hi) (h1 : i ≤ c) (h2 : c < j) (hc : le (d c) x) : Plb le d x lo hi (c + 1) j :=
  ⟨by have := h.l1; omega, by omega, h.l3, fun q q1 q2 => O.trans _ _ _ (hs.le O q1 (by omega) (by have := h.l3; omega)) hc, h.dn⟩
theorem Plb.left (O : Ordr le) {x : α} {lo hi i j c : Nat} (h : Plb le d x lo hi i j) (hs : Srt le d lo hi) (h1 : i ≤ c) (h2 : c < j) (hc : ¬ le (d c) x) : Plb le d x lo hi i c :=
  ⟨h.l1, h1, by have := h.l3; omega, h.up, fun q q1 q2 hq => hc (O.trans _ _ _ (hs.le O (by have := h.l1; omega) q1 q2) hq)⟩
theorem Plc.fin (O : Ordr le) {i : Nat} (h : Plc le d (d a) (a + 1) b i i) (hs : Srt le d (a + 1) b) : Sub d (upTo d a (i - 1)) a b ∧ Srt le (upTo d a (i - 1)) a b := by
  have h1 := h.l1
  have h3 := h.l3
  refine ⟨upTo_sub d (by omega) (by omega), upTo_srt hs h1 h3 (fun q q1 q2 => (O.total _ _).resolve_right (h.up q q1 q2)) h.dn⟩
theorem Plb.fin (O : Ordr le) {i : Nat} (h : Plb le d (d m) a m i i) (hs : Srt le d a m) : Sub d (dnTo d m i) a (m + 1) ∧ Srt le (dnTo d m i) a (m + 1) := by
  have h1 := h.l1
  have h3 := h.l3
  exact ⟨dnTo_sub d h3 h1, dnTo_srt hs h1 h3 h.up fun q q1 q2 => (O.total _ _).resolve_left (h.dn q q1 q2)⟩
end So
end Go.Proofs.Ytghaffafglfdlaa
