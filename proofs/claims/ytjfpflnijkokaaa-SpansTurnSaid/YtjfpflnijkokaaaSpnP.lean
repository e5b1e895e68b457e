/- The places of spans, how many they are, and what holds of spans of places: plain laws. -/
import Derived.Test.YtjfpflnijkokaaaSpnO
namespace Go.Proofs.Ytjfpflnijkokaaa

theorem ilt_uniq : ∀ (a b : List Int), a.Pairwise (· < ·) → b.Pairwise (· < ·) → (∀ x, x ∈ a ↔ x ∈ b) → a = b
  | [], [], _, _, _ => rfl
  | [], y :: b, _, _, h => absurd ((h y).2 (List.mem_cons_self ..)) (by simp)
  | x :: a, [], _, _, h => absurd ((h x).1 (List.mem_cons_self ..)) (by simp)
  | x :: a, y :: b, ha, hb, h => by
    rw [List.pairwise_cons] at ha hb
    have e : x = y := by
      have h1 := (h x).1 (List.mem_cons_self ..)
      have h2 := (h y).2 (List.mem_cons_self ..)
      rcases List.mem_cons.1 h1 with h1 | h1
      · exact h1
      · rcases List.mem_cons.1 h2 with h2 | h2
        · exact h2.symm
        · have := ha.1 y h2
          have := hb.1 x h1
          omega
    subst e
    rw [ilt_uniq a b ha.2 hb.2 fun z => ?_]
    constructor
    · intro hz
      rcases List.mem_cons.1 ((h z).1 (List.mem_cons_of_mem _ hz)) with h1 | h1
      · have := ha.1 z hz; omega
      · exact h1
    · intro hz
      rcases List.mem_cons.1 ((h z).2 (List.mem_cons_of_mem _ hz)) with h1 | h1
      · have := hb.1 z hz; omega
      · exact h1

/-- The places of a span, of spans. -/
def placesOf (s : SpanM) : List Int := (List.range (s.2 - s.1).toNat).map fun i : Nat => s.1 + (i : Int)
def listS (l : List SpanM) : List Int := l.flatMap placesOf
def countS (l : List SpanM) : Int := (l.map fun s => s.2 - s.1).sum
theorem placesOf_mem (s : SpanM) (k : Int) : k ∈ placesOf s ↔ s.1 ≤ k ∧ k < s.2 := by
  unfold placesOf
  rw [List.mem_map]
  constructor
  · rintro ⟨i, hi, rfl⟩
    have := List.mem_range.1 hi
    omega
  · rintro ⟨h1, h2⟩
    exact ⟨(k - s.1).toNat, List.mem_range.2 (by omega), by omega⟩
theorem listS_mem (l : List SpanM) (k : Int) : k ∈ listS l ↔ inS l k := by
  unfold listS inS
  rw [List.mem_flatMap]
  constructor
  · rintro ⟨s, hs, h⟩; exact ⟨s, hs, (placesOf_mem s k).1 h⟩
  · rintro ⟨s, hs, h⟩; exact ⟨s, hs, (placesOf_mem s k).2 h⟩
theorem listS_rise : ∀ {l : List SpanM}, goodS l → (listS l).Pairwise (· < ·)
  | [], _ => by simp [listS]
  | s :: l, h => by
    have : listS (s :: l) = placesOf s ++ listS l := rfl
    rw [this, List.pairwise_append]
    refine ⟨?_, listS_rise (good_tail h), fun a ha b hb => ?_⟩
    · unfold placesOf
      rw [List.pairwise_map]
      exact List.pairwise_lt_range.imp fun h => by omega
    · have h1 := (placesOf_mem s a).1 ha
      have h2 := good_head h ((listS_mem l b).1 hb)
      omega
theorem countS_len : ∀ {l : List SpanM}, goodS l → countS l = ((listS l).length : Int)
  | [], _ => rfl
  | s :: l, h => by
    have h1 : listS (s :: l) = placesOf s ++ listS l := rfl
    have h2 : countS (s :: l) = (s.2 - s.1) + countS l := by unfold countS; rw [List.map_cons, List.sum_cons]
    have h3 : (placesOf s).length = (s.2 - s.1).toNat := by unfold placesOf; rw [List.length_map, List.length_range]
    have := h.1 s (List.mem_cons_self ..)
    rw [h2, h1, List.length_append, h3, countS_len (good_tail h)]
    omega
/-- The document's: place by place. -/
theorem listS_on {l : List SpanM} (h : rightS l = true) : listS l = ((List.range 4096).filter (onS l)).map (fun j : Nat => (j : Int)) := by
  refine ilt_uniq _ _ (listS_rise ((rightS_spec l).1 h).1) ?_ fun k => ?_
  · rw [List.pairwise_map]
    exact (List.pairwise_lt_range.filter _).imp fun h => by omega
  · rw [listS_mem, List.mem_map]
    constructor
    · intro hk
      have := right_in h hk
      have e : ((k.toNat : Nat) : Int) = k := by omega
      exact ⟨k.toNat, List.mem_filter.2 ⟨List.mem_range.2 (by omega), by rw [on_iff, e]; exact hk⟩, e⟩
    · rintro ⟨j, hj, rfl⟩
      exact on_iff.1 (List.mem_filter.1 hj).2
theorem countS_on {l : List SpanM} (h : rightS l = true) : countS l = ((List.range 4096).countP (onS l) : Nat) := by
  rw [countS_len ((rightS_spec l).1 h).1, listS_on h, List.length_map, List.countP_eq_length_filter]

/-! ### Sets of places -/
theorem on_spansF (f : Nat → Bool) {j : Nat} (hj : j < 4096) : onS (spansF f 4096) j = f j := by
  obtain ⟨_, _, h3⟩ := spansF_spec f 4096
  apply Bool.eq_iff_iff.2
  rw [on_iff, h3]
  constructor
  · rintro ⟨i, _, hi, e⟩
    have : j = i := by omega
    subst this
    exact hi
  · exact fun h => ⟨j, hj, h, rfl⟩
theorem spansF_congr {f g : Nat → Bool} (h : ∀ j, j < 4096 → f j = g j) : spansF f 4096 = spansF g 4096 := by
  obtain ⟨h1, _, h3⟩ := spansF_spec f 4096
  obtain ⟨h4, _, h6⟩ := spansF_spec g 4096
  refine good_uniq _ _ h1 h4 fun k => ?_
  rw [h3, h6]
  constructor
  · rintro ⟨j, hj, hj', e⟩; exact ⟨j, hj, by rw [← h j hj]; exact hj', e⟩
  · rintro ⟨j, hj, hj', e⟩; exact ⟨j, hj, by rw [h j hj]; exact hj', e⟩
theorem spansF_none {f : Nat → Bool} (h : ∀ j, j < 4096 → f j = false) : spansF f 4096 = [] := by
  obtain ⟨h1, _, h3⟩ := spansF_spec f 4096
  refine good_uniq _ _ h1 good_nil fun k => ?_
  rw [h3]
  constructor
  · rintro ⟨j, hj, hj', _⟩
    rw [h j hj] at hj'
    cases hj'
  · exact fun h => absurd h (inS_nil k)
theorem countP_both (p q : Nat → Bool) : ∀ l : List Nat, l.countP (fun k => p k && q k) + l.countP (fun k => p k || q k) = l.countP p + l.countP q
  | [] => rfl
  | x :: l => by
    have := countP_both p q l
    rw [List.countP_cons, List.countP_cons, List.countP_cons, List.countP_cons]
    cases p x <;> cases q x <;> simp <;> omega
theorem countP_congr' {p q : Nat → Bool} (h : ∀ j, j < 4096 → p j = q j) : (List.range 4096).countP p = (List.range 4096).countP q := List.countP_congr fun j hj => by rw [h j (List.mem_range.1 hj)]

/-- What is in both and in one of both is as much as both. -/
theorem count_both {a b : List SpanM} (ha : rightS a = true) (hb : rightS b = true) : countS (spansF (fun k => onS a k && onS b k) 4096) + countS (spansF (fun k => onS a k || onS b k) 4096) = countS a + countS b := by
  rw [countS_on (right_spansF _), countS_on (right_spansF _), countS_on ha, countS_on hb, countP_congr' (p := onS (spansF (fun k => onS a k && onS b k) 4096)) (q := fun k => onS a k && onS b k) (fun j hj => on_spansF _ hj), countP_congr' (p := onS (spansF (fun k => onS a k || onS b k) 4096)) (q := fun k => onS a k || onS b k) (fun j hj => on_spansF _ hj)]
  have := countP_both (onS a) (onS b) (List.range 4096)
  omega
/-- What is in both and in the first alone are all of the first. -/
theorem both_rest {a b : List SpanM} (ha : rightS a = true) : spansF (fun k => onS (spansF (fun k => onS a k && onS b k) 4096) k || onS (spansF (fun k => onS a k && !onS b k) 4096) k) 4096 = a := by
  conv => rhs; rw [right_self ha]
  refine spansF_congr fun j hj => ?_
  rw [on_spansF _ hj, on_spansF _ hj]
  cases onS a j <;> cases onS b j <;> rfl
theorem rest_none {a b : List SpanM} : spansF (fun k => onS (spansF (fun k => onS a k && !onS b k) 4096) k && onS b k) 4096 = [] := by
  refine spansF_none fun j hj => ?_
  rw [on_spansF _ hj]
  cases onS a j <;> cases onS b j <;> rfl
/-- All places. -/
theorem on_all {j : Nat} (hj : j < 4096) : onS [((0 : Int), (4096 : Int))] j = true := by
  rw [on_iff, inS_one]
  dsimp only
  omega
theorem turn_back {a : List SpanM} (ha : rightS a = true) : spansF (fun k => onS [((0 : Int), (4096 : Int))] k && !onS (spansF (fun k => onS [((0 : Int), (4096 : Int))] k && !onS a k) 4096) k) 4096 = a := by
  conv => rhs; rw [right_self ha]
  refine spansF_congr fun j hj => ?_
  rw [on_spansF _ hj, on_all hj]
  cases onS a j <;> rfl
theorem all_right : rightS [((0 : Int), (4096 : Int))] = true := by decide
/-- The places of places' spans are no more than these. -/
theorem list_le : ∀ (a b : List Int), a.Pairwise (· < ·) → (∀ x ∈ a, x ∈ b) → a.length ≤ b.length
  | [], b, _, _ => Nat.zero_le _
  | x :: a, b, ha, h => by
    rw [List.pairwise_cons] at ha
    have hx := h x (List.mem_cons_self ..)
    have h1 := list_le a (b.erase x) ha.2 fun y hy => by
      have h2 := ha.1 y hy
      exact (List.mem_erase_of_ne (by omega)).2 (h y (List.mem_cons_of_mem _ hy))
    have h3 := List.length_erase_of_mem hx
    have h4 := List.length_pos_of_mem hx
    rw [List.length_cons]
    omega
end Go.Proofs.Ytjfpflnijkokaaa
