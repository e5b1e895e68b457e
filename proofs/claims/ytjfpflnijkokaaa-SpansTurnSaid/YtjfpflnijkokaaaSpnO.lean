/- Right, List and Count of spans, and the document's answers: plain laws. -/
import Derived.Test.YtjfpflnijkokaaaSpnN
namespace Go.Proofs.Ytjfpflnijkokaaa

/-- Whether spans may be, from where the one ahead ends. -/
def rightF : Int → List SpanM → Bool
  | _, [] => true
  | e, s :: l => if s.1 ≤ e ∨ s.1 < 0 ∨ s.2 ≤ s.1 ∨ 4096 < s.2 then false else rightF s.2 l
def rightS (l : List SpanM) : Bool := rightF (-1) l
theorem rightF_spec : ∀ (l : List SpanM) (e : Int), rightF e l = true ↔ goodS l ∧ ∀ s ∈ l, e < s.1 ∧ 0 ≤ s.1 ∧ s.2 ≤ 4096
  | [], e => by simp [rightF, good_nil]
  | s :: l, e => by
    rw [rightF]
    split
    · rename_i h
      constructor
      · intro h'; cases h'
      · rintro ⟨h1, h2⟩
        have := h2 s (List.mem_cons_self ..)
        have := h1.1 s (List.mem_cons_self ..)
        omega
    · rename_i h
      rw [rightF_spec l s.2]
      constructor
      · rintro ⟨h1, h2⟩
        refine ⟨⟨fun t ht => ?_, List.pairwise_cons.2 ⟨fun t ht => (h2 t ht).1, h1.2⟩⟩, fun t ht => ?_⟩
        · rcases List.mem_cons.1 ht with rfl | ht
          · omega
          · exact h1.1 t ht
        · rcases List.mem_cons.1 ht with rfl | ht
          · omega
          · have := h2 t ht; omega
      · rintro ⟨h1, h2⟩
        refine ⟨good_tail h1, fun t ht => ?_⟩
        have := (List.pairwise_cons.1 h1.2).1 t ht
        have := h2 t (List.mem_cons_of_mem _ ht)
        omega
theorem rightS_spec (l : List SpanM) : rightS l = true ↔ goodS l ∧ ∀ s ∈ l, 0 ≤ s.1 ∧ s.2 ≤ 4096 := by
  unfold rightS
  rw [rightF_spec]
  constructor
  · rintro ⟨h1, h2⟩
    exact ⟨h1, fun s hs => (h2 s hs).2⟩
  · rintro ⟨h1, h2⟩
    exact ⟨h1, fun s hs => by have := h2 s hs; omega⟩
/-- Whether a place is in spans. -/
def hasS (l : List SpanM) (k : Int) : Bool := l.any fun s => decide (s.1 ≤ k) && decide (k < s.2)
theorem hasS_iff (l : List SpanM) (k : Int) : hasS l k = true ↔ inS l k := by
  unfold hasS inS
  simp
/-- The document's set. -/
def onS (l : List SpanM) (k : Nat) : Bool := hasS l (k : Int)

/-! ### Spans of places are the document's -/
theorem good_spansF {l : List SpanM} {on : Nat → Bool} (hl : goodS l) (h : ∀ k, inS l k ↔ ∃ j : Nat, j < 4096 ∧ on j = true ∧ k = j) : l = spansF on 4096 := by
  obtain ⟨h1, _, h3⟩ := spansF_spec on 4096
  exact good_uniq _ _ hl h1 fun k => by rw [h, h3]
theorem right_in {l : List SpanM} (h : rightS l = true) {k : Int} (hk : inS l k) : 0 ≤ k ∧ k < 4096 := by
  obtain ⟨s, hs, h1, h2⟩ := hk
  have := ((rightS_spec l).1 h).2 s hs
  omega
theorem right_spansF (on : Nat → Bool) : rightS (spansF on 4096) = true := by
  obtain ⟨h1, h2, _⟩ := spansF_spec on 4096
  exact (rightS_spec _).2 ⟨h1, h2⟩
theorem right_of {l : List SpanM} (hl : goodS l) (h : ∀ k, inS l k → 0 ≤ k ∧ k < 4096) : rightS l = true := by
  refine (rightS_spec l).2 ⟨hl, fun s hs => ?_⟩
  have h0 := hl.1 s hs
  have h1 := h s.1 ⟨s, hs, Int.le_refl _, h0⟩
  have h2 := h (s.2 - 1) ⟨s, hs, by omega, by omega⟩
  omega
/-- Spans that may be are those of their places. -/
theorem right_self {l : List SpanM} (h : rightS l = true) : l = spansF (onS l) 4096 := by
  refine good_spansF ((rightS_spec l).1 h).1 fun k => ?_
  constructor
  · intro hk
    have := right_in h hk
    refine ⟨k.toNat, by omega, ?_, by omega⟩
    unfold onS
    rw [hasS_iff, show ((k.toNat : Nat) : Int) = k from by omega]
    exact hk
  · rintro ⟨j, _, hj, rfl⟩
    unfold onS at hj
    exact (hasS_iff l j).1 hj
theorem on_iff {l : List SpanM} {j : Nat} : onS l j = true ↔ inS l (j : Int) := hasS_iff l j
theorem and_same {a b : List SpanM} (ha : rightS a = true) (hb : rightS b = true) : andS a b = spansF (fun k => onS a k && onS b k) 4096 := by
  obtain ⟨h1, h2⟩ := andS_spec ((rightS_spec a).1 ha).1 ((rightS_spec b).1 hb).1
  refine good_spansF h1 fun k => ?_
  rw [h2]
  constructor
  · rintro ⟨h3, h4⟩
    have := right_in ha h3
    have e : ((k.toNat : Nat) : Int) = k := by omega
    exact ⟨k.toNat, by omega, by rw [Bool.and_eq_true, on_iff, on_iff, e]; exact ⟨h3, h4⟩, e.symm⟩
  · rintro ⟨j, _, hj, rfl⟩
    rw [Bool.and_eq_true, on_iff, on_iff] at hj
    exact hj
/-- Or: whatever way both are put in order by where they begin. -/
theorem or_same {a b c : List SpanM} (ha : rightS a = true) (hb : rightS b = true) (hc : c.Perm (a ++ b)) (hp : c.Pairwise (fun x y => x.1 ≤ y.1)) : c.foldl addS [] = spansF (fun k => onS a k || onS b k) 4096 := by
  obtain ⟨h1, h2⟩ := fold_nil hp
  have hin : ∀ k, inS c k ↔ inS a k ∨ inS b k := fun k => by
    rw [← inS_append]
    unfold inS
    constructor
    · rintro ⟨s, hs, h⟩; exact ⟨s, hc.mem_iff.1 hs, h⟩
    · rintro ⟨s, hs, h⟩; exact ⟨s, hc.mem_iff.2 hs, h⟩
  refine good_spansF h1 fun k => ?_
  rw [h2, hin]
  constructor
  · intro h
    have h0 : 0 ≤ k ∧ k < 4096 := by
      rcases h with h | h
      · exact right_in ha h
      · exact right_in hb h
    have e : ((k.toNat : Nat) : Int) = k := by omega
    exact ⟨k.toNat, by omega, by rw [Bool.or_eq_true, on_iff, on_iff, e]; exact h, e.symm⟩
  · rintro ⟨j, _, hj, rfl⟩
    rw [Bool.or_eq_true, on_iff, on_iff] at hj
    exact hj
theorem minus_same {a b : List SpanM} (ha : rightS a = true) (hb : rightS b = true) : andS a (gapsS b 4096) = spansF (fun k => onS a k && !onS b k) 4096 := by
  obtain ⟨hb1, hb2⟩ := (rightS_spec b).1 hb
  obtain ⟨h1, h2⟩ := gapsS_spec hb1 hb2
  obtain ⟨h3, h4⟩ := andS_spec ((rightS_spec a).1 ha).1 h1
  refine good_spansF h3 fun k => ?_
  rw [h4, h2]
  constructor
  · rintro ⟨h5, h6, h7, h8⟩
    have e : ((k.toNat : Nat) : Int) = k := by omega
    refine ⟨k.toNat, by omega, ?_, e.symm⟩
    rw [Bool.and_eq_true, Bool.not_eq_true', on_iff, ← Bool.not_eq_true, on_iff, e]
    exact ⟨h5, h8⟩
  · rintro ⟨j, hj4, hj, rfl⟩
    rw [Bool.and_eq_true, Bool.not_eq_true', on_iff, ← Bool.not_eq_true, on_iff] at hj
    exact ⟨hj.1, by omega, by omega, hj.2⟩
/-- Of: places in order. -/
theorem of_same {p q : List Int} (hp : q.Perm p) (hs : q.Pairwise (· ≤ ·)) (h : ∀ k ∈ p, 0 ≤ k ∧ k < 4096) : (q.map fun k => (k, k + 1)).foldl addS [] = spansF (fun k => decide ((k : Int) ∈ p)) 4096 := by
  obtain ⟨h1, h2⟩ := fold_nil (xs := q.map fun k => (k, k + 1)) (List.pairwise_map.2 hs)
  refine good_spansF h1 fun k => ?_
  rw [h2]
  have hin : inS (q.map fun k => (k, k + 1)) k ↔ k ∈ p := by
    unfold inS
    constructor
    · rintro ⟨s, hs, h3, h4⟩
      obtain ⟨x, hx, rfl⟩ := List.mem_map.1 hs
      dsimp only at h3 h4
      have : k = x := by omega
      subst this
      exact hp.mem_iff.1 hx
    · intro hk
      exact ⟨(k, k + 1), List.mem_map.2 ⟨k, hp.mem_iff.2 hk, rfl⟩, Int.le_refl _, by dsimp only; omega⟩
  rw [hin]
  constructor
  · intro hk
    have := h k hk
    have e : ((k.toNat : Nat) : Int) = k := by omega
    exact ⟨k.toNat, by omega, by rw [decide_eq_true_iff, e]; exact hk, e.symm⟩
  · rintro ⟨j, _, hj, rfl⟩
    exact of_decide_eq_true hj
end Go.Proofs.Ytjfpflnijkokaaa
