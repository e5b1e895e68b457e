/- Spans that may be are told by their places; a span more behind them: plain laws. -/
import Derived.Lib.RowBridge
namespace Go.Proofs.Ytjfpflnijkokaaa

abbrev SpanM := Int × Int
/-- Spans rise, none is empty, none begins where the one ahead ends. -/
def goodS (l : List SpanM) : Prop := (∀ s ∈ l, s.1 < s.2) ∧ l.Pairwise (fun a b => a.2 < b.1)
/-- A place is in spans. -/
def inS (l : List SpanM) (k : Int) : Prop := ∃ s ∈ l, s.1 ≤ k ∧ k < s.2
theorem inS_nil (k : Int) : ¬ inS [] k := fun ⟨_, h, _⟩ => by simp at h
theorem inS_cons (s : SpanM) (l : List SpanM) (k : Int) : inS (s :: l) k ↔ (s.1 ≤ k ∧ k < s.2) ∨ inS l k := by
  unfold inS
  simp [or_and_right, exists_or]
theorem inS_append (l m : List SpanM) (k : Int) : inS (l ++ m) k ↔ inS l k ∨ inS m k := by
  unfold inS
  simp [or_and_right, exists_or]
theorem inS_one (s : SpanM) (k : Int) : inS [s] k ↔ s.1 ≤ k ∧ k < s.2 := by
  unfold inS
  simp
theorem good_tail {s : SpanM} {l : List SpanM} (h : goodS (s :: l)) : goodS l := ⟨fun x hx => h.1 x (List.mem_cons_of_mem _ hx), (List.pairwise_cons.1 h.2).2⟩
theorem good_head {s : SpanM} {l : List SpanM} (h : goodS (s :: l)) {k : Int} (hk : inS l k) : s.2 < k := by
  obtain ⟨t, ht, h1, h2⟩ := hk
  have := (List.pairwise_cons.1 h.2).1 t ht
  omega
theorem good_uniq : ∀ (l m : List SpanM), goodS l → goodS m → (∀ k, inS l k ↔ inS m k) → l = m
  | [], [], _, _, _ => rfl
  | [], b :: m, _, hm, h => absurd ((h b.1).2 ⟨b, List.mem_cons_self .., Int.le_refl _, hm.1 b (List.mem_cons_self ..)⟩) (inS_nil _)
  | a :: l, [], hl, _, h => absurd ((h a.1).1 ⟨a, List.mem_cons_self .., Int.le_refl _, hl.1 a (List.mem_cons_self ..)⟩) (inS_nil _)
  | a :: l, b :: m, hl, hm, h => by
    have ha := hl.1 a (List.mem_cons_self ..)
    have hb := hm.1 b (List.mem_cons_self ..)
    have e1 : a.1 = b.1 := by
      have h1 := (inS_cons b m a.1).1 ((h a.1).1 ((inS_cons a l a.1).2 (.inl ⟨Int.le_refl _, ha⟩)))
      have h2 := (inS_cons a l b.1).1 ((h b.1).2 ((inS_cons b m b.1).2 (.inl ⟨Int.le_refl _, hb⟩)))
      have h3 : b.1 ≤ a.1 := by
        rcases h1 with h1 | h1
        · exact h1.1
        · have := good_head hm h1; omega
      have h4 : a.1 ≤ b.1 := by
        rcases h2 with h2 | h2
        · exact h2.1
        · have := good_head hl h2; omega
      omega
    have e2 : a.2 = b.2 := by
      rcases Int.lt_trichotomy a.2 b.2 with h1 | h1 | h1
      · have h2 := (inS_cons a l a.2).1 ((h a.2).2 ((inS_cons b m a.2).2 (.inl ⟨by omega, h1⟩)))
        rcases h2 with h2 | h2
        · omega
        · have := good_head hl h2; omega
      · exact h1
      · have h2 := (inS_cons b m b.2).1 ((h b.2).1 ((inS_cons a l b.2).2 (.inl ⟨by omega, h1⟩)))
        rcases h2 with h2 | h2
        · omega
        · have := good_head hm h2; omega
    have e : a = b := Prod.ext e1 e2
    subst e
    rw [good_uniq l m (good_tail hl) (good_tail hm) fun k => ?_]
    constructor
    · intro hk
      have h1 := (inS_cons a m k).1 ((h k).1 ((inS_cons a l k).2 (.inr hk)))
      have := good_head hl hk
      rcases h1 with h1 | h1
      · omega
      · exact h1
    · intro hk
      have h1 := (inS_cons a l k).1 ((h k).2 ((inS_cons a m k).2 (.inr hk)))
      have := good_head hm hk
      rcases h1 with h1 | h1
      · omega
      · exact h1

/-! ### A span more behind spans -/
def lastTo (l : List SpanM) : Option Int := l.getLast?.map (·.2)
def addS (l : List SpanM) (s : SpanM) : List SpanM :=
  if s.2 ≤ s.1 then l
  else match l.getLast? with
    | none => [s]
    | some t => if s.1 ≤ t.2 then l.dropLast ++ [(t.1, max t.2 s.2)] else l ++ [s]
theorem good_snoc {l : List SpanM} {t : SpanM} : goodS (l ++ [t]) ↔ goodS l ∧ t.1 < t.2 ∧ ∀ s ∈ l, s.2 < t.1 := by
  unfold goodS
  rw [List.pairwise_append]
  constructor
  · rintro ⟨h1, h2, h3, h4⟩
    exact ⟨⟨fun s hs => h1 s (by simp [hs]), h2⟩, h1 t (by simp), fun s hs => h4 s hs t (by simp)⟩
  · rintro ⟨⟨h1, h2⟩, h3, h4⟩
    refine ⟨fun s hs => ?_, h2, by simp, fun a ha b hb => ?_⟩
    · rcases List.mem_append.1 hs with hs | hs
      · exact h1 s hs
      · rw [List.mem_singleton.1 hs]; exact h3
    · rw [List.mem_singleton.1 hb]; exact h4 a ha
theorem addS_snoc (l : List SpanM) (t s : SpanM) : addS (l ++ [t]) s = if s.2 ≤ s.1 then l ++ [t] else if s.1 ≤ t.2 then l ++ [(t.1, max t.2 s.2)] else l ++ [t] ++ [s] := by
  unfold addS
  rw [List.getLast?_concat, List.dropLast_concat]
theorem addS_nil (s : SpanM) : addS [] s = if s.2 ≤ s.1 then [] else [s] := rfl
theorem addS_spec (l : List SpanM) (s : SpanM) (hl : goodS l) (hs : ∀ t ∈ l, t.1 ≤ s.1) : goodS (addS l s) ∧ (∀ k, inS (addS l s) k ↔ inS l k ∨ (s.1 ≤ k ∧ k < s.2)) ∧ (∀ t ∈ addS l s, t.1 ≤ s.1) := by
  rcases List.eq_nil_or_concat l with rfl | ⟨l', t, rfl⟩
  · rw [addS_nil]
    split
    · refine ⟨hl, fun k => ?_, hs⟩
      constructor
      · exact .inl
      · rintro (h | h)
        · exact h
        · omega
    · refine ⟨⟨fun x hx => by rw [List.mem_singleton.1 hx]; omega, by simp⟩, fun k => ?_, fun x hx => by rw [List.mem_singleton.1 hx]; exact Int.le_refl _⟩
      rw [inS_one]
      constructor
      · exact .inr
      · rintro (h | h)
        · exact absurd h (inS_nil k)
        · exact h
  · rw [List.concat_eq_append] at hl hs ⊢
    obtain ⟨g1, g2, g3⟩ := good_snoc.1 hl
    have ht : t.1 ≤ s.1 := hs t (by simp)
    rw [addS_snoc]
    split
    · refine ⟨hl, fun k => ?_, hs⟩
      constructor
      · exact .inl
      · rintro (h | h)
        · exact h
        · omega
    · split
      · refine ⟨good_snoc.2 ⟨g1, by dsimp only; omega, g3⟩, fun k => ?_, fun x hx => ?_⟩
        · rw [inS_append, inS_append, inS_one, inS_one]
          dsimp only
          constructor
          · rintro (h | h)
            · exact .inl (.inl h)
            · by_cases hk : k < t.2
              · exact .inl (.inr ⟨h.1, hk⟩)
              · exact .inr ⟨by omega, by omega⟩
          · rintro ((h | h) | h)
            · exact .inl h
            · exact .inr ⟨h.1, by omega⟩
            · exact .inr ⟨by omega, by omega⟩
        · rcases List.mem_append.1 hx with hx | hx
          · exact hs x (by simp [hx])
          · rw [List.mem_singleton.1 hx]; exact ht
      · refine ⟨good_snoc.2 ⟨hl, by omega, fun x hx => ?_⟩, fun k => ?_, fun x hx => ?_⟩
        · rcases List.mem_append.1 hx with hx | hx
          · have := g3 x hx; omega
          · rw [List.mem_singleton.1 hx]; omega
        · rw [inS_append, inS_one]
        · rcases List.mem_append.1 hx with hx | hx
          · exact hs x hx
          · rw [List.mem_singleton.1 hx]; exact Int.le_refl _
end Go.Proofs.Ytjfpflnijkokaaa
