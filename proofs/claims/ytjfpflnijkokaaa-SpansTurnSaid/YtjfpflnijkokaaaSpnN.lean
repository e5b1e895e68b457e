/- Spans of places, what is in both, in one of both, and what is in none: plain laws. -/
import Derived.Test.YtjfpflnijkokaaaSpnM
namespace Go.Proofs.Ytjfpflnijkokaaa

/-- Spans put behind one another, rising by where they begin. -/
theorem fold_spec : ∀ (xs l : List SpanM), goodS l → xs.Pairwise (fun a b => a.1 ≤ b.1) → (∀ t ∈ l, ∀ s ∈ xs, t.1 ≤ s.1) → goodS (xs.foldl addS l) ∧ ∀ k, inS (xs.foldl addS l) k ↔ inS l k ∨ inS xs k
  | [], l, hl, _, _ => ⟨hl, fun k => by simp [inS_nil]⟩
  | s :: xs, l, hl, hp, hs => by
    rw [List.pairwise_cons] at hp
    obtain ⟨h1, h2, h3⟩ := addS_spec l s hl (fun t ht => hs t ht s (List.mem_cons_self ..))
    obtain ⟨h4, h5⟩ := fold_spec xs (addS l s) h1 hp.2 (fun t ht x hx => by
      have := h3 t ht
      have := hp.1 x hx
      omega)
    rw [List.foldl_cons]
    refine ⟨h4, fun k => ?_⟩
    rw [h5, h2, inS_cons, or_assoc]
theorem good_nil : goodS [] := ⟨by simp, by simp⟩
theorem fold_nil {xs : List SpanM} (hp : xs.Pairwise (fun a b => a.1 ≤ b.1)) : goodS (xs.foldl addS []) ∧ ∀ k, inS (xs.foldl addS []) k ↔ inS xs k := by
  obtain ⟨h1, h2⟩ := fold_spec xs [] good_nil hp (by simp)
  exact ⟨h1, fun k => by rw [h2]; simp [inS_nil]⟩
theorem good_rise : ∀ {l : List SpanM}, goodS l → l.Pairwise (fun a b => a.1 ≤ b.1)
  | [], _ => by simp
  | s :: l, h => by
    rw [List.pairwise_cons]
    refine ⟨fun t ht => ?_, good_rise (good_tail h)⟩
    have := (List.pairwise_cons.1 h.2).1 t ht
    have := h.1 s (List.mem_cons_self ..)
    omega

/-! ### What is in both -/
def andF : List SpanM → List SpanM → List SpanM → List SpanM
  | [], _, out => out
  | _ :: _, [], out => out
  | s :: a, t :: b, out => if s.2 < t.2 then andF a (t :: b) (addS out (max s.1 t.1, min s.2 t.2)) else andF (s :: a) b (addS out (max s.1 t.1, min s.2 t.2))
termination_by a b => a.length + b.length
theorem good_next {s x : SpanM} {l : List SpanM} (h : goodS (s :: x :: l)) : s.1 ≤ x.1 := by
  have h1 := (List.pairwise_cons.1 h.2).1 x (List.mem_cons_self ..)
  have h2 := h.1 s (List.mem_cons_self ..)
  omega
theorem andF_spec (a b out : List SpanM) (ha : goodS a) (hb : goodS b) (ho : goodS out) (hh : ∀ x ∈ out, ∀ s t a' b', a = s :: a' → b = t :: b' → x.1 ≤ max s.1 t.1) :
    goodS (andF a b out) ∧ ∀ k, inS (andF a b out) k ↔ inS out k ∨ (inS a k ∧ inS b k) := by
  match a, b with
  | [], b => rw [andF]; exact ⟨ho, fun k => by simp [inS_nil]⟩
  | s :: a, [] => rw [andF]; exact ⟨ho, fun k => by simp [inS_nil]⟩
  | s :: a, t :: b =>
    rw [andF]
    have hx : ∀ x ∈ out, x.1 ≤ max s.1 t.1 := fun x h => hh x h s t a b rfl rfl
    obtain ⟨h1, h2, h3⟩ := addS_spec out (max s.1 t.1, min s.2 t.2) ho hx
    have hin : ∀ k : Int, (max s.1 t.1 ≤ k ∧ k < min s.2 t.2) ↔ (s.1 ≤ k ∧ k < s.2) ∧ (t.1 ≤ k ∧ k < t.2) := fun k => by omega
    split
    · rename_i hc
      obtain ⟨h4, h5⟩ := andF_spec a (t :: b) (addS out (max s.1 t.1, min s.2 t.2)) (good_tail ha) hb h1 (fun x hx' s' t' a' b' ea eb => by
        cases eb
        subst ea
        have := h3 x hx'
        have := good_next ha
        dsimp only at *
        omega)
      refine ⟨h4, fun k => ?_⟩
      rw [h5, h2, hin, inS_cons s a, inS_cons t b]
      have g1 : inS b k → t.2 < k := fun h => good_head hb h
      constructor
      · rintro ((h | h) | h)
        · exact .inl h
        · exact .inr ⟨.inl h.1, .inl h.2⟩
        · exact .inr ⟨.inr h.1, h.2⟩
      · rintro (h | ⟨h | h, h'⟩)
        · exact .inl (.inl h)
        · rcases h' with h' | h'
          · exact .inl (.inr ⟨h, h'⟩)
          · have := g1 h'; omega
        · exact .inr ⟨h, h'⟩
    · rename_i hc
      obtain ⟨h4, h5⟩ := andF_spec (s :: a) b (addS out (max s.1 t.1, min s.2 t.2)) ha (good_tail hb) h1 (fun x hx' s' t' a' b' ea eb => by
        cases ea
        subst eb
        have := h3 x hx'
        have := good_next hb
        dsimp only at *
        omega)
      refine ⟨h4, fun k => ?_⟩
      rw [h5, h2, hin, inS_cons s a, inS_cons t b]
      have g1 : inS a k → s.2 < k := fun h => good_head ha h
      constructor
      · rintro ((h | h) | h)
        · exact .inl h
        · exact .inr ⟨.inl h.1, .inl h.2⟩
        · exact .inr ⟨h.1, .inr h.2⟩
      · rintro (h | ⟨h, h' | h'⟩)
        · exact .inl (.inl h)
        · rcases h with h | h
          · exact .inl (.inr ⟨h, h'⟩)
          · have := g1 h; omega
        · exact .inr ⟨h, h'⟩
termination_by a.length + b.length
def andS (a b : List SpanM) : List SpanM := andF a b []
theorem andS_spec {a b : List SpanM} (ha : goodS a) (hb : goodS b) : goodS (andS a b) ∧ ∀ k, inS (andS a b) k ↔ inS a k ∧ inS b k := by
  obtain ⟨h1, h2⟩ := andF_spec a b [] ha hb good_nil (by simp)
  exact ⟨h1, fun k => by unfold andS; rw [h2]; simp [inS_nil]⟩

/-! ### What is in none of spans -/
def gapsF : List SpanM → Int → List SpanM → List SpanM × Int
  | [], f, g => (g, f)
  | s :: b, f, g => gapsF b s.2 (addS g (f, s.1))
def gapsS (b : List SpanM) (top : Int) : List SpanM := addS (gapsF b 0 []).1 ((gapsF b 0 []).2, top)
theorem gapsF_spec : ∀ (b : List SpanM) (f : Int) (g : List SpanM), goodS b → goodS g → (∀ x ∈ g, x.1 ≤ f) → (∀ s ∈ b, f ≤ s.1) →
    goodS (gapsF b f g).1 ∧ (∀ x ∈ (gapsF b f g).1, x.1 ≤ (gapsF b f g).2) ∧ f ≤ (gapsF b f g).2 ∧ (∀ s ∈ b, s.2 ≤ (gapsF b f g).2) ∧ ∀ k, inS (gapsF b f g).1 k ↔ inS g k ∨ (f ≤ k ∧ k < (gapsF b f g).2 ∧ ¬ inS b k)
  | [], f, g, _, hg, hx, _ => ⟨hg, hx, Int.le_refl _, by simp, fun k => by
      show inS g k ↔ inS g k ∨ (f ≤ k ∧ k < f ∧ _)
      constructor
      · exact .inl
      · rintro (h | h)
        · exact h
        · omega⟩
  | s :: b, f, g, hb, hg, hx, hf => by
    have hs := hb.1 s (List.mem_cons_self ..)
    have hfs := hf s (List.mem_cons_self ..)
    obtain ⟨h1, h2, h3⟩ := addS_spec g (f, s.1) hg hx
    obtain ⟨h4, h5, h6, h7, h8⟩ := gapsF_spec b s.2 (addS g (f, s.1)) (good_tail hb) h1 (fun x hx' => by have := h3 x hx'; dsimp only at this; omega) (fun t ht => by
      have := (List.pairwise_cons.1 hb.2).1 t ht; omega)
    rw [gapsF]
    refine ⟨h4, h5, by omega, fun t ht => ?_, fun k => ?_⟩
    · rcases List.mem_cons.1 ht with rfl | ht
      · exact h6
      · exact h7 t ht
    · rw [h8, h2, inS_cons]
      have g1 : inS b k → s.2 < k := fun h => good_head hb h
      dsimp only
      constructor
      · rintro ((h | h) | h)
        · exact .inl h
        · refine .inr ⟨h.1, by omega, ?_⟩
          rintro (h' | h')
          · omega
          · have := g1 h'; omega
        · refine .inr ⟨by omega, h.2.1, ?_⟩
          rintro (h' | h')
          · omega
          · exact h.2.2 h'
      · rintro (h | ⟨h, h', h''⟩)
        · exact .inl (.inl h)
        · by_cases hk : k < s.1
          · exact .inl (.inr ⟨h, hk⟩)
          · right
            refine ⟨?_, h', fun e => h'' (.inr e)⟩
            by_cases hk2 : k < s.2
            · exact absurd (.inl ⟨by omega, hk2⟩) h''
            · omega
theorem gapsF_last : ∀ (b : List SpanM) (f : Int) (g : List SpanM), b ≠ [] → ∃ s ∈ b, (gapsF b f g).2 = s.2
  | [], _, _, h => absurd rfl h
  | [s], f, g, _ => ⟨s, by simp, rfl⟩
  | s :: t :: b, f, g, _ => by
    obtain ⟨x, hx, e⟩ := gapsF_last (t :: b) s.2 (addS g (f, s.1)) (by simp)
    exact ⟨x, List.mem_cons_of_mem _ hx, e⟩
theorem gapsS_spec {b : List SpanM} {top : Int} (hb : goodS b) (h0 : ∀ s ∈ b, 0 ≤ s.1 ∧ s.2 ≤ top) : goodS (gapsS b top) ∧ ∀ k, inS (gapsS b top) k ↔ 0 ≤ k ∧ k < top ∧ ¬ inS b k := by
  obtain ⟨h1, h2, h3, h4, h5⟩ := gapsF_spec b 0 [] hb good_nil (by simp) (fun s hs => (h0 s hs).1)
  obtain ⟨h6, h7, h8⟩ := addS_spec (gapsF b 0 []).1 ((gapsF b 0 []).2, top) h1 h2
  refine ⟨h6, fun k => ?_⟩
  unfold gapsS
  rw [h7, h5]
  have hin : inS b k → k < (gapsF b 0 []).2 ∧ k < top := fun ⟨s, hs, h, h'⟩ => by
    have := h4 s hs
    have := (h0 s hs).2
    omega
  have htop : ∀ s ∈ b, s.2 ≤ top := fun s hs => (h0 s hs).2
  dsimp only
  constructor
  · rintro ((h | h) | h)
    · exact absurd h (inS_nil k)
    · refine ⟨h.1, ?_, h.2.2⟩
      by_cases hb0 : b = []
      · subst hb0
        have : (gapsF [] 0 []).2 = 0 := rfl
        omega
      · have := gapsF_last b 0 [] hb0
        obtain ⟨s, hs, e⟩ := this
        have := htop s hs
        omega
    · exact ⟨by omega, h.2, fun e => by have := (hin e).1; omega⟩
  · rintro ⟨h, h', h''⟩
    by_cases hk : k < (gapsF b 0 []).2
    · exact .inl (.inr ⟨h, hk, h''⟩)
    · exact .inr ⟨by omega, h'⟩

/-! ### Spans of a set of places, place by place -/
def spansF (on : Nat → Bool) : Nat → List SpanM
  | 0 => []
  | k + 1 => if on k = true then addS (spansF on k) ((k : Int), (k : Int) + 1) else spansF on k
theorem spansF_spec (on : Nat → Bool) : ∀ n : Nat, goodS (spansF on n) ∧ (∀ t ∈ spansF on n, 0 ≤ t.1 ∧ t.2 ≤ n) ∧ ∀ k, inS (spansF on n) k ↔ ∃ j : Nat, j < n ∧ on j = true ∧ k = j
  | 0 => ⟨good_nil, by simp [spansF], fun k => by simp [spansF, inS_nil]⟩
  | n + 1 => by
    obtain ⟨h1, h2, h3⟩ := spansF_spec on n
    rw [spansF]
    split
    · rename_i hn
      obtain ⟨h4, h5, h6⟩ := addS_spec (spansF on n) ((n : Int), (n : Int) + 1) h1 (fun t ht => by
        have := h2 t ht
        have := h1.1 t ht
        dsimp only
        omega)
      refine ⟨h4, fun t ht => ?_, fun k => ?_⟩
      · have ha : inS (addS (spansF on n) ((n : Int), (n : Int) + 1)) t.1 := ⟨t, ht, Int.le_refl _, h4.1 t ht⟩
        have hb : inS (addS (spansF on n) ((n : Int), (n : Int) + 1)) (t.2 - 1) := ⟨t, ht, by have := h4.1 t ht; omega, by omega⟩
        rw [h5, h3] at ha hb
        dsimp only at ha hb
        constructor
        · rcases ha with ⟨j, hj, _, e⟩ | ha <;> omega
        · rcases hb with ⟨j, hj, _, e⟩ | hb <;> omega
      · rw [h5, h3]
        dsimp only
        constructor
        · rintro (⟨j, hj, hj', e⟩ | h)
          · exact ⟨j, by omega, hj', e⟩
          · exact ⟨n, by omega, hn, by omega⟩
        · rintro ⟨j, hj, hj', e⟩
          by_cases hjn : j = n
          · subst hjn; exact .inr (by omega)
          · exact .inl ⟨j, by omega, hj', e⟩
    · rename_i hn
      refine ⟨h1, fun t ht => by have := h2 t ht; omega, fun k => ?_⟩
      rw [h3]
      constructor
      · rintro ⟨j, hj, hj', e⟩
        exact ⟨j, by omega, hj', e⟩
      · rintro ⟨j, hj, hj', e⟩
        by_cases hjn : j = n
        · subst hjn; exact absurd hj' hn
        · exact ⟨j, by omega, hj', e⟩
end Go.Proofs.Ytjfpflnijkokaaa
