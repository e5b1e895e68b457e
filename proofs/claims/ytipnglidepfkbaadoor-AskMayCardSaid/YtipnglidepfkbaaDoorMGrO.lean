/- Patterns: going back to the last place of any letters alone finds what a table of all places finds. Plain laws. Walks: the reference's letters of a text. Walks: the reference's parts of a pattern; whether a text is one. -/
import Derived.Test.YtipnglidepfkbaaDoorMGrC
import Derived.Test.YtipnglidepfkbaaDoorMGrD
import Derived.Test.YtipnglidepfkbaaDoorMShelf
import Derived.Test.YtipnglidepfkbaaDoorMGrB
namespace Go.Proofs.YtipnglidepfkbaaDoor
set_option linter.unusedVariables false
set_option linter.unusedSimpArgs false

/-- Whether a part is like a letter. -/
def one (p : Pt) (x : List UInt8) : Bool := decide (p.kind = 95 ∨ p = ⟨0, x⟩)
/-- Whether parts are like letters, by looking at all. -/
def mm : List Pt → List (List UInt8) → Bool
  | [], t => decide (t = [])
  | p :: ps, t => if p.kind = 37 then (List.range (t.length + 1)).any fun j => mm ps (t.drop j) else match t with
    | [] => false
    | x :: t' => one p x && mm ps t'
theorem mm_star {p : Pt} (h : p.kind = 37) (ps : List Pt) (t : List (List UInt8)) : mm (p :: ps) t = true ↔ ∃ j, j ≤ t.length ∧ mm ps (t.drop j) = true := by
  rw [mm.eq_def]
  dsimp only
  rw [if_pos h, List.any_eq_true]
  constructor
  · rintro ⟨j, hj, hm⟩
    exact ⟨j, by have := List.mem_range.1 hj; omega, hm⟩
  · rintro ⟨j, hj, hm⟩
    exact ⟨j, List.mem_range.2 (by omega), hm⟩
theorem mm_one {p : Pt} (h : ¬ p.kind = 37) (ps : List Pt) (x : List UInt8) (t : List (List UInt8)) : mm (p :: ps) (x :: t) = (one p x && mm ps t) := by rw [mm, if_neg h]
theorem mm_none {p : Pt} (h : ¬ p.kind = 37) (ps : List Pt) : mm (p :: ps) [] = false := by rw [mm, if_neg h]

/-- Parts that stand for one letter each take just as many. -/
theorem mm_seg (ps : List Pt) (t : List (List UInt8)) : ∀ (d b f : Nat), b + d ≤ ps.length → f ≤ t.length → (∀ q p, b ≤ q → q < b + d → ps[q]? = some p → ¬ p.kind = 37) → mm (ps.drop b) (t.drop f) = true → f + d ≤ t.length ∧ mm (ps.drop (b + d)) (t.drop (f + d)) = true
  | 0, b, f, _, hf, _, hm => ⟨hf, hm⟩
  | d + 1, b, f, hb, hf, hq, hm => by
    have hbl : b < ps.length := by omega
    rw [List.drop_eq_getElem_cons hbl] at hm
    have hk := hq b _ (Nat.le_refl _) (by omega) (List.getElem?_eq_getElem hbl)
    by_cases hfl : f < t.length
    · rw [List.drop_eq_getElem_cons hfl, mm_one hk] at hm
      have := mm_seg ps t d (b + 1) (f + 1) (by omega) (by omega) (fun q p h1 h2 => hq q p (by omega) (by omega)) (Bool.and_eq_true_iff.1 hm).2
      rw [show b + (d + 1) = b + 1 + d from by omega, show f + (d + 1) = f + 1 + d from by omega]
      exact this
    · rw [List.drop_eq_nil_of_le (show t.length ≤ f by omega), mm_none hk] at hm
      cases hm

theorem mm_all_star : ∀ ps : List Pt, mm ps [] = ps.all fun p => p.kind == 37
  | [] => by simp [mm]
  | p :: ps => by
    rw [List.all_cons, ← mm_all_star ps]
    by_cases h : p.kind = 37
    · have h1 := mm_star h ps []
      have h2 : (p.kind == 37) = true := by simpa using h
      rw [h2, Bool.true_and]
      apply Bool.eq_iff_iff.2
      rw [h1]
      constructor
      · rintro ⟨j, _, hm⟩
        simpa using hm
      · intro hm
        exact ⟨0, by simp, by simpa using hm⟩
    · rw [mm_none h]
      have h2 : (p.kind == 37) = false := by simpa using h
      rw [h2, Bool.false_and]

theorem mloop_all (ps : List Pt) (t : List (List UInt8)) : ∀ (n i k b f : Nat), f ≤ k → k ≤ t.length → i ≤ ps.length → b ≤ i → (0 < b → i - b = k - f ∧ ∀ q p, b ≤ q → q < i → ps[q]? = some p → ¬ p.kind = 37) →
    (t.length - f) * (ps.length + 1) + (ps.length - i) < n →
    (mloop ps t n i k b f = true ↔ mm (ps.drop i) (t.drop k) = true ∨ (0 < b ∧ ∃ f', f < f' ∧ f' ≤ t.length ∧ mm (ps.drop b) (t.drop f') = true))
  | 0, i, k, b, f, _, _, _, _, _, hn => by omega
  | n + 1, i, k, b, f, hfk, hkt, hip, hbi, hseg, hn => by
    -- what the old way back could find lies behind place i, too
    have hdom : 0 < b → ∀ f', f < f' → f' ≤ t.length → mm (ps.drop b) (t.drop f') = true → ∃ d, k < d ∧ d ≤ t.length ∧ mm (ps.drop i) (t.drop d) = true := fun hb f' h1 h2 h3 => by
      obtain ⟨e1, e2⟩ := hseg hb
      obtain ⟨h4, h5⟩ := mm_seg ps t (i - b) b f' (by omega) h2 (fun q p g1 g2 g3 => e2 q p g1 (by omega) g3) h3
      rw [show b + (i - b) = i from by omega] at h5
      exact ⟨f' + (i - b), by omega, h4, h5⟩
    rw [mloop]
    by_cases hk : k < t.length
    · rw [if_pos hk]
      by_cases hs : (ps[i]?).map Pt.kind = some 37
      · rw [if_pos hs]
        obtain ⟨p, hp, hpk⟩ := Option.map_eq_some_iff.1 hs
        have hi := (List.getElem?_eq_some_iff.1 hp).1
        have hge := (List.getElem?_eq_some_iff.1 hp).2
        have hμ : (t.length - k) * (ps.length + 1) ≤ (t.length - f) * (ps.length + 1) := Nat.mul_le_mul_right _ (by omega)
        rw [mloop_all ps t n (i + 1) k (i + 1) k (Nat.le_refl _) hkt (by omega) (Nat.le_refl _) (fun _ => ⟨by omega, fun q p g1 g2 => by omega⟩) (by omega)]
        rw [List.drop_eq_getElem_cons hi, hge]
        have hst := mm_star hpk (ps.drop (i + 1)) (t.drop k)
        constructor
        · rintro (h | ⟨_, f', h1, h2, h3⟩)
          · exact .inl (hst.2 ⟨0, by omega, by rw [List.drop_zero]; exact h⟩)
          · refine .inl (hst.2 ⟨f' - k, by rw [List.length_drop]; omega, ?_⟩)
            rw [List.drop_drop, show k + (f' - k) = f' from by omega]
            exact h3
        · intro h
          have hm : mm (p :: ps.drop (i + 1)) (t.drop k) = true := by
            rcases h with h | ⟨hb, f', h1, h2, h3⟩
            · exact h
            · obtain ⟨d, d1, d2, d3⟩ := hdom hb f' h1 h2 h3
              rw [List.drop_eq_getElem_cons hi, hge] at d3
              obtain ⟨j, j1, j2⟩ := (mm_star hpk (ps.drop (i + 1)) (t.drop d)).1 d3
              refine hst.2 ⟨d - k + j, by rw [List.length_drop] at j1 ⊢; omega, ?_⟩
              rw [List.drop_drop] at j2 ⊢
              rw [show k + (d - k + j) = d + j from by omega]
              exact j2
          obtain ⟨j, j1, j2⟩ := hst.1 hm
          rw [List.length_drop] at j1
          rw [List.drop_drop] at j2
          rcases Nat.eq_zero_or_pos j with h0 | h0
          · subst h0
            exact .inl j2
          · exact .inr ⟨by omega, k + j, by omega, by omega, j2⟩
      · rw [if_neg hs]
        have hgd : t.getD k [] = t[k] := by simp [List.getD, List.getElem?_eq_getElem hk]
        by_cases ho : (ps[i]?).map Pt.kind = some 95 ∨ ps[i]? = some ⟨0, t.getD k []⟩
        · rw [if_pos ho]
          have hi : i < ps.length := by
            rcases ho with ho | ho
            · obtain ⟨p, hp, _⟩ := Option.map_eq_some_iff.1 ho
              exact (List.getElem?_eq_some_iff.1 hp).1
            · exact (List.getElem?_eq_some_iff.1 ho).1
          have hpi := List.getElem?_eq_getElem hi
          rw [hpi] at hs ho
          have hnk : ¬ ps[i].kind = 37 := fun h => hs (by rw [Option.map_some, h])
          have hone : one ps[i] t[k] = true := by
            unfold one
            rw [decide_eq_true_iff]
            rcases ho with ho | ho
            · rw [Option.map_some] at ho
              exact .inl (Option.some.inj ho)
            · rw [hgd] at ho
              exact .inr (Option.some.inj ho)
          rw [mloop_all ps t n (i + 1) (k + 1) b f (by omega) (by omega) (by omega) (by omega) (fun hb => ⟨by have := (hseg hb).1; omega, fun q p g1 g2 g3 => by
            by_cases hq : q < i
            · exact (hseg hb).2 q p g1 hq g3
            · obtain rfl : q = i := by omega
              rw [hpi] at g3
              rw [← Option.some.inj g3]
              exact hnk⟩) (by omega)]
          rw [List.drop_eq_getElem_cons hi, List.drop_eq_getElem_cons hk, mm_one hnk, hone, Bool.true_and]
        · rw [if_neg ho]
          have hno : ¬ mm (ps.drop i) (t.drop k) = true := by
            intro hm
            rw [List.drop_eq_getElem_cons hk] at hm
            by_cases hi : i < ps.length
            · have hpi := List.getElem?_eq_getElem hi
              rw [hpi] at hs ho
              have hnk : ¬ ps[i].kind = 37 := fun h => hs (by rw [Option.map_some, h])
              rw [List.drop_eq_getElem_cons hi, mm_one hnk] at hm
              have h1 := (Bool.and_eq_true_iff.1 hm).1
              unfold one at h1
              rcases of_decide_eq_true h1 with h2 | h2
              · exact ho (.inl (by rw [Option.map_some, h2]))
              · exact ho (.inr (by rw [hgd, h2]))
            · rw [List.drop_eq_nil_of_le (by omega), mm] at hm
              cases of_decide_eq_true hm
          by_cases hb : 0 < b
          · rw [if_pos hb]
            have hμ : (t.length - f) * (ps.length + 1) = (t.length - (f + 1)) * (ps.length + 1) + (ps.length + 1) := by
              rw [show t.length - f = (t.length - (f + 1)) + 1 from by omega, Nat.succ_mul]
            rw [mloop_all ps t n b (f + 1) b (f + 1) (Nat.le_refl _) (by omega) (by omega) (Nat.le_refl _) (fun _ => ⟨by omega, fun q p g1 g2 => by omega⟩) (by omega)]
            constructor
            · rintro (h | ⟨_, f', h1, h2, h3⟩)
              · exact .inr ⟨hb, f + 1, by omega, by omega, h⟩
              · exact .inr ⟨hb, f', by omega, h2, h3⟩
            · rintro (h | ⟨_, f', h1, h2, h3⟩)
              · exact absurd h hno
              · by_cases he : f' = f + 1
                · subst he; exact .inl h3
                · exact .inr ⟨hb, f', by omega, h2, h3⟩
          · rw [if_neg hb]
            constructor
            · intro h; cases h
            · rintro (h | ⟨h, _⟩)
              · exact absurd h hno
              · exact absurd h hb
    · rw [if_neg hk]
      rw [List.drop_eq_nil_of_le (show t.length ≤ k by omega), ← mm_all_star]
      constructor
      · intro h; exact .inl h
      · rintro (h | ⟨hb, f', h1, h2, h3⟩)
        · exact h
        · obtain ⟨d, d1, d2, _⟩ := hdom hb f' h1 h2 h3
          omega

theorem mloop_mm (ps : List Pt) (t : List (List UInt8)) : mloop ps t ((t.length + 1) * (ps.length + 1)) 0 0 0 0 = mm ps t := by
  apply Bool.eq_iff_iff.2
  rw [mloop_all ps t _ 0 0 0 0 (by omega) (by omega) (by omega) (by omega) (fun h => by omega) (by rw [Nat.succ_mul, Nat.sub_zero, Nat.sub_zero]; omega)]
  rw [List.drop_zero, List.drop_zero]
  constructor
  · rintro (h | ⟨h, _⟩)
    · exact h
    · omega
  · exact .inl

/-! ### The table -/
def nextS (can : Nat → Bool) : Nat → Bool
  | 0 => can 0
  | k + 1 => can (k + 1) || nextS can k
def nextO (p : Pt) (t : List (List UInt8)) (can : Nat → Bool) : Nat → Bool
  | 0 => false
  | k + 1 => can k && one p (t.getD k [])
def dpStep (p : Pt) (t : List (List UInt8)) (can : Nat → Bool) : Nat → Bool := if p.kind = 37 then nextS can else nextO p t can
def dp (t : List (List UInt8)) : List Pt → (Nat → Bool) → Nat → Bool
  | [], can => can
  | p :: ps, can => dp t ps (dpStep p t can)
theorem nextS_iff (can : Nat → Bool) : ∀ k, nextS can k = true ↔ ∃ j, j ≤ k ∧ can j = true
  | 0 => by
    rw [nextS]
    refine ⟨fun h => ⟨0, Nat.le_refl _, h⟩, fun ⟨j, hj, h⟩ => ?_⟩
    obtain rfl : j = 0 := by omega
    exact h
  | k + 1 => by
    rw [nextS, Bool.or_eq_true, nextS_iff can k]
    constructor
    · rintro (h | ⟨j, hj, h⟩)
      · exact ⟨k + 1, Nat.le_refl _, h⟩
      · exact ⟨j, by omega, h⟩
    · rintro ⟨j, hj, h⟩
      by_cases e : j = k + 1
      · subst e; exact .inl h
      · exact .inr ⟨j, by omega, h⟩
theorem dp_iff (t : List (List UInt8)) : ∀ (ps : List Pt) (can : Nat → Bool), dp t ps can t.length = true ↔ ∃ k, k ≤ t.length ∧ can k = true ∧ mm ps (t.drop k) = true
  | [], can => by
    rw [dp]
    constructor
    · intro h
      exact ⟨t.length, Nat.le_refl _, h, by rw [List.drop_eq_nil_of_le (Nat.le_refl _)]; rfl⟩
    · rintro ⟨k, h1, h2, h3⟩
      rw [mm] at h3
      have h3 := of_decide_eq_true h3
      rw [List.drop_eq_nil_iff] at h3
      obtain rfl : k = t.length := by omega
      exact h2
  | p :: ps, can => by
    rw [dp, dp_iff t ps]
    by_cases hp : p.kind = 37
    · rw [dpStep, if_pos hp]
      constructor
      · rintro ⟨k, h1, h2, h3⟩
        obtain ⟨j, hj, hc⟩ := (nextS_iff can k).1 h2
        refine ⟨j, by omega, hc, (mm_star hp _ _).2 ⟨k - j, by rw [List.length_drop]; omega, ?_⟩⟩
        rw [List.drop_drop, show j + (k - j) = k from by omega]
        exact h3
      · rintro ⟨j, h1, h2, h3⟩
        obtain ⟨d, hd, hm⟩ := (mm_star hp _ _).1 h3
        rw [List.length_drop] at hd
        rw [List.drop_drop] at hm
        exact ⟨j + d, by omega, (nextS_iff can _).2 ⟨j, by omega, h2⟩, hm⟩
    · rw [dpStep, if_neg hp]
      constructor
      · rintro ⟨k, h1, h2, h3⟩
        cases k with
        | zero => rw [nextO] at h2; cases h2
        | succ k =>
          rw [nextO] at h2
          obtain ⟨g1, g2⟩ := Bool.and_eq_true_iff.1 h2
          have hk : k < t.length := by omega
          have hgd : t.getD k [] = t[k] := by simp [List.getD, List.getElem?_eq_getElem hk]
          rw [hgd] at g2
          exact ⟨k, by omega, g1, by rw [List.drop_eq_getElem_cons hk, mm_one hp, g2, h3]; rfl⟩
      · rintro ⟨k, h1, h2, h3⟩
        by_cases hk : k < t.length
        · have hgd : t.getD k [] = t[k] := by simp [List.getD, List.getElem?_eq_getElem hk]
          rw [List.drop_eq_getElem_cons hk, mm_one hp] at h3
          obtain ⟨g1, g2⟩ := Bool.and_eq_true_iff.1 h3
          exact ⟨k + 1, by omega, by rw [nextO, h2, hgd, g1]; rfl, g2⟩
        · rw [List.drop_eq_nil_of_le (by omega), mm_none hp] at h3
          cases h3
def can0 : Nat → Bool := fun k => decide (k = 0)
theorem dp_mm (ps : List Pt) (t : List (List UInt8)) : dp t ps can0 t.length = mm ps t := by
  apply Bool.eq_iff_iff.2
  rw [dp_iff]
  constructor
  · rintro ⟨k, h1, h2, h3⟩
    obtain rfl : k = 0 := of_decide_eq_true h2
    exact h3
  · intro h
    exact ⟨0, by omega, by decide, h⟩
theorem matchM_dp (p s : List UInt8) : matchM p s = ((partsM p).2 && dp (letters s) (partsM p).1 can0 (letters s).length) := by
  unfold matchM
  rw [mloop_mm, dp_mm]

/-! ### A pattern's parts, by the letters alone -/
def partR (x : List UInt8) : Pt := if x = [37] then ⟨37, []⟩ else if x = [95] then ⟨95, []⟩ else ⟨0, x⟩
def partsR : List (List UInt8) → Option (List Pt)
  | [] => some []
  | [x] => if x = [92] then none else some [partR x]
  | x :: y :: t => if x = [92] then (partsR t).map (⟨0, y⟩ :: ·) else (partsR (y :: t)).map (partR x :: ·)
/-- A letter's rune and its bytes, of what is below 128. -/
def lok (x : Nat × List UInt8) : Prop := (x.1 = 37 ↔ x.2 = [37]) ∧ (x.1 = 92 ↔ x.2 = [92]) ∧ (x.1 = 95 ↔ x.2 = [95])
theorem dec_lok {l : List UInt8} (h : l ≠ []) : lok ((dec l).1, l.take (dec l).2) := by
  obtain ⟨b, t, rfl⟩ := List.exists_cons_of_ne_nil h
  have hb : b.toNat < 256 := b.toNat_lt
  have key : ∀ c : UInt8, c.toNat < 128 → ((dec (b :: t)).1 = c.toNat ↔ (b :: t).take (dec (b :: t)).2 = [c]) := by
    intro c hc
    have e : dec (b :: t) = Lib.decodeN (b :: t).length b.toNat ((b :: t).getD 1 0).toNat ((b :: t).getD 2 0).toNat ((b :: t).getD 3 0).toNat := rfl
    by_cases h1 : b.toNat < 128
    · have e2 : dec (b :: t) = (b.toNat, 1) := by rw [e]; unfold Lib.decodeN; rw [if_pos h1]
      rw [e2]
      constructor
      · intro h2
        have : b = c := UInt8.toNat_inj.1 h2
        rw [this]; rfl
      · intro h2
        have : b = c := by simpa using h2
        rw [this]
    · have hr : 128 ≤ (dec (b :: t)).1 := by
        rw [e]
        unfold Lib.decodeN
        rw [if_neg h1]
        repeat' split
        all_goals simp only
        all_goals omega
      have hbd := dec_bounds (b :: t) (by simp)
      constructor
      · intro h2; omega
      · intro h2
        obtain ⟨k, hk⟩ : ∃ k, (dec (b :: t)).2 = k + 1 := ⟨(dec (b :: t)).2 - 1, by omega⟩
        rw [hk, List.take_succ_cons] at h2
        injection h2 with h2
        rw [h2] at h1
        omega
  exact ⟨key 37 (by decide), key 92 (by decide), key 95 (by decide)⟩
theorem lets_lok : ∀ (n : Nat) (l : List UInt8), l.length ≤ n → ∀ x ∈ lets l, lok x
  | 0, l, h => by
    obtain rfl : l = [] := List.eq_nil_of_length_eq_zero (by omega)
    rw [lets_nil]
    simp
  | n + 1, l, h => by
    by_cases e : l = []
    · subst e; rw [lets_nil]; simp
    · have hb := dec_bounds l e
      rw [lets_cons e]
      intro x hx
      rcases List.mem_cons.1 hx with rfl | hx
      · exact dec_lok e
      · exact lets_lok n _ (by rw [List.length_drop]; omega) x hx
theorem stepP_plain {x : Nat × List UInt8} (h : lok x) (hx : ¬ x.2 = [92]) : stepP false x = (false, [partR x.2]) := by
  obtain ⟨h1, h2, h3⟩ := h
  unfold stepP partR
  rw [if_neg (by decide), if_neg (fun e => hx (h2.1 e))]
  by_cases e1 : x.2 = [37]
  · rw [if_pos (.inl (h1.2 e1)), if_pos e1, h1.2 e1]; rfl
  · by_cases e2 : x.2 = [95]
    · rw [if_pos (.inr (h3.2 e2)), if_neg e1, if_pos e2, h3.2 e2]; rfl
    · rw [if_neg (fun e => e.elim (fun e => e1 (h1.1 e)) (fun e => e2 (h3.1 e))), if_neg e1, if_neg e2]
theorem stepP_esc {x : Nat × List UInt8} (h : lok x) (hx : x.2 = [92]) : stepP false x = (true, []) := by
  unfold stepP
  rw [if_neg (by decide), if_pos (h.2.1.2 hx)]
theorem partsR_eq : ∀ (l : List (Nat × List UInt8)), (∀ x ∈ l, lok x) → partsR (l.map Prod.snd) = if (partsF false l).2 = true then some (partsF false l).1 else none
  | [], _ => rfl
  | [x], h => by
    have hx := h x (List.mem_cons_self ..)
    show (if x.2 = [92] then none else some [partR x.2]) = _
    by_cases e : x.2 = [92]
    · rw [if_pos e, partsF, stepP_esc hx e]
      rfl
    · rw [if_neg e, partsF, stepP_plain hx e]
      rfl
  | x :: y :: t, h => by
    have hx := h x (List.mem_cons_self ..)
    show (if x.2 = [92] then (partsR (t.map Prod.snd)).map (⟨0, y.2⟩ :: ·) else (partsR ((y :: t).map Prod.snd)).map (partR x.2 :: ·)) = _
    by_cases e : x.2 = [92]
    · rw [if_pos e, partsR_eq t (fun z hz => h z (List.mem_cons_of_mem _ (List.mem_cons_of_mem _ hz))), partsF, stepP_esc hx e]
      dsimp only
      rw [partsF]
      have : stepP true y = (false, [⟨0, y.2⟩]) := by unfold stepP; rw [if_pos rfl]
      rw [this]
      dsimp only
      split <;> rfl
    · rw [if_neg e, partsR_eq (y :: t) (fun z hz => h z (List.mem_cons_of_mem _ hz))]
      have hx2 : partsF false (x :: y :: t) = ((stepP false x).2 ++ (partsF (stepP false x).1 (y :: t)).1, (partsF (stepP false x).1 (y :: t)).2) := rfl
      rw [hx2, stepP_plain hx e]
      dsimp only
      split <;> rfl
theorem partsR_letters (p : List UInt8) : partsR (letters p) = if (partsM p).2 = true then some (partsM p).1 else none := partsR_eq _ (lets_lok _ p (Nat.le_refl _))
end Go.Proofs.YtipnglidepfkbaaDoor
namespace Go.Proofs.YtipnglidepfkbaaDoor
set_option linter.unusedVariables false
set_option linter.unusedSimpArgs false
open Go.RowKit

attribute [local go_sem ↓] Go.wp_at_zero Go.wp_at_succ

theorem decodeGo_dec {l : List UInt8} (h : l ≠ []) : Lib.decodeGo (St8 l) = dec l := by
  have h0 : ¬ (St8 l).size = 0 := by
    rw [St8_size]
    intro e
    exact h (List.eq_nil_of_length_eq_zero e)
  simp only [Lib.decodeGo, h0, if_false]
  rw [dec_at, List.drop_zero]

set_option maxHeartbeats 4000000 in
set_option maxRecDepth 100000 in
theorem rletters_any (s : List UInt8) (w : World) (hs : s.length ≤ 1000000) (hT : Lib.Utf8Tabs 0 1 w) :
    Calls Tryd.prog 84 #[.string (St8 s)] w fun e w' => ∃ A c, e = .returned (.slice A (letters s).length c) ∧ Own w' w.heap.size 9 1 A (letters s).length c (scells (letters s)) ∧ Below w.heap.size w w' := by
  go_enter Tryd.func84, Tryd.ntmps84
  go_wp2_with fail
  go_loopw [0, 3] (fun vs vl wr => ∃ (p n c : Nat) (A : Option Addr) (pre : List (List UInt8)), vs = .string (St8 (s.drop p)) ∧ vl = .slice A n c ∧ p ≤ s.length ∧ n ≤ p ∧ Hid (pre.length = n) ∧ Hid (pre ++ letters (s.drop p) = letters s) ∧ Hid (Own wr w.heap.size 9 1 A n c (scells pre)) ∧ Hid (Below w.heap.size w wr)) (fun vs _ _ => match vs with | .string b => b.size | _ => 0)
  case atStart => exact ⟨0, 0, 0, none, [], by rw [List.drop_zero], rfl, by omega, by omega, rfl, by show _ = _; rw [List.drop_zero, List.nil_append], Own.nil _ _ _ _, Below.refl _ _⟩
  case round =>
    obtain ⟨p, n, c, A, pre, rfl, rfl, hps, hnp, Hn, Heq, Ho, Hb⟩ := hrel
    have hsz := St8_size (s.drop p)
    have hdl : (s.drop p).length = s.length - p := List.length_drop
    by_cases hp : p < s.length
    · have hne : s.drop p ≠ [] := by
        intro e
        rw [List.drop_eq_nil_iff] at e
        omega
      have hdb := dec_bounds _ hne
      have hlc := letters_cons hne
      have hcall := Tryd.utf8_DecodeRuneInString (St8 (s.drop p)) wr (Utf8Tabs_below hT Hb.out)
      rw [decodeGo_dec hne] at hcall
      have hex1 := St8_extract (s.drop p) 0 (dec (s.drop p)).2
      have hex2 := St8_extract (s.drop p) (dec (s.drop p)).2 (s.drop p).length
      rw [List.drop_zero, Nat.sub_zero] at hex1
      rw [List.take_of_length_le (by rw [List.length_drop]; exact Nat.le_refl _), List.drop_drop] at hex2
      rw [List.drop_drop] at hlc
      rw [hdl] at hdb hex2 hsz
      have Hsl := Lib.hid (St8_size (s.drop (p + (dec (s.drop p)).2)))
      generalize hD : dec (s.drop p) = D at *
      obtain ⟨dr, dw⟩ := D
      dsimp only at hcall hdb hex1 hex2 hlc Hsl
      have heq := Heq.out
      rw [hlc] at heq
      have Heq2 := Lib.hid heq
      have Hcall := Lib.hid hcall
      have Hex1 := Lib.hid hex1
      have Hex2 := Lib.hid hex2
      have hI1 : (0 : Int) < ((s.length - p : Nat) : Int) := by omega
      have hI2 : (0 : Int) ≤ (dw : Int) := by omega
      have hI3 : (dw : Int) ≤ ((s.length - p : Nat) : Int) := by omega
      have hI4 : dw ≤ s.length - p := by omega
      clear hcall hex1 hex2 heq hlc hD hne Heq hT
      go_wp2_with fail
      refine Hcall.out.mono ?_
      rintro e w1 ⟨rfl, hb1⟩
      have ho1 := Own.below Ho.out hb1
      have hb1' := Hb.out.trans (hb1.mono Hb.out.size)
      have hbW : Below w1.heap.size w1 (w1.alloc (.cells #[.string (St8 ((s.drop p).take dw))] 9)) := (Below.refl _ _).alloc (Nat.le_refl _) _
      have hnew := (Blk.new w1 9 #[.string (St8 ((s.drop p).take dw))]).range
      have ho3 := Own.below ho1 hbW
      have hb3 := hb1'.trans (hbW.mono hb1'.size)
      have hz1 := hb1'.size
      clear Ho Hb hb1
      go_wp2_with (first | (at_builtin; refine hold ?_) | (at_make; refine hold ?_))
      rw [Hex1.out]
      (with_reducible refine unhold ?_)
      refine wpList_apd rfl _ _ _ rfl Estr w.heap.size _ n _ (scells pre) rfl ho3 _ 1 _ [.string (St8 ((s.drop p).take dw))] rfl rfl (fun _ => ⟨_, _, rfl, hnew⟩) (by simp [Value.oneCell']) (n + 1) rfl _ rfl (by omega) (by omega) (by rw [World.size_alloc]; omega) ?_
      intro A5 c5 w9 ho10 hg10 _
      have Hb10 := Lib.hid (hb3.grown hg10 hb3.size ho3.row_ge)
      rw [scells_snoc] at ho10
      have Ho10 := Lib.hid ho10
      clear hbW hnew ho3 hb3 ho10 hg10 ho1 hb1'
      go_wp2_with fail
      rw [Hex2.out]
      go_roundw
      case rel => exact ⟨p + dw, n + 1, c5, A5, _, rfl, rfl, by omega, by omega, (by show _ = _; rw [List.length_append, Hn.out]; rfl), (by show _ = _; rw [List.append_assoc]; exact Heq2.out), Ho10, Hb10⟩
      case measure => show (St8 _).size < (St8 _).size; rw [Hsl.out, hsz, List.length_drop]; omega
    · obtain rfl : p = s.length := by omega
      have hfin : Hid (pre = letters s) := by
        show _ = _
        have := Heq.out
        rw [List.drop_eq_nil_of_le (Nat.le_refl _), letters_nil, List.append_nil] at this
        exact this
      rw [hdl, Nat.sub_self] at hsz
      clear hdl Heq
      go_wp2_with fail
      go_ret
      rw [← hfin.out, Hn.out]
      exact ⟨_, _, rfl, Ho.out, Hb.out⟩
end Go.Proofs.YtipnglidepfkbaaDoor
namespace Go.Proofs.YtipnglidepfkbaaDoor
set_option linter.unusedVariables false
set_option linter.unusedSimpArgs false
open Go.RowKit

attribute [local go_sem ↓] Go.wp_at_zero Go.wp_at_succ

def rpcell (p : Pt) : List Value := [.bool (p.kind == 37), .bool (p.kind == 95), .string (St8 p.letter)]
def rpcells (l : List Pt) : List Value := l.flatMap rpcell
theorem rpcells_append (r q : List Pt) : rpcells (r ++ q) = rpcells r ++ rpcells q := by simp [rpcells]
theorem rpcells_len : ∀ r : List Pt, (rpcells r).length = r.length * 3
  | [] => rfl
  | v :: r => by
    have := rpcells_len r
    unfold rpcells at *
    rw [List.flatMap_cons, List.length_append, this, List.length_cons]
    show 3 + _ = _
    omega
theorem rpcells_get : ∀ (r : List Pt) (j : Nat) (v : Pt) (t : Nat), r[j]? = some v → t < 3 → (rpcells r)[j * 3 + t]? = (rpcell v)[t]?
  | [], j, a, t, h, _ => by simp at h
  | x :: l, 0, a, t, h, ht => by
    obtain rfl : x = a := by simpa using h
    unfold rpcells
    rw [List.flatMap_cons, Nat.zero_mul, Nat.zero_add, List.getElem?_append_left (by exact ht)]
  | x :: l, j + 1, a, t, h, ht => by
    have := rpcells_get l j a t (by simpa using h) ht
    unfold rpcells at *
    rw [List.flatMap_cons, List.getElem?_append_right (by show 3 ≤ _; omega), show (j + 1) * 3 + t - (rpcell x).length = j * 3 + t from by show (j + 1) * 3 + t - 3 = _; omega]
    exact this
theorem Erpt : ElemT Tryd.prog 92 104 3 24 (.agg #[.bool false, .bool false, .string ⟨#[]⟩]) := ElemT.mk' (by kernel_rfl) (by kernel_rfl) rfl (by omega)

theorem cmp_lit (x l : List UInt8) : ((St8 x).toList == l) = decide (x = l) := by
  rw [St8_list]
  by_cases h : x = l <;> simp [h]
theorem partsR_cons {x : List UInt8} (h : ¬ x = [92]) (t : List (List UInt8)) : partsR (x :: t) = (partsR t).map (partR x :: ·) := by
  cases t with
  | nil =>
    show (if x = [92] then none else some [partR x]) = _
    rw [if_neg h]
    rfl
  | cons y t => rw [partsR, if_neg h]
theorem partsR_esc (y : List UInt8) (t : List (List UInt8)) : partsR ([92] :: y :: t) = (partsR t).map (⟨0, y⟩ :: ·) := by rw [partsR, if_pos rfl]
theorem partsR_len : ∀ (l : List (List UInt8)) (ps : List Pt), partsR l = some ps → ps.length ≤ l.length
  | [], ps, h => by cases h; exact Nat.le_refl _
  | [x], ps, h => by
    rw [partsR] at h
    split at h
    · cases h
    · cases h; exact Nat.le_refl _
  | x :: y :: t, ps, h => by
    rw [partsR] at h
    split at h
    · obtain ⟨q, hq, rfl⟩ := Option.map_eq_some_iff.1 h
      have := partsR_len t q hq
      simp; omega
    · obtain ⟨q, hq, rfl⟩ := Option.map_eq_some_iff.1 h
      have := partsR_len (y :: t) q hq
      simp at this ⊢; omega
theorem map_cons {x : Option (List Pt)} {q : List Pt} {p : Pt} {R : Option (List Pt)} (h : R = (x.map (p :: ·)).map (q ++ ·)) : R = x.map ((q ++ [p]) ++ ·) := by
  rw [h, Option.map_map]
  congr 1
  funext l
  simp

/-- What the reference makes of a pattern. -/
def rparts (s : List UInt8) : Option (List Pt) := partsR (letters s)

set_option maxHeartbeats 8000000 in
set_option maxRecDepth 100000 in
theorem rparts_c (s : List UInt8) (w : World) (hs : s.length ≤ 1000000) (hT : Lib.Utf8Tabs 0 1 w) :
    Calls Tryd.prog 78 #[.string (St8 s)] w fun e w' => (∃ A n c q, e = .returned (.tuple #[.slice A n c, .bool (rparts s).isSome]) ∧ q.length = n ∧ (∀ ps, rparts s = some ps → q = ps) ∧ Own w' w.heap.size 104 3 A n c (rpcells q)) ∧ Below w.heap.size w w' := by
  have hlw := Lib.hid (rletters_any s w hs hT)
  have hll := letters_le s
  obtain ⟨R, hR⟩ : ∃ R, rparts s = R := ⟨_, rfl⟩
  have HR := Lib.hid hR
  rw [hR]
  unfold rparts at hR
  generalize hls : letters s = ls at *
  clear hls hT
  go_enter Tryd.func78, Tryd.ntmps78
  go_wp2_with fail
  refine hlw.out.mono ?_
  rintro e w1 ⟨LA, lc, rfl, hlo, hb1⟩
  have Hlr := Lib.hid hlo.rd
  have Hb1 := Lib.hid hb1
  have hlc := hlo.cap
  obtain ⟨N, hN⟩ : ∃ N, ls.length = N := ⟨_, rfl⟩
  rw [hN] at hlc hll ⊢
  have HN := Lib.hid hN
  have HR := Lib.hid hR
  clear hlo hb1 hlw hN hR
  go_wp2_with fail
  go_loopw [5, 6] (fun vo vi wr => ∃ (j n c : Nat) (A : Option Addr) (q : List Pt), vo = .slice A n c ∧ vi = .int .i64 (j : Int) ∧ j ≤ N ∧ n ≤ j ∧ Hid (q.length = n) ∧ Hid (R = (partsR (ls.drop j)).map (q ++ ·)) ∧ Hid (Own wr w1.heap.size 104 3 A n c (rpcells q)) ∧ Hid (Below w1.heap.size w1 wr)) (fun _ vi _ => N - (intOf vi).toNat)
  case atStart => exact ⟨0, 0, 0, none, [], rfl, rfl, by omega, by omega, rfl, by show _ = _; rw [List.drop_zero, HR.out]; cases R <;> rfl, Own.nil _ _ _ _, Below.refl _ _⟩
  case round =>
    obtain ⟨j, n, c, A, q, rfl, rfl, hj, hnj, Hn, Hq, Ho, Hb⟩ := hrel
    clear HR
    by_cases hjn : j < N
    · have hjl : j < ls.length := by rw [HN.out]; exact hjn
      have hdr := List.drop_eq_getElem_cons hjl
      obtain ⟨lb, lo, rfl, hlr⟩ := Hlr.out (by intro e; have := congrArg List.length e; rw [scells_len, List.length_nil] at this; omega)
      have cl0 := cell_keep Hb.out (hlr j _ (scells_get (List.getElem?_eq_getElem hjl)))
      have Hcl := Lib.hid (fun w' (hb : Below wr.heap.size wr w') => cell_keep (Hb.out.trans (hb.mono Hb.out.size)) (hlr j _ (scells_get (List.getElem?_eq_getElem hjl))))
      have hjI0 : (0 : Int) ≤ (j : Int) := by omega
      have hjI : (j : Int) < (N : Int) := by omega
      have hq := Hq.out
      rw [hdr] at hq
      generalize hgx : ls[j] = x at *
      have h37 : ((St8 x).toList == [37]) = decide (x = [37]) := cmp_lit x [37]
      have h95 : ((St8 x).toList == [95]) = decide (x = [95]) := cmp_lit x [95]
      have h92 : ((St8 x).toList == [92]) = decide (x = [92]) := cmp_lit x [92]
      clear hgx
      by_cases e92 : x = [92]
      · rw [decide_eq_false (by rw [e92]; decide)] at h37
        rw [decide_eq_false (by rw [e92]; decide)] at h95
        rw [decide_eq_true e92] at h92
        have E92 := Lib.hid e92
        clear e92
        by_cases hlast : j + 1 = N
        · have hlI : ((j : Int) + 1 == (N : Int)) = true := by rw [beq_iff_eq]; omega
          rw [List.drop_eq_nil_of_le (show ls.length ≤ j + 1 by rw [HN.out]; omega)] at hq
          have HRn : Hid (R = none) := by
            show _ = _
            rw [hq, E92.out]
            rfl
          have hbX : Below wr.heap.size wr (wr.alloc (.cells #[.bool false, .bool false, .string (St8 x)] 104)) := (Below.refl _ _).alloc (Nat.le_refl _) _
          have Hb2 := Lib.hid (Hb1.out.trans ((Hb.out.trans (hbX.mono Hb.out.size)).mono Hb1.out.size))
          have cl2 := Hcl.out _ hbX
          clear hq hdr hlr hbX Hq Hcl
          go_wp2_with fail
          go_ret2
          rw [HRn.out]
          exact ⟨⟨none, 0, 0, [], rfl, rfl, fun ps h => (by cases h), Own.nil _ _ _ _⟩, Hb2.out⟩
        · have hlI : ((j : Int) + 1 == (N : Int)) = false := by rw [beq_eq_false_iff_ne]; omega
          have hjl2 : j + 1 < ls.length := by rw [HN.out]; omega
          rw [E92.out, List.drop_eq_getElem_cons hjl2, partsR_esc] at hq
          have hyc := Lib.hid (fun w' (hb : Below wr.heap.size wr w') => cell_keep (Hb.out.trans (hb.mono Hb.out.size)) (hlr (j + 1) _ (scells_get (List.getElem?_eq_getElem hjl2))))
          generalize ls[j + 1] = y at *
          have hq := Lib.hid (map_cons hq)
          have hj1I0 : (0 : Int) ≤ (j : Int) + 1 := by omega
          have hj1I : (j : Int) + 1 < (N : Int) := by omega
          have hcast : ((j + 1 : Nat) : Int) = (j : Int) + 1 := by omega
          have hbX : Below wr.heap.size wr (wr.alloc (.cells #[.bool false, .bool false, .string (St8 y)] 104)) := (Below.refl _ _).alloc (Nat.le_refl _) _
          have hbX0 : Below wr.heap.size wr (wr.alloc (.cells #[.bool false, .bool false, .string (St8 x)] 104)) := (Below.refl _ _).alloc (Nat.le_refl _) _
          have cl1 := Hcl.out _ hbX
          have cl2 := Hcl.out _ hbX0
          have cy1 := hyc.out _ hbX
          have cy2 := hyc.out _ hbX0
          rw [show lo + (j + 1) = lo + (j + 1) from rfl] at cy1 cy2
          clear hyc
          have hb3 := Hb.out.trans (hbX.mono Hb.out.size)
          have hbW : Below (wr.alloc (.cells #[.bool false, .bool false, .string (St8 y)] 104)).heap.size (wr.alloc (.cells #[.bool false, .bool false, .string (St8 y)] 104)) ((wr.alloc (.cells #[.bool false, .bool false, .string (St8 y)] 104)).alloc (.cells #[.bool false, .bool false, .string (St8 y)] 104)) := (Below.refl _ _).alloc (Nat.le_refl _) _
          have hnew := (Blk.new (wr.alloc (.cells #[.bool false, .bool false, .string (St8 y)] 104)) 104 #[.bool false, .bool false, .string (St8 y)]).range
          rw [World.size_alloc] at hnew
          have ho3 := Own.below (Own.below Ho.out hbX) hbW
          have hb4 := hb3.trans (hbW.mono hb3.size)
          have hz4 := hb4.size
          have hpc : (rpcells q).length = n * 3 := by rw [rpcells_len, Hn.out]
          have Hap : Hid (rpcells q ++ [.bool false, .bool false, .string (St8 y)] = rpcells (q ++ [(Pt.mk 0 y)])) := by show _ = _; rw [rpcells_append]; rfl
          have Hql : Hid ((q ++ [(Pt.mk 0 y)]).length = n + 1) := by show _ = _; rw [List.length_append, Hn.out]; rfl
          clear hbX hbX0 hbW hb3 hdr hlr Hq Hcl Ho Hb
          go_wp2_with (first | (at_builtin; refine hold ?_) | (at_make; refine hold ?_))
          (with_reducible refine unhold ?_)
          refine wpList_apd rfl _ _ _ rfl Erpt w1.heap.size _ n _ (rpcells q) rfl ho3 _ 1 _ [.bool false, .bool false, .string (St8 y)] rfl rfl (fun _ => ⟨_, _, rfl, hnew⟩) (by simp [Value.oneCell']) (n + 1) rfl _ rfl (by omega) (by omega) hz4 ?_
          intro A5 c5 w9 ho10 hg10 _
          have Hb10 := Lib.hid (hb4.grown hg10 hb4.size ho3.row_ge)
          rw [Hap.out] at ho10
          have Ho10 := Lib.hid ho10
          clear hnew ho3 hb4 ho10 hg10
          go_wp2_with fail
          go_roundw
          case rel => exact ⟨j + 2, n + 1, c5, A5, _, rfl, by go_num, by omega, by omega, Hql, hq, Ho10, Hb10⟩
          case measure => simp [intOf]; omega
      · rw [decide_eq_false e92] at h92
        rw [partsR_cons e92] at hq
        by_cases e37 : x = [37]
        · rw [decide_eq_true e37] at h37
          rw [decide_eq_false (by rw [e37]; decide)] at h95
          have hpr : partR x = partR [37] := by rw [e37]
          rw [hpr] at hq
          clear e37 e92
          have hq := Lib.hid (map_cons hq)
          have hbX : Below wr.heap.size wr (wr.alloc (.cells #[.bool true, .bool false, .string ⟨#[]⟩] 104)) := (Below.refl _ _).alloc (Nat.le_refl _) _
          have hbX0 : Below wr.heap.size wr (wr.alloc (.cells #[.bool false, .bool false, .string (St8 x)] 104)) := (Below.refl _ _).alloc (Nat.le_refl _) _
          have cl1 := Hcl.out _ hbX
          have cl2 := Hcl.out _ hbX0
          have hb3 := Hb.out.trans (hbX.mono Hb.out.size)
          have hbW : Below (wr.alloc (.cells #[.bool true, .bool false, .string ⟨#[]⟩] 104)).heap.size (wr.alloc (.cells #[.bool true, .bool false, .string ⟨#[]⟩] 104)) ((wr.alloc (.cells #[.bool true, .bool false, .string ⟨#[]⟩] 104)).alloc (.cells #[.bool true, .bool false, .string ⟨#[]⟩] 104)) := (Below.refl _ _).alloc (Nat.le_refl _) _
          have hnew := (Blk.new (wr.alloc (.cells #[.bool true, .bool false, .string ⟨#[]⟩] 104)) 104 #[.bool true, .bool false, .string ⟨#[]⟩]).range
          rw [World.size_alloc] at hnew
          have ho3 := Own.below (Own.below Ho.out hbX) hbW
          have hb4 := hb3.trans (hbW.mono hb3.size)
          have hz4 := hb4.size
          have hpc : (rpcells q).length = n * 3 := by rw [rpcells_len, Hn.out]
          have Hap : Hid (rpcells q ++ [.bool true, .bool false, .string ⟨#[]⟩] = rpcells (q ++ [(partR [37])])) := by show _ = _; rw [rpcells_append]; rfl
          have Hql : Hid ((q ++ [(partR [37])]).length = n + 1) := by show _ = _; rw [List.length_append, Hn.out]; rfl
          clear hbX hbX0 hbW hb3 hdr hlr Hq Hcl Ho Hb
          go_wp2_with (first | (at_builtin; refine hold ?_) | (at_make; refine hold ?_))
          (with_reducible refine unhold ?_)
          refine wpList_apd rfl _ _ _ rfl Erpt w1.heap.size _ n _ (rpcells q) rfl ho3 _ 1 _ [.bool true, .bool false, .string ⟨#[]⟩] rfl rfl (fun _ => ⟨_, _, rfl, hnew⟩) (by simp [Value.oneCell']) (n + 1) rfl _ rfl (by omega) (by omega) hz4 ?_
          intro A5 c5 w9 ho10 hg10 _
          have Hb10 := Lib.hid (hb4.grown hg10 hb4.size ho3.row_ge)
          rw [Hap.out] at ho10
          have Ho10 := Lib.hid ho10
          clear hnew ho3 hb4 ho10 hg10
          go_wp2_with fail
          go_roundw
          case rel => exact ⟨j + 1, n + 1, c5, A5, _, rfl, by go_num, by omega, by omega, Hql, hq, Ho10, Hb10⟩
          case measure => simp [intOf]; omega
        · by_cases e95 : x = [95]
          · rw [decide_eq_false e37] at h37
            rw [decide_eq_true e95] at h95
            have hpr : partR x = partR [95] := by rw [e95]
            rw [hpr] at hq
            clear e37 e92 e95
            have hq := Lib.hid (map_cons hq)
            have hbX : Below wr.heap.size wr (wr.alloc (.cells #[.bool false, .bool true, .string ⟨#[]⟩] 104)) := (Below.refl _ _).alloc (Nat.le_refl _) _
            have hbX0 : Below wr.heap.size wr (wr.alloc (.cells #[.bool false, .bool false, .string (St8 x)] 104)) := (Below.refl _ _).alloc (Nat.le_refl _) _
            have cl1 := Hcl.out _ hbX
            have cl2 := Hcl.out _ hbX0
            have hb3 := Hb.out.trans (hbX.mono Hb.out.size)
            have hbW : Below (wr.alloc (.cells #[.bool false, .bool true, .string ⟨#[]⟩] 104)).heap.size (wr.alloc (.cells #[.bool false, .bool true, .string ⟨#[]⟩] 104)) ((wr.alloc (.cells #[.bool false, .bool true, .string ⟨#[]⟩] 104)).alloc (.cells #[.bool false, .bool true, .string ⟨#[]⟩] 104)) := (Below.refl _ _).alloc (Nat.le_refl _) _
            have hnew := (Blk.new (wr.alloc (.cells #[.bool false, .bool true, .string ⟨#[]⟩] 104)) 104 #[.bool false, .bool true, .string ⟨#[]⟩]).range
            rw [World.size_alloc] at hnew
            have ho3 := Own.below (Own.below Ho.out hbX) hbW
            have hb4 := hb3.trans (hbW.mono hb3.size)
            have hz4 := hb4.size
            have hpc : (rpcells q).length = n * 3 := by rw [rpcells_len, Hn.out]
            have Hap : Hid (rpcells q ++ [.bool false, .bool true, .string ⟨#[]⟩] = rpcells (q ++ [(partR [95])])) := by show _ = _; rw [rpcells_append]; rfl
            have Hql : Hid ((q ++ [(partR [95])]).length = n + 1) := by show _ = _; rw [List.length_append, Hn.out]; rfl
            clear hbX hbX0 hbW hb3 hdr hlr Hq Hcl Ho Hb
            go_wp2_with (first | (at_builtin; refine hold ?_) | (at_make; refine hold ?_))
            (with_reducible refine unhold ?_)
            refine wpList_apd rfl _ _ _ rfl Erpt w1.heap.size _ n _ (rpcells q) rfl ho3 _ 1 _ [.bool false, .bool true, .string ⟨#[]⟩] rfl rfl (fun _ => ⟨_, _, rfl, hnew⟩) (by simp [Value.oneCell']) (n + 1) rfl _ rfl (by omega) (by omega) hz4 ?_
            intro A5 c5 w9 ho10 hg10 _
            have Hb10 := Lib.hid (hb4.grown hg10 hb4.size ho3.row_ge)
            rw [Hap.out] at ho10
            have Ho10 := Lib.hid ho10
            clear hnew ho3 hb4 ho10 hg10
            go_wp2_with fail
            go_roundw
            case rel => exact ⟨j + 1, n + 1, c5, A5, _, rfl, by go_num, by omega, by omega, Hql, hq, Ho10, Hb10⟩
            case measure => simp [intOf]; omega
          · rw [decide_eq_false e37] at h37
            rw [decide_eq_false e95] at h95
            have hpr : partR x = ⟨0, x⟩ := by unfold partR; rw [if_neg e37, if_neg e95]
            rw [hpr] at hq
            clear e37 e92 e95
            have hq := Lib.hid (map_cons hq)
            have hbX : Below wr.heap.size wr (wr.alloc (.cells #[.bool false, .bool false, .string (St8 x)] 104)) := (Below.refl _ _).alloc (Nat.le_refl _) _
            have hbX0 : Below wr.heap.size wr (wr.alloc (.cells #[.bool false, .bool false, .string (St8 x)] 104)) := (Below.refl _ _).alloc (Nat.le_refl _) _
            have cl1 := Hcl.out _ hbX
            have cl2 := Hcl.out _ hbX0
            have hb3 := Hb.out.trans (hbX.mono Hb.out.size)
            have hbW : Below (wr.alloc (.cells #[.bool false, .bool false, .string (St8 x)] 104)).heap.size (wr.alloc (.cells #[.bool false, .bool false, .string (St8 x)] 104)) ((wr.alloc (.cells #[.bool false, .bool false, .string (St8 x)] 104)).alloc (.cells #[.bool false, .bool false, .string (St8 x)] 104)) := (Below.refl _ _).alloc (Nat.le_refl _) _
            have hnew := (Blk.new (wr.alloc (.cells #[.bool false, .bool false, .string (St8 x)] 104)) 104 #[.bool false, .bool false, .string (St8 x)]).range
            rw [World.size_alloc] at hnew
            have ho3 := Own.below (Own.below Ho.out hbX) hbW
            have hb4 := hb3.trans (hbW.mono hb3.size)
            have hz4 := hb4.size
            have hpc : (rpcells q).length = n * 3 := by rw [rpcells_len, Hn.out]
            have Hap : Hid (rpcells q ++ [.bool false, .bool false, .string (St8 x)] = rpcells (q ++ [(Pt.mk 0 x)])) := by show _ = _; rw [rpcells_append]; rfl
            have Hql : Hid ((q ++ [(Pt.mk 0 x)]).length = n + 1) := by show _ = _; rw [List.length_append, Hn.out]; rfl
            clear hbX hbX0 hbW hb3 hdr hlr Hq Hcl Ho Hb
            go_wp2_with (first | (at_builtin; refine hold ?_) | (at_make; refine hold ?_))
            (with_reducible refine unhold ?_)
            refine wpList_apd rfl _ _ _ rfl Erpt w1.heap.size _ n _ (rpcells q) rfl ho3 _ 1 _ [.bool false, .bool false, .string (St8 x)] rfl rfl (fun _ => ⟨_, _, rfl, hnew⟩) (by simp [Value.oneCell']) (n + 1) rfl _ rfl (by omega) (by omega) hz4 ?_
            intro A5 c5 w9 ho10 hg10 _
            have Hb10 := Lib.hid (hb4.grown hg10 hb4.size ho3.row_ge)
            rw [Hap.out] at ho10
            have Ho10 := Lib.hid ho10
            clear hnew ho3 hb4 ho10 hg10
            go_wp2_with fail
            go_roundw
            case rel => exact ⟨j + 1, n + 1, c5, A5, _, rfl, by go_num, by omega, by omega, Hql, hq, Ho10, Hb10⟩
            case measure => simp [intOf]; omega
    · obtain rfl : j = N := by omega
      have HRf : Hid (R = some q) := by
        show _ = _
        rw [Hq.out, List.drop_eq_nil_of_le (show ls.length ≤ j by rw [HN.out]; omega), partsR, Option.map_some, List.append_nil]
      have Hb2 := Lib.hid (Hb1.out.trans (Hb.out.mono Hb1.out.size))
      have Ho2 := Lib.hid (Ho.out.lower Hb1.out.size)
      clear Hq
      go_wp2_with fail
      go_ret2
      rw [HRf.out]
      exact ⟨⟨A, n, c, q, rfl, Hn.out, fun ps h => (by cases h; rfl), Ho2.out⟩, Hb2.out⟩

set_option maxRecDepth 100000 in
theorem rcheck_c (s : List UInt8) (w : World) (hs : s.length ≤ 1000000) (hT : Lib.Utf8Tabs 0 1 w) :
    Calls Tryd.prog 52 #[.string (St8 s)] w fun e w' => e = .returned (.int .i64 (if (partsM s).2 = true then 0 else 30)) ∧ Below w.heap.size w w' := by
  have hp := Lib.hid (rparts_c s w hs hT)
  have hpe := partsR_letters s
  have hiso : (rparts s).isSome = (partsM s).2 := by
    unfold rparts
    rw [hpe]
    cases (partsM s).2 <;> rfl
  rw [hiso] at hp
  obtain ⟨V, hV⟩ : ∃ V : Int, V = if (partsM s).2 = true then 0 else 30 := ⟨_, rfl⟩
  rw [← hV]
  generalize (partsM s).2 = b at *
  have HV := Lib.hid hV
  clear hT hpe hiso hV
  cases b
  · go_enter Tryd.func52, Tryd.ntmps52
    go_wp2_with fail
    refine hp.out.mono ?_
    rintro e w1 ⟨⟨A, n, c, q, rfl, _, _, _⟩, hb1⟩
    go_wp2_with fail
    go_ret
    rw [HV.out]
    exact ⟨rfl, hb1⟩
  · go_enter Tryd.func52, Tryd.ntmps52
    go_wp2_with fail
    refine hp.out.mono ?_
    rintro e w1 ⟨⟨A, n, c, q, rfl, _, _, _⟩, hb1⟩
    go_wp2_with fail
    go_ret
    rw [HV.out]
    exact ⟨rfl, hb1⟩
end Go.Proofs.YtipnglidepfkbaaDoor
