/- Patterns: going back to the last place of any letters alone finds what a table of all places finds. Plain laws. -/
import Derived.Test.YtipnglidepfkbaaDoorAkM
namespace Go.Proofs.YtipnglidepfkbaaDoor

/-- Whether a part is like a letter. -/
def one (p : Pt) (x : List UInt8) : Bool := decide (p.kind = 95 ∨ p = ⟨0, x⟩)
/-- Whether parts are like letters, by looking at all. -/
def mm : List Pt → List (List UInt8) → Bool
  | [], t => decide (t = [])
  | p :: ps, t => if p.kind = 37 then (List.range (t.length + 1)).any fun j => mm ps (t.drop j) else match t with
    | [] => false
    | x :: t' => one p x && mm ps t'
theorem mm_star {p : Pt} (h : p.kind = 37) (ps : List Pt) (t : List (List UInt8)) : mm (p :: ps) t = true ↔ ∃ j, j ≤ t.length ∧ mm ps (t.drop j) = true := by
  rw [mm.eq_def]
  dsimp only
  rw [if_pos h, List.any_eq_true]
  constructor
  · rintro ⟨j, hj, hm⟩
    exact ⟨j, by have := List.mem_range.1 hj; omega, hm⟩
  · rintro ⟨j, hj, hm⟩
    exact ⟨j, List.mem_range.2 (by omega), hm⟩
theorem mm_one {p : Pt} (h : ¬ p.kind = 37) (ps : List Pt) (x : List UInt8) (t : List (List UInt8)) : mm (p :: ps) (x :: t) = (one p x && mm ps t) := by rw [mm, if_neg h]
theorem mm_none {p : Pt} (h : ¬ p.kind = 37) (ps : List Pt) : mm (p :: ps) [] = false := by rw [mm, if_neg h]

/-- Parts that stand for one letter each take just as many. -/
theorem mm_seg (ps : List Pt) (t : List (List UInt8)) : ∀ (d b f : Nat), b + d ≤ ps.length → f ≤ t.length → (∀ q p, b ≤ q → q < b + d → ps[q]? = some p → ¬ p.kind = 37) → mm (ps.drop b) (t.drop f) = true → f + d ≤ t.length ∧ mm (ps.drop (b + d)) (t.drop (f + d)) = true
  | 0, b, f, _, hf, _, hm => ⟨hf, hm⟩
  | d + 1, b, f, hb, hf, hq, hm => by
    have hbl : b < ps.length := by omega
    rw [List.drop_eq_getElem_cons hbl] at hm
    have hk := hq b _ (Nat.le_refl _) (by omega) (List.getElem?_eq_getElem hbl)
    by_cases hfl : f < t.length
    · rw [List.drop_eq_getElem_cons hfl, mm_one hk] at hm
      have := mm_seg ps t d (b + 1) (f + 1) (by omega) (by omega) (fun q p h1 h2 => hq q p (by omega) (by omega)) (Bool.and_eq_true_iff.1 hm).2
      rw [show b + (d + 1) = b + 1 + d from by omega, show f + (d + 1) = f + 1 + d from by omega]
      exact this
    · rw [List.drop_eq_nil_of_le (show t.length ≤ f by omega), mm_none hk] at hm
      cases hm

theorem mm_all_star : ∀ ps : List Pt, mm ps [] = ps.all fun p => p.kind == 37
  | [] => by simp [mm]
  | p :: ps => by
    rw [List.all_cons, ← mm_all_star ps]
    by_cases h : p.kind = 37
    · have h1 := mm_star h ps []
      have h2 : (p.kind == 37) = true := by simpa using h
      rw [h2, Bool.true_and]
      apply Bool.eq_iff_iff.2
      rw [h1]
      constructor
      · rintro ⟨j, _, hm⟩
        simpa using hm
      · intro hm
        exact ⟨0, by simp, by simpa using hm⟩
    · rw [mm_none h]
      have h2 : (p.kind == 37) = false := by simpa using h
      rw [h2, Bool.false_and]

theorem mloop_all (ps : List Pt) (t : List (List UInt8)) : ∀ (n i k b f : Nat), f ≤ k → k ≤ t.length → i ≤ ps.length → b ≤ i → (0 < b → i - b = k - f ∧ ∀ q p, b ≤ q → q < i → ps[q]? = some p → ¬ p.kind = 37) →
    (t.length - f) * (ps.length + 1) + (ps.length - i) < n →
    (mloop ps t n i k b f = true ↔ mm (ps.drop i) (t.drop k) = true ∨ (0 < b ∧ ∃ f', f < f' ∧ f' ≤ t.length ∧ mm (ps.drop b) (t.drop f') = true))
  | 0, i, k, b, f, _, _, _, _, _, hn => by omega
  | n + 1, i, k, b, f, hfk, hkt, hip, hbi, hseg, hn => by
    -- what the old way back could find lies behind place i, too
    have hdom : 0 < b → ∀ f', f < f' → f' ≤ t.length → mm (ps.drop b) (t.drop f') = true → ∃ d, k < d ∧ d ≤ t.length ∧ mm (ps.drop i) (t.drop d) = true := fun hb f' h1 h2 h3 => by
      obtain ⟨e1, e2⟩ := hseg hb
      obtain ⟨h4, h5⟩ := mm_seg ps t (i - b) b f' (by omega) h2 (fun q p g1 g2 g3 => e2 q p g1 (by omega) g3) h3
      rw [show b + (i - b) = i from by omega] at h5
      exact ⟨f' + (i - b), by omega, h4, h5⟩
    rw [mloop]
    by_cases hk : k < t.length
    · rw [if_pos hk]
      by_cases hs : (ps[i]?).map Pt.kind = some 37
      · rw [if_pos hs]
        obtain ⟨p, hp, hpk⟩ := Option.map_eq_some_iff.1 hs
        have hi := (List.getElem?_eq_some_iff.1 hp).1
        have hge := (List.getElem?_eq_some_iff.1 hp).2
        have hμ : (t.length - k) * (ps.length + 1) ≤ (t.length - f) * (ps.length + 1) := Nat.mul_le_mul_right _ (by omega)
        rw [mloop_all ps t n (i + 1) k (i + 1) k (Nat.le_refl _) hkt (by omega) (Nat.le_refl _) (fun _ => ⟨by omega, fun q p g1 g2 => by omega⟩) (by omega)]
        rw [List.drop_eq_getElem_cons hi, hge]
        have hst := mm_star hpk (ps.drop (i + 1)) (t.drop k)
        constructor
        · rintro (h | ⟨_, f', h1, h2, h3⟩)
          · exact .inl (hst.2 ⟨0, by omega, by rw [List.drop_zero]; exact h⟩)
          · refine .inl (hst.2 ⟨f' - k, by rw [List.length_drop]; omega, ?_⟩)
            rw [List.drop_drop, show k + (f' - k) = f' from by omega]
            exact h3
        · intro h
          have hm : mm (p :: ps.drop (i + 1)) (t.drop k) = true := by
            rcases h with h | ⟨hb, f', h1, h2, h3⟩
            · exact h
            · obtain ⟨d, d1, d2, d3⟩ := hdom hb f' h1 h2 h3
              rw [List.drop_eq_getElem_cons hi, hge] at d3
              obtain ⟨j, j1, j2⟩ := (mm_star hpk (ps.drop (i + 1)) (t.drop d)).1 d3
              refine hst.2 ⟨d - k + j, by rw [List.length_drop] at j1 ⊢; omega, ?_⟩
              rw [List.drop_drop] at j2 ⊢
              rw [show k + (d - k + j) = d + j from by omega]
              exact j2
          obtain ⟨j, j1, j2⟩ := hst.1 hm
          rw [List.length_drop] at j1
          rw [List.drop_drop] at j2
          rcases Nat.eq_zero_or_pos j with h0 | h0
          · subst h0
            exact .inl j2
          · exact .inr ⟨by omega, k + j, by omega, by omega, j2⟩
      · rw [if_neg hs]
        have hgd : t.getD k [] = t[k] := by simp [List.getD, List.getElem?_eq_getElem hk]
        by_cases ho : (ps[i]?).map Pt.kind = some 95 ∨ ps[i]? = some ⟨0, t.getD k []⟩
        · rw [if_pos ho]
          have hi : i < ps.length := by
            rcases ho with ho | ho
            · obtain ⟨p, hp, _⟩ := Option.map_eq_some_iff.1 ho
              exact (List.getElem?_eq_some_iff.1 hp).1
            · exact (List.getElem?_eq_some_iff.1 ho).1
          have hpi := List.getElem?_eq_getElem hi
          rw [hpi] at hs ho
          have hnk : ¬ ps[i].kind = 37 := fun h => hs (by rw [Option.map_some, h])
          have hone : one ps[i] t[k] = true := by
            unfold one
            rw [decide_eq_true_iff]
            rcases ho with ho | ho
            · rw [Option.map_some] at ho
              exact .inl (Option.some.inj ho)
            · rw [hgd] at ho
              exact .inr (Option.some.inj ho)
          rw [mloop_all ps t n (i + 1) (k + 1) b f (by omega) (by omega) (by omega) (by omega) (fun hb => ⟨by have := (hseg hb).1; omega, fun q p g1 g2 g3 => by
            by_cases hq : q < i
            · exact (hseg hb).2 q p g1 hq g3
            · obtain rfl : q = i := by omega
              rw [hpi] at g3
              rw [← Option.some.inj g3]
              exact hnk⟩) (by omega)]
          rw [List.drop_eq_getElem_cons hi, List.drop_eq_getElem_cons hk, mm_one hnk, hone, Bool.true_and]
        · rw [if_neg ho]
          have hno : ¬ mm (ps.drop i) (t.drop k) = true := by
            intro hm
            rw [List.drop_eq_getElem_cons hk] at hm
            by_cases hi : i < ps.length
            · have hpi := List.getElem?_eq_getElem hi
              rw [hpi] at hs ho
              have hnk : ¬ ps[i].kind = 37 := fun h => hs (by rw [Option.map_some, h])
              rw [List.drop_eq_getElem_cons hi, mm_one hnk] at hm
              have h1 := (Bool.and_eq_true_iff.1 hm).1
              unfold one at h1
              rcases of_decide_eq_true h1 with h2 | h2
              · exact ho (.inl (by rw [Option.map_some, h2]))
              · exact ho (.inr (by rw [hgd, h2]))
            · rw [List.drop_eq_nil_of_le (by omega), mm] at hm
              cases of_decide_eq_true hm
          by_cases hb : 0 < b
          · rw [if_pos hb]
            have hμ : (t.length - f) * (ps.length + 1) = (t.length - (f + 1)) * (ps.length + 1) + (ps.length + 1) := by
              rw [show t.length - f = (t.length - (f + 1)) + 1 from by omega, Nat.succ_mul]
            rw [mloop_all ps t n b (f + 1) b (f + 1) (Nat.le_refl _) (by omega) (by omega) (Nat.le_refl _) (fun _ => ⟨by omega, fun q p g1 g2 => by omega⟩) (by omega)]
            constructor
            · rintro (h | ⟨_, f', h1, h2, h3⟩)
              · exact .inr ⟨hb, f + 1, by omega, by omega, h⟩
              · exact .inr ⟨hb, f', by omega, h2, h3⟩
            · rintro (h | ⟨_, f', h1, h2, h3⟩)
              · exact absurd h hno
              · by_cases he : f' = f + 1
                · subst he; exact .inl h3
                · exact .inr ⟨hb, f', by omega, h2, h3⟩
          · rw [if_neg hb]
            constructor
            · intro h; cases h
            · rintro (h | ⟨h, _⟩)
              · exact absurd h hno
              · exact absurd h hb
    · rw [if_neg hk]
      rw [List.drop_eq_nil_of_le (show t.length ≤ k by omega), ← mm_all_star]
      constructor
      · intro h; exact .inl h
      · rintro (h | ⟨hb, f', h1, h2, h3⟩)
        · exact h
        · obtain ⟨d, d1, d2, _⟩ := hdom hb f' h1 h2 h3
          omega

theorem mloop_mm (ps : List Pt) (t : List (List UInt8)) : mloop ps t ((t.length + 1) * (ps.length + 1)) 0 0 0 0 = mm ps t := by
  apply Bool.eq_iff_iff.2
  rw [mloop_all ps t _ 0 0 0 0 (by omega) (by omega) (by omega) (by omega) (fun h => by omega) (by rw [Nat.succ_mul, Nat.sub_zero, Nat.sub_zero]; omega)]
  rw [List.drop_zero, List.drop_zero]
  constructor
  · rintro (h | ⟨h, _⟩)
    · exact h
    · omega
  · exact .inl

/-! ### The table -/
def nextS (can : Nat → Bool) : Nat → Bool
  | 0 => can 0
  | k + 1 => can (k + 1) || nextS can k
def nextO (p : Pt) (t : List (List UInt8)) (can : Nat → Bool) : Nat → Bool
  | 0 => false
  | k + 1 => can k && one p (t.getD k [])
def dpStep (p : Pt) (t : List (List UInt8)) (can : Nat → Bool) : Nat → Bool := if p.kind = 37 then nextS can else nextO p t can
def dp (t : List (List UInt8)) : List Pt → (Nat → Bool) → Nat → Bool
  | [], can => can
  | p :: ps, can => dp t ps (dpStep p t can)
theorem nextS_iff (can : Nat → Bool) : ∀ k, nextS can k = true ↔ ∃ j, j ≤ k ∧ can j = true
  | 0 => by
    rw [nextS]
    refine ⟨fun h => ⟨0, Nat.le_refl _, h⟩, fun ⟨j, hj, h⟩ => ?_⟩
    obtain rfl : j = 0 := by omega
    exact h
  | k + 1 => by
    rw [nextS, Bool.or_eq_true, nextS_iff can k]
    constructor
    · rintro (h | ⟨j, hj, h⟩)
      · exact ⟨k + 1, Nat.le_refl _, h⟩
      · exact ⟨j, by omega, h⟩
    · rintro ⟨j, hj, h⟩
      by_cases e : j = k + 1
      · subst e; exact .inl h
      · exact .inr ⟨j, by omega, h⟩
theorem dp_iff (t : List (List UInt8)) : ∀ (ps : List Pt) (can : Nat → Bool), dp t ps can t.length = true ↔ ∃ k, k ≤ t.length ∧ can k = true ∧ mm ps (t.drop k) = true
  | [], can => by
    rw [dp]
    constructor
    · intro h
      exact ⟨t.length, Nat.le_refl _, h, by rw [List.drop_eq_nil_of_le (Nat.le_refl _)]; rfl⟩
    · rintro ⟨k, h1, h2, h3⟩
      rw [mm] at h3
      have h3 := of_decide_eq_true h3
      rw [List.drop_eq_nil_iff] at h3
      obtain rfl : k = t.length := by omega
      exact h2
  | p :: ps, can => by
    rw [dp, dp_iff t ps]
    by_cases hp : p.kind = 37
    · rw [dpStep, if_pos hp]
      constructor
      · rintro ⟨k, h1, h2, h3⟩
        obtain ⟨j, hj, hc⟩ := (nextS_iff can k).1 h2
        refine ⟨j, by omega, hc, (mm_star hp _ _).2 ⟨k - j, by rw [List.length_drop]; omega, ?_⟩⟩
        rw [List.drop_drop, show j + (k - j) = k from by omega]
        exact h3
      · rintro ⟨j, h1, h2, h3⟩
        obtain ⟨d, hd, hm⟩ := (mm_star hp _ _).1 h3
        rw [List.length_drop] at hd
        rw [List.drop_drop] at hm
        exact ⟨j + d, by omega, (nextS_iff can _).2 ⟨j, by omega, h2⟩, hm⟩
    · rw [dpStep, if_neg hp]
      constructor
      · rintro ⟨k, h1, h2, h3⟩
        cases k with
        | zero => rw [nextO] at h2; cases h2
        | succ k =>
          rw [nextO] at h2
          obtain ⟨g1, g2⟩ := Bool.and_eq_true_iff.1 h2
          have hk : k < t.length := by omega
          have hgd : t.getD k [] = t[k] := by simp [List.getD, List.getElem?_eq_getElem hk]
          rw [hgd] at g2
          exact ⟨k, by omega, g1, by rw [List.drop_eq_getElem_cons hk, mm_one hp, g2, h3]; rfl⟩
      · rintro ⟨k, h1, h2, h3⟩
        by_cases hk : k < t.length
        · have hgd : t.getD k [] = t[k] := by simp [List.getD, List.getElem?_eq_getElem hk]
          rw [List.drop_eq_getElem_cons hk, mm_one hp] at h3
          obtain ⟨g1, g2⟩ := Bool.and_eq_true_iff.1 h3
          exact ⟨k + 1, by omega, by rw [nextO, h2, hgd, g1]; rfl, g2⟩
        · rw [List.drop_eq_nil_of_le (by omega), mm_none hp] at h3
          cases h3
def can0 : Nat → Bool := fun k => decide (k = 0)
theorem dp_mm (ps : List Pt) (t : List (List UInt8)) : dp t ps can0 t.length = mm ps t := by
  apply Bool.eq_iff_iff.2
  rw [dp_iff]
  constructor
  · rintro ⟨k, h1, h2, h3⟩
    obtain rfl : k = 0 := of_decide_eq_true h2
    exact h3
  · intro h
    exact ⟨0, by omega, by decide, h⟩
theorem matchM_dp (p s : List UInt8) : matchM p s = ((partsM p).2 && dp (letters s) (partsM p).1 can0 (letters s).length) := by
  unfold matchM
  rw [mloop_mm, dp_mm]

/-! ### A pattern's parts, by the letters alone -/
def partR (x : List UInt8) : Pt := if x = [37] then ⟨37, []⟩ else if x = [95] then ⟨95, []⟩ else ⟨0, x⟩
def partsR : List (List UInt8) → Option (List Pt)
  | [] => some []
  | [x] => if x = [92] then none else some [partR x]
  | x :: y :: t => if x = [92] then (partsR t).map (⟨0, y⟩ :: ·) else (partsR (y :: t)).map (partR x :: ·)
/-- A letter's rune and its bytes, of what is below 128. -/
def lok (x : Nat × List UInt8) : Prop := (x.1 = 37 ↔ x.2 = [37]) ∧ (x.1 = 92 ↔ x.2 = [92]) ∧ (x.1 = 95 ↔ x.2 = [95])
theorem dec_lok {l : List UInt8} (h : l ≠ []) : lok ((dec l).1, l.take (dec l).2) := by
  obtain ⟨b, t, rfl⟩ := List.exists_cons_of_ne_nil h
  have hb : b.toNat < 256 := b.toNat_lt
  have key : ∀ c : UInt8, c.toNat < 128 → ((dec (b :: t)).1 = c.toNat ↔ (b :: t).take (dec (b :: t)).2 = [c]) := by
    intro c hc
    have e : dec (b :: t) = Lib.decodeN (b :: t).length b.toNat ((b :: t).getD 1 0).toNat ((b :: t).getD 2 0).toNat ((b :: t).getD 3 0).toNat := rfl
    by_cases h1 : b.toNat < 128
    · have e2 : dec (b :: t) = (b.toNat, 1) := by rw [e]; unfold Lib.decodeN; rw [if_pos h1]
      rw [e2]
      constructor
      · intro h2
        have : b = c := UInt8.toNat_inj.1 h2
        rw [this]; rfl
      · intro h2
        have : b = c := by simpa using h2
        rw [this]
    · have hr : 128 ≤ (dec (b :: t)).1 := by
        rw [e]
        unfold Lib.decodeN
        rw [if_neg h1]
        repeat' split
        all_goals simp only
        all_goals omega
      have hbd := dec_bounds (b :: t) (by simp)
      constructor
      · intro h2; omega
      · intro h2
        obtain ⟨k, hk⟩ : ∃ k, (dec (b :: t)).2 = k + 1 := ⟨(dec (b :: t)).2 - 1, by omega⟩
        rw [hk, List.take_succ_cons] at h2
        injection h2 with h2
        rw [h2] at h1
        omega
  exact ⟨key 37 (by decide), key 92 (by decide), key 95 (by decide)⟩
theorem lets_lok : ∀ (n : Nat) (l : List UInt8), l.length ≤ n → ∀ x ∈ lets l, lok x
  | 0, l, h => by
    obtain rfl : l = [] := List.eq_nil_of_length_eq_zero (by omega)
    rw [lets_nil]
    simp
  | n + 1, l, h => by
    by_cases e : l = []
    · subst e; rw [lets_nil]; simp
    · have hb := dec_bounds l e
      rw [lets_cons e]
      intro x hx
      rcases List.mem_cons.1 hx with rfl | hx
      · exact dec_lok e
      · exact lets_lok n _ (by rw [List.length_drop]; omega) x hx
theorem stepP_plain {x : Nat × List UInt8} (h : lok x) (hx : ¬ x.2 = [92]) : stepP false x = (false, [partR x.2]) := by
  obtain ⟨h1, h2, h3⟩ := h
  unfold stepP partR
  rw [if_neg (by decide), if_neg (fun e => hx (h2.1 e))]
  by_cases e1 : x.2 = [37]
  · rw [if_pos (.inl (h1.2 e1)), if_pos e1, h1.2 e1]; rfl
  · by_cases e2 : x.2 = [95]
    · rw [if_pos (.inr (h3.2 e2)), if_neg e1, if_pos e2, h3.2 e2]; rfl
    · rw [if_neg (fun e => e.elim (fun e => e1 (h1.1 e)) (fun e => e2 (h3.1 e))), if_neg e1, if_neg e2]
theorem stepP_esc {x : Nat × List UInt8} (h : lok x) (hx : x.2 = [92]) : stepP false x = (true, []) := by
  unfold stepP
  rw [if_neg (by decide), if_pos (h.2.1.2 hx)]
theorem partsR_eq : ∀ (l : List (Nat × List UInt8)), (∀ x ∈ l, lok x) → partsR (l.map Prod.snd) = if (partsF false l).2 = true then some (partsF false l).1 else none
  | [], _ => rfl
  | [x], h => by
    have hx := h x (List.mem_cons_self ..)
    show (if x.2 = [92] then none else some [partR x.2]) = _
    by_cases e : x.2 = [92]
    · rw [if_pos e, partsF, stepP_esc hx e]
      rfl
    · rw [if_neg e, partsF, stepP_plain hx e]
      rfl
  | x :: y :: t, h => by
    have hx := h x (List.mem_cons_self ..)
    show (if x.2 = [92] then (partsR (t.map Prod.snd)).map (⟨0, y.2⟩ :: ·) else (partsR ((y :: t).map Prod.snd)).map (partR x.2 :: ·)) = _
    by_cases e : x.2 = [92]
    · rw [if_pos e, partsR_eq t (fun z hz => h z (List.mem_cons_of_mem _ (List.mem_cons_of_mem _ hz))), partsF, stepP_esc hx e]
      dsimp only
      rw [partsF]
      have : stepP true y = (false, [⟨0, y.2⟩]) := by unfold stepP; rw [if_pos rfl]
      rw [this]
      dsimp only
      split <;> rfl
    · rw [if_neg e, partsR_eq (y :: t) (fun z hz => h z (List.mem_cons_of_mem _ hz))]
      have hx2 : partsF false (x :: y :: t) = ((stepP false x).2 ++ (partsF (stepP false x).1 (y :: t)).1, (partsF (stepP false x).1 (y :: t)).2) := rfl
      rw [hx2, stepP_plain hx e]
      dsimp only
      split <;> rfl
theorem partsR_letters (p : List UInt8) : partsR (letters p) = if (partsM p).2 = true then some (partsM p).1 else none := partsR_eq _ (lets_lok _ p (Nat.le_refl _))
end Go.Proofs.YtipnglidepfkbaaDoor
