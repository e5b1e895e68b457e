/- Places that tell their words again, and places among others: plain laws. The first texts of a list, and how long bytes are: plain laws. -/
import Derived.Test.YtojppmnmhdgnnaaGreatMDiMO
namespace Go.Proofs.YtojppmnmhdgnnaaGreat
set_option linter.unusedVariables false
set_option linter.unusedSimpArgs false

/-- The reference's: the first place of a text, if the words may be. -/
theorem find_place (l : List (List UInt8)) (s : List UInt8) : findM l s = if placeM l s < 0 ∨ rightW l = false then none else some (placeM l s).toNat := by
  unfold findM
  by_cases hr : rightW l = true
  · by_cases hm : s ∈ l
    · rw [if_pos ⟨hr, hm⟩, placeM_mem (rightW_strict hr) hm, if_neg (by rw [hr]; rintro (h | h); omega; cases h)]
      rfl
    · rw [if_neg (fun h => hm h.2), placeM_not hm, if_pos (.inl (by decide))]
  · rw [if_neg (fun h => hr h.1), if_pos (.inr (by simpa using hr))]
/-- What a search for a word comes to. -/
theorem find_search {l : List (List UInt8)} (hr : rightW l = true) (s : List UInt8) : findM l s = if l[wahd s l]? = some s then some (wahd s l) else none := by
  unfold findM
  by_cases hm : s ∈ l
  · rw [if_pos ⟨hr, hm⟩, if_pos (wahd_idx (rightW_strict hr) hm).2]
  · rw [if_neg (fun h => hm h.2), if_neg (wahd_not hm)]

/-! ### A text's place tells it again -/
theorem back_at {l w : List (List UInt8)} {p : List Int} (h : ofM l = some (w, p)) {i : Nat} (hi : i < l.length) :
    ∃ k : Nat, p.getD i 0 = (k : Int) ∧ k < w.length ∧ w.getD k [] = l.getD i [] ∧ findM w (l.getD i []) = some k ∧ fromM w (l.getD i []) = k := by
  obtain ⟨hr, _, hp, hm⟩ := ofM_right h
  have hs := rightW_strict hr
  have hx : l[i] ∈ w := hm _ (List.getElem_mem hi)
  have hg : l.getD i [] = l[i] := by rw [List.getD, List.getElem?_eq_getElem hi]; rfl
  obtain ⟨_, h2⟩ := wahd_idx hs hx
  refine ⟨wahd l[i] w, ?_, wahd_lt_len hs hx, ?_, ?_, ?_⟩
  · rw [hp, List.getD, List.getElem?_map, List.getElem?_eq_getElem hi]
    exact placeM_mem hs hx
  · rw [hg, List.getD, h2]
    rfl
  · rw [hg]
    unfold findM
    rw [if_pos ⟨hr, hx⟩]
  · rw [hg, fromM_mem hr]
theorem back_len {l w : List (List UInt8)} {p : List Int} (h : ofM l = some (w, p)) : p.length = l.length := by
  obtain ⟨_, _, hp, _⟩ := ofM_right h
  rw [hp, List.length_map]
theorem back_order {l w : List (List UInt8)} {p : List Int} (h : ofM l = some (w, p)) {i j : Nat} (hi : i < l.length) (hj : j < l.length) : (p.getD i 0 < p.getD j 0 ↔ l.getD i [] < l.getD j []) := by
  obtain ⟨hr, _, hp, hm⟩ := ofM_right h
  have hs := rightW_strict hr
  have hx : l[i] ∈ w := hm _ (List.getElem_mem hi)
  have hy : l[j] ∈ w := hm _ (List.getElem_mem hj)
  have gi : l.getD i [] = l[i] := by rw [List.getD, List.getElem?_eq_getElem hi]; rfl
  have gj : l.getD j [] = l[j] := by rw [List.getD, List.getElem?_eq_getElem hj]; rfl
  have pi : p.getD i 0 = (wahd l[i] w : Int) := by
    rw [hp, List.getD, List.getElem?_map, List.getElem?_eq_getElem hi]
    exact placeM_mem hs hx
  have pj : p.getD j 0 = (wahd l[j] w : Int) := by
    rw [hp, List.getD, List.getElem?_map, List.getElem?_eq_getElem hj]
    exact placeM_mem hs hy
  rw [gi, gj, pi, pj, ← wahd_mono hs hx hy]
  omega

/-! ### Places among others -/
def turnM (f t : List (List UInt8)) : Option (List Int) := if rightW f = true ∧ rightW t = true then some (f.map (placeM t)) else none
/-- What Turn asks for each word. -/
theorem turn_find {t : List (List UInt8)} (hr : rightW t = true) (s : List UInt8) : (match findM t s with | some k => (k : Int) | none => -1) = placeM t s := by
  unfold findM
  by_cases hm : s ∈ t
  · rw [if_pos ⟨hr, hm⟩, placeM_mem (rightW_strict hr) hm]
  · rw [if_neg (fun h => hm h.2), placeM_not hm]
theorem turn_self {a : List (List UInt8)} (hr : rightW a = true) {x : Nat} (hx : x < a.length) : placeM a (a.getD x []) = (x : Int) := by
  have hs := rightW_strict hr
  have g : a.getD x [] = a[x] := by rw [List.getD, List.getElem?_eq_getElem hx]; rfl
  rw [g, placeM_mem hs (List.getElem_mem hx), wahd_self hs x hx]
theorem turn_lt {b : List (List UInt8)} (hr : rightW b = true) (s : List UInt8) : placeM b s < b.length := by
  by_cases hm : s ∈ b
  · rw [placeM_mem (rightW_strict hr) hm]
    have := wahd_lt_len (rightW_strict hr) hm
    omega
  · rw [placeM_not hm]
    omega
theorem turn_at {b : List (List UInt8)} (hr : rightW b = true) {s : List UInt8} (h : 0 ≤ placeM b s) : (placeM b s).toNat < b.length ∧ b.getD (placeM b s).toNat [] = s := by
  have hs := rightW_strict hr
  by_cases hm : s ∈ b
  · rw [placeM_mem hs hm]
    refine ⟨wahd_lt_len hs hm, ?_⟩
    rw [List.getD, Int.toNat_natCast, (wahd_idx hs hm).2]
    rfl
  · rw [placeM_not hm] at h
    omega
theorem turn_get {f t : List (List UInt8)} {x : Nat} (hx : x < f.length) : (f.map (placeM t)).getD x 0 = placeM t (f.getD x []) := by
  rw [List.getD, List.getElem?_map, List.getElem?_eq_getElem hx, List.getD, List.getElem?_eq_getElem hx]
  rfl
/-- What is turned twice is turned to the last. -/
theorem turn_twice {a b c : List (List UInt8)} (hb : rightW b = true) {x : Nat} (hx : x < a.length) (h : 0 ≤ (a.map (placeM b)).getD x 0) :
    b.getD ((a.map (placeM b)).getD x 0).toNat [] = a.getD x [] ∧ (b.map (placeM c)).getD ((a.map (placeM b)).getD x 0).toNat 0 = (a.map (placeM c)).getD x 0 := by
  rw [turn_get hx] at h ⊢
  obtain ⟨h1, h2⟩ := turn_at hb h
  rw [turn_get h1, turn_get hx, h2]
  exact ⟨rfl, rfl⟩
end Go.Proofs.YtojppmnmhdgnnaaGreat
namespace Go.Proofs.YtojppmnmhdgnnaaGreat
set_option linter.unusedVariables false
set_option linter.unusedSimpArgs false

/-- Up to 300 texts, of up to 1,100 bytes each, so many together. -/
def fewF : Nat → Nat → List (List UInt8) → List (List UInt8)
  | _, _, [] => []
  | i, left, x :: t => if 300 ≤ i ∨ 1100 < x.length ∨ left < x.length then [] else x :: fewF (i + 1) (left - x.length) t
def fewM (l : List (List UInt8)) : List (List UInt8) := fewF 0 30000 l
theorem few_step {l : List (List UInt8)} {j : Nat} (left : Nat) (hj : j < l.length) : fewF j left (l.drop j) = if 300 ≤ j ∨ 1100 < l[j].length ∨ left < l[j].length then [] else l[j] :: fewF (j + 1) (left - l[j].length) (l.drop (j + 1)) := by
  rw [List.drop_eq_getElem_cons hj, fewF]
theorem few_le : ∀ (l : List (List UInt8)) (i left : Nat), i ≤ 300 → (fewF i left l).length ≤ 300 - i ∧ (∀ x ∈ fewF i left l, x.length ≤ 1100) ∧ (fewF i left l).flatten.length ≤ left
  | [], _, _, _ => by simp [fewF]
  | x :: t, i, left, hi => by
    rw [fewF]
    split
    · simp
    · rename_i h
      obtain ⟨h1, h2, h3⟩ := few_le t (i + 1) (left - x.length) (by omega)
      refine ⟨by rw [List.length_cons]; omega, fun y hy => ?_, ?_⟩
      · rcases List.mem_cons.1 hy with rfl | hy
        · omega
        · exact h2 y hy
      · rw [List.flatten_cons, List.length_append]
        omega
theorem fewM_le (l : List (List UInt8)) : (fewM l).length ≤ 300 ∧ (∀ x ∈ fewM l, x.length ≤ 1100) ∧ (fewM l).flatten.length ≤ 30000 := few_le l 0 30000 (by omega)
/-- They are the list's beginning. -/
theorem few_take : ∀ (l : List (List UInt8)) (i left : Nat), fewF i left l = l.take (fewF i left l).length
  | [], _, _ => by simp [fewF]
  | x :: t, i, left => by
    rw [fewF]
    split
    · simp
    · rw [List.length_cons, List.take_succ_cons, ← few_take t (i + 1) (left - x.length)]
theorem fewM_take (l : List (List UInt8)) : fewM l = l.take (fewM l).length := few_take l 0 30000

/-! ### How long bytes are -/
theorem putF_len : ∀ (l : List (List UInt8)) (last : List UInt8), last.length ≤ 1024 → (∀ x ∈ l, x.length ≤ 1024) → (putF last l).length ≤ l.length * 1042
  | [], _, _, _ => by simp [putF]
  | w :: t, last, hl, h => by
    have hw := h w (List.mem_cons_self ..)
    have hc := comM_le last w
    have h1 := numB_len (n := comM last w) (by omega)
    have hd : (w.drop (comM last w)).length ≤ 1024 := by rw [List.length_drop]; omega
    have h2 := numB_len (n := (w.drop (comM last w)).length) (by omega)
    have h3 := putF_len t w hw (fun x hx => h x (List.mem_cons_of_mem _ hx))
    rw [putF, List.length_append, List.length_append, List.length_append, List.length_cons]
    omega
theorem putM_len {l : List (List UInt8)} {b : List UInt8} (h : putM l = some b) : b.length ≤ 208409 := by
  unfold putM at h
  split at h
  · rename_i hr
    obtain ⟨h1, h2⟩ := rightW_le hr
    have h3 := putF_len l [] (by simp) h1
    have h4 := numB_len (n := l.length) (by omega)
    cases h
    rw [List.length_append]
    have : l.length * 1042 ≤ 200 * 1042 := Nat.mul_le_mul_right _ h2
    omega
  · cases h
theorem putF_snoc : ∀ (l : List (List UInt8)) (last w : List UInt8), putF last (l ++ [w]) = putF last l ++ (numB (comM (l.getLastD last) w) ++ (numB (w.drop (comM (l.getLastD last) w)).length ++ w.drop (comM (l.getLastD last) w)))
  | [], last, w => by simp [putF]
  | x :: t, last, w => by
    rw [List.cons_append, putF, putF, putF_snoc t x w]
    have : (x :: t).getLastD last = t.getLastD x := by cases t <;> rfl
    rw [this]
    simp only [List.append_assoc]
/-- What Take holds: the last word, and the bytes ahead, are no more than there were. -/
theorem takeNum_size {l u : List UInt8} {n : Nat} (h : takeNum l = some (n, u)) : u.length < l.length := (takeNum_lt h).2
theorem takeText_size {l s u : List UInt8} (h : takeText l = some (s, u)) : s.length + u.length < l.length := by
  have h1 := (takeText_inv h).1
  have h2 : 1 ≤ (numB s.length).length := by
    unfold numB
    split <;> simp
  rw [h1, List.length_append, List.length_append]
  omega
end Go.Proofs.YtojppmnmhdgnnaaGreat
