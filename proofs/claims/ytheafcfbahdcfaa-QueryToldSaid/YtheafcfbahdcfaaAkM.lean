/- Texts letter by letter, and patterns: plain data. -/
import Derived.Test.YtheafcfbahdcfaaJoM
import Derived.Lib.DecodeN
import Derived.Laws.RangeAny
namespace Go.Proofs.Ytheafcfbahdcfaa

/-- The rune that bytes begin with, and how many of them it has. -/
def dec (l : List UInt8) : Nat × Nat := Lib.decodeN l.length (l.getD 0 0).toNat (l.getD 1 0).toNat (l.getD 2 0).toNat (l.getD 3 0).toNat
theorem St8_get (s : List UInt8) (i : Nat) : (St8 s).get! i = s.getD i 0 := by
  show s.toArray[i]! = _
  by_cases h : i < s.length
  · simp [List.getD, h, getElem!_pos]
  · simp [List.getD, h, getElem!_neg]
    rfl
theorem dec_at (s : List UInt8) (pos : Nat) : Utf8.decode (St8 s) pos = dec (s.drop pos) := by
  rw [Lib.decode_at, St8_size]
  unfold dec
  simp only [St8_get, List.length_drop, List.getD, List.getElem?_drop, Nat.add_zero]
theorem dec_bounds (l : List UInt8) (h : l ≠ []) : 1 ≤ (dec l).2 ∧ (dec l).2 ≤ l.length ∧ (dec l).2 ≤ 4 := by
  have hl : 0 < l.length := by
    cases l with
    | nil => exact absurd rfl h
    | cons => simp
  unfold dec Lib.decodeN
  repeat' split
  all_goals simp only
  all_goals omega
theorem dec_rune (l : List UInt8) : (dec l).1 ≤ 1114111 := by
  have hb : ∀ k, (l.getD k 0).toNat < 256 := fun k => (l.getD k 0).toNat_lt
  have h0 := hb 0
  have h1 := hb 1
  have h2 := hb 2
  have h3 := hb 3
  unfold dec Lib.decodeN
  repeat' split
  all_goals simp only
  all_goals omega

/-- A text, letter by letter, each with its rune. -/
def lets (l : List UInt8) : List (Nat × List UInt8) := if _h : l = [] then [] else ((dec l).1, l.take (dec l).2) :: lets (l.drop (dec l).2)
termination_by l.length
decreasing_by
  have := dec_bounds l _h
  rw [List.length_drop]
  omega
theorem lets_nil : lets [] = [] := by rw [lets, dif_pos rfl]
theorem lets_cons {l : List UInt8} (h : l ≠ []) : lets l = ((dec l).1, l.take (dec l).2) :: lets (l.drop (dec l).2) := by rw [lets, dif_neg h]
theorem lets_len : ∀ (n : Nat) (l : List UInt8), l.length ≤ n → (lets l).length ≤ l.length
  | 0, l, h => by
    obtain rfl : l = [] := List.eq_nil_of_length_eq_zero (by omega)
    rw [lets_nil]
    exact Nat.le_refl _
  | n + 1, l, h => by
    by_cases e : l = []
    · subst e; rw [lets_nil]; exact Nat.le_refl _
    · have hb := dec_bounds l e
      have := lets_len n (l.drop (dec l).2) (by rw [List.length_drop]; omega)
      rw [lets_cons e, List.length_cons]
      rw [List.length_drop] at this
      omega
theorem lets_le (l : List UInt8) : (lets l).length ≤ l.length := lets_len _ l (Nat.le_refl _)
theorem lets_mem : ∀ (n : Nat) (l : List UInt8), l.length ≤ n → ∀ x ∈ lets l, x.2.length ≤ 4 ∧ x.1 ≤ 1114111
  | 0, l, h => by
    obtain rfl : l = [] := List.eq_nil_of_length_eq_zero (by omega)
    rw [lets_nil]
    simp
  | n + 1, l, h => by
    by_cases e : l = []
    · subst e; rw [lets_nil]; simp
    · have hb := dec_bounds l e
      rw [lets_cons e]
      intro x hx
      rcases List.mem_cons.1 hx with rfl | hx
      · exact ⟨by show (l.take _).length ≤ 4; rw [List.length_take]; omega, dec_rune l⟩
      · exact lets_mem n _ (by rw [List.length_drop]; omega) x hx
/-- The letters alone. -/
def letters (s : List UInt8) : List (List UInt8) := (lets s).map Prod.snd
theorem letters_nil : letters [] = [] := by unfold letters; rw [lets_nil]; rfl
theorem letters_cons {l : List UInt8} (h : l ≠ []) : letters l = l.take (dec l).2 :: letters (l.drop (dec l).2) := by unfold letters; rw [lets_cons h]; rfl
theorem letters_le (l : List UInt8) : (letters l).length ≤ l.length := by unfold letters; rw [List.length_map]; exact lets_le l

/-- A letter of a pattern: 37: any letters, 95: one, 0: itself. -/
structure Pt where
  kind : Int
  letter : List UInt8
deriving DecidableEq
namespace Pt
def cells (p : Pt) : List Value := [.int .i32 p.kind, .string (St8 p.letter)]
end Pt
def pcells (l : List Pt) : List Value := l.flatMap Pt.cells
theorem pcells_append (r q : List Pt) : pcells (r ++ q) = pcells r ++ pcells q := by simp [pcells]
theorem pcells_len : ∀ r : List Pt, (pcells r).length = r.length * 2
  | [] => rfl
  | v :: r => by
    have := pcells_len r
    unfold pcells at *
    rw [List.flatMap_cons, List.length_append, this, List.length_cons]
    show 2 + _ = _
    omega
theorem pcells_get : ∀ (r : List Pt) (j : Nat) (v : Pt) (t : Nat), r[j]? = some v → t < 2 → (pcells r)[j * 2 + t]? = v.cells[t]?
  | [], j, a, t, h, _ => by simp at h
  | x :: l, 0, a, t, h, ht => by
    obtain rfl : x = a := by simpa using h
    unfold pcells
    rw [List.flatMap_cons, Nat.zero_mul, Nat.zero_add, List.getElem?_append_left (by exact ht)]
  | x :: l, j + 1, a, t, h, ht => by
    have := pcells_get l j a t (by simpa using h) ht
    unfold pcells at *
    rw [List.flatMap_cons, List.getElem?_append_right (by show 2 ≤ _; omega), show (j + 1) * 2 + t - x.cells.length = j * 2 + t from by show (j + 1) * 2 + t - 2 = _; omega]
    exact this
/-- One letter more of a pattern: whether the next one stands for itself; and the part that this one is, if it is one. -/
def stepP (esc : Bool) (x : Nat × List UInt8) : Bool × List Pt :=
  if esc then (false, [⟨0, x.2⟩]) else if x.1 = 92 then (true, []) else if x.1 = 37 ∨ x.1 = 95 then (false, [⟨x.1, []⟩]) else (false, [⟨0, x.2⟩])
/-- A pattern's parts; false: it is none. -/
def partsF : Bool → List (Nat × List UInt8) → List Pt × Bool
  | e, [] => ([], !e)
  | e, x :: t => ((stepP e x).2 ++ (partsF (stepP e x).1 t).1, (partsF (stepP e x).1 t).2)
def partsM (p : List UInt8) : List Pt × Bool := partsF false (lets p)
theorem partsF_len : ∀ (l : List (Nat × List UInt8)) (e : Bool), (partsF e l).1.length ≤ l.length
  | [], e => by simp [partsF]
  | x :: t, e => by
    have h := partsF_len t (stepP e x).1
    have h2 : (stepP e x).2.length ≤ 1 := by
      unfold stepP
      repeat' split
      all_goals simp
    rw [partsF, List.length_append, List.length_cons]
    omega
theorem partsM_len (p : List UInt8) : (partsM p).1.length ≤ p.length := Nat.le_trans (partsF_len _ _) (lets_le p)

/-- Whether parts are like letters, by going on from some place: of what any letters were (from: b - 1; from there: f) the least is taken first. n: at most so many steps. -/
def mloop (ps : List Pt) (t : List (List UInt8)) : Nat → Nat → Nat → Nat → Nat → Bool
  | 0, _, _, _, _ => false
  | n + 1, i, k, b, f =>
    if k < t.length then
      if (ps[i]?).map Pt.kind = some 37 then mloop ps t n (i + 1) k (i + 1) k
      else if (ps[i]?).map Pt.kind = some 95 ∨ (ps[i]? = some ⟨0, t.getD k []⟩) then mloop ps t n (i + 1) (k + 1) b f
      else if 0 < b then mloop ps t n b (f + 1) b (f + 1)
      else false
    else (ps.drop i).all fun p => p.kind == 37
def matchM (p s : List UInt8) : Bool := (partsM p).2 && mloop (partsM p).1 (letters s) (((letters s).length + 1) * ((partsM p).1.length + 1)) 0 0 0 0
end Go.Proofs.Ytheafcfbahdcfaa
