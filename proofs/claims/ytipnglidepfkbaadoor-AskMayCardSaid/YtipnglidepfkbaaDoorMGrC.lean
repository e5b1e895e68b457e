/- Texts letter by letter, and patterns: plain data. What is asked, node by node: plain data. -/
import Derived.Test.YtipnglidepfkbaaDoorMGrB
import Derived.Lib.DecodeN
import Derived.Laws.RangeAny
namespace Go.Proofs.YtipnglidepfkbaaDoor
set_option linter.unusedVariables false
set_option linter.unusedSimpArgs false

/-- The rune that bytes begin with, and how many of them it has. -/
def dec (l : List UInt8) : Nat × Nat := Lib.decodeN l.length (l.getD 0 0).toNat (l.getD 1 0).toNat (l.getD 2 0).toNat (l.getD 3 0).toNat
theorem St8_get (s : List UInt8) (i : Nat) : (St8 s).get! i = s.getD i 0 := by
  show s.toArray[i]! = _
  by_cases h : i < s.length
  · simp [List.getD, h, getElem!_pos]
  · simp [List.getD, h, getElem!_neg]
    rfl
theorem dec_at (s : List UInt8) (pos : Nat) : Utf8.decode (St8 s) pos = dec (s.drop pos) := by
  rw [Lib.decode_at, St8_size]
  unfold dec
  simp only [St8_get, List.length_drop, List.getD, List.getElem?_drop, Nat.add_zero]
theorem dec_bounds (l : List UInt8) (h : l ≠ []) : 1 ≤ (dec l).2 ∧ (dec l).2 ≤ l.length ∧ (dec l).2 ≤ 4 := by
  have hl : 0 < l.length := by
    cases l with
    | nil => exact absurd rfl h
    | cons => simp
  unfold dec Lib.decodeN
  repeat' split
  all_goals simp only
  all_goals omega
theorem dec_rune (l : List UInt8) : (dec l).1 ≤ 1114111 := by
  have hb : ∀ k, (l.getD k 0).toNat < 256 := fun k => (l.getD k 0).toNat_lt
  have h0 := hb 0
  have h1 := hb 1
  have h2 := hb 2
  have h3 := hb 3
  unfold dec Lib.decodeN
  repeat' split
  all_goals simp only
  all_goals omega

/-- A text, letter by letter, each with its rune. -/
def lets (l : List UInt8) : List (Nat × List UInt8) := if _h : l = [] then [] else ((dec l).1, l.take (dec l).2) :: lets (l.drop (dec l).2)
termination_by l.length
decreasing_by
  have := dec_bounds l _h
  rw [List.length_drop]
  omega
theorem lets_nil : lets [] = [] := by rw [lets, dif_pos rfl]
theorem lets_cons {l : List UInt8} (h : l ≠ []) : lets l = ((dec l).1, l.take (dec l).2) :: lets (l.drop (dec l).2) := by rw [lets, dif_neg h]
theorem lets_len : ∀ (n : Nat) (l : List UInt8), l.length ≤ n → (lets l).length ≤ l.length
  | 0, l, h => by
    obtain rfl : l = [] := List.eq_nil_of_length_eq_zero (by omega)
    rw [lets_nil]
    exact Nat.le_refl _
  | n + 1, l, h => by
    by_cases e : l = []
    · subst e; rw [lets_nil]; exact Nat.le_refl _
    · have hb := dec_bounds l e
      have := lets_len n (l.drop (dec l).2) (by rw [List.length_drop]; omega)
      rw [lets_cons e, List.length_cons]
      rw [List.length_drop] at this
      omega
theorem lets_le (l : List UInt8) : (lets l).length ≤ l.length := lets_len _ l (Nat.le_refl _)
theorem lets_mem : ∀ (n : Nat) (l : List UInt8), l.length ≤ n → ∀ x ∈ lets l, x.2.length ≤ 4 ∧ x.1 ≤ 1114111
  | 0, l, h => by
    obtain rfl : l = [] := List.eq_nil_of_length_eq_zero (by omega)
    rw [lets_nil]
    simp
  | n + 1, l, h => by
    by_cases e : l = []
    · subst e; rw [lets_nil]; simp
    · have hb := dec_bounds l e
      rw [lets_cons e]
      intro x hx
      rcases List.mem_cons.1 hx with rfl | hx
      · exact ⟨by show (l.take _).length ≤ 4; rw [List.length_take]; omega, dec_rune l⟩
      · exact lets_mem n _ (by rw [List.length_drop]; omega) x hx
/-- The letters alone. -/
def letters (s : List UInt8) : List (List UInt8) := (lets s).map Prod.snd
theorem letters_nil : letters [] = [] := by unfold letters; rw [lets_nil]; rfl
theorem letters_cons {l : List UInt8} (h : l ≠ []) : letters l = l.take (dec l).2 :: letters (l.drop (dec l).2) := by unfold letters; rw [lets_cons h]; rfl
theorem letters_le (l : List UInt8) : (letters l).length ≤ l.length := by unfold letters; rw [List.length_map]; exact lets_le l

/-- A letter of a pattern: 37: any letters, 95: one, 0: itself. -/
structure Pt where
  kind : Int
  letter : List UInt8
deriving DecidableEq
namespace Pt
def cells (p : Pt) : List Value := [.int .i32 p.kind, .string (St8 p.letter)]
end Pt
def pcells (l : List Pt) : List Value := l.flatMap Pt.cells
theorem pcells_append (r q : List Pt) : pcells (r ++ q) = pcells r ++ pcells q := by simp [pcells]
theorem pcells_len : ∀ r : List Pt, (pcells r).length = r.length * 2
  | [] => rfl
  | v :: r => by
    have := pcells_len r
    unfold pcells at *
    rw [List.flatMap_cons, List.length_append, this, List.length_cons]
    show 2 + _ = _
    omega
theorem pcells_get : ∀ (r : List Pt) (j : Nat) (v : Pt) (t : Nat), r[j]? = some v → t < 2 → (pcells r)[j * 2 + t]? = v.cells[t]?
  | [], j, a, t, h, _ => by simp at h
  | x :: l, 0, a, t, h, ht => by
    obtain rfl : x = a := by simpa using h
    unfold pcells
    rw [List.flatMap_cons, Nat.zero_mul, Nat.zero_add, List.getElem?_append_left (by exact ht)]
  | x :: l, j + 1, a, t, h, ht => by
    have := pcells_get l j a t (by simpa using h) ht
    unfold pcells at *
    rw [List.flatMap_cons, List.getElem?_append_right (by show 2 ≤ _; omega), show (j + 1) * 2 + t - x.cells.length = j * 2 + t from by show (j + 1) * 2 + t - 2 = _; omega]
    exact this
/-- One letter more of a pattern: whether the next one stands for itself; and the part that this one is, if it is one. -/
def stepP (esc : Bool) (x : Nat × List UInt8) : Bool × List Pt :=
  if esc then (false, [⟨0, x.2⟩]) else if x.1 = 92 then (true, []) else if x.1 = 37 ∨ x.1 = 95 then (false, [⟨x.1, []⟩]) else (false, [⟨0, x.2⟩])
/-- A pattern's parts; false: it is none. -/
def partsF : Bool → List (Nat × List UInt8) → List Pt × Bool
  | e, [] => ([], !e)
  | e, x :: t => ((stepP e x).2 ++ (partsF (stepP e x).1 t).1, (partsF (stepP e x).1 t).2)
def partsM (p : List UInt8) : List Pt × Bool := partsF false (lets p)
theorem partsF_len : ∀ (l : List (Nat × List UInt8)) (e : Bool), (partsF e l).1.length ≤ l.length
  | [], e => by simp [partsF]
  | x :: t, e => by
    have h := partsF_len t (stepP e x).1
    have h2 : (stepP e x).2.length ≤ 1 := by
      unfold stepP
      repeat' split
      all_goals simp
    rw [partsF, List.length_append, List.length_cons]
    omega
theorem partsM_len (p : List UInt8) : (partsM p).1.length ≤ p.length := Nat.le_trans (partsF_len _ _) (lets_le p)

/-- Whether parts are like letters, by going on from some place: of what any letters were (from: b - 1; from there: f) the least is taken first. n: at most so many steps. -/
def mloop (ps : List Pt) (t : List (List UInt8)) : Nat → Nat → Nat → Nat → Nat → Bool
  | 0, _, _, _, _ => false
  | n + 1, i, k, b, f =>
    if k < t.length then
      if (ps[i]?).map Pt.kind = some 37 then mloop ps t n (i + 1) k (i + 1) k
      else if (ps[i]?).map Pt.kind = some 95 ∨ (ps[i]? = some ⟨0, t.getD k []⟩) then mloop ps t n (i + 1) (k + 1) b f
      else if 0 < b then mloop ps t n b (f + 1) b (f + 1)
      else false
    else (ps.drop i).all fun p => p.kind == 37
def matchM (p s : List UInt8) : Bool := (partsM p).2 && mloop (partsM p).1 (letters s) (((letters s).length + 1) * ((partsM p).1.length + 1)) 0 0 0 0
end Go.Proofs.YtipnglidepfkbaaDoor
namespace Go.Proofs.YtipnglidepfkbaaDoor
set_option linter.unusedVariables false
set_option linter.unusedSimpArgs false
open Go.RowKit

/-- A node: 1: true, 2: and, 3: or, 4: not, 5: equal, 6: less, 7: like, 8: nothing. -/
structure Nd where
  op : Int
  col : Int
  kids : Int
  v : Va
deriving DecidableEq
namespace Nd
def cells (n : Nd) : List Value := [.int .u8 n.op, .int .i64 n.col, .int .i64 n.kids, .int .u8 n.v.k, .int .i64 n.v.n, .string (St8 n.v.s)]
def agg (n : Nd) : Value := .agg #[.int .u8 n.op, .int .i64 n.col, .int .i64 n.kids, .int .u8 n.v.k, .int .i64 n.v.n, .string (St8 n.v.s)]
structure ok (n : Nd) : Prop where
  op : 0 ≤ n.op ∧ n.op ≤ 255
  col : -9223372036854775808 ≤ n.col ∧ n.col ≤ 9223372036854775807
  kids : -9223372036854775808 ≤ n.kids ∧ n.kids ≤ 9223372036854775807
  v : n.v.ok
def asks (n : Nd) : Bool := decide (5 ≤ n.op ∧ n.op ≤ 8)
def many (n : Nd) : Bool := decide (n.op = 2 ∨ n.op = 3)
/-- How many parts it has. -/
def parts (n : Nd) : Int := if n.op = 2 ∨ n.op = 3 then n.kids else if n.op = 4 then 1 else 0
end Nd
def ncells (l : List Nd) : List Value := l.flatMap Nd.cells
theorem ncells_append (r q : List Nd) : ncells (r ++ q) = ncells r ++ ncells q := by simp [ncells]
theorem ncells_len : ∀ r : List Nd, (ncells r).length = r.length * 6
  | [] => rfl
  | v :: r => by
    have := ncells_len r
    unfold ncells at *
    rw [List.flatMap_cons, List.length_append, this, List.length_cons]
    show 6 + _ = _
    omega
theorem ncells_get : ∀ (r : List Nd) (j : Nat) (v : Nd) (t : Nat), r[j]? = some v → t < 6 → (ncells r)[j * 6 + t]? = v.cells[t]?
  | [], j, a, t, h, _ => by simp at h
  | x :: l, 0, a, t, h, ht => by
    obtain rfl : x = a := by simpa using h
    unfold ncells
    rw [List.flatMap_cons, Nat.zero_mul, Nat.zero_add, List.getElem?_append_left (by exact ht)]
  | x :: l, j + 1, a, t, h, ht => by
    have := ncells_get l j a t (by simpa using h) ht
    unfold ncells at *
    rw [List.flatMap_cons, List.getElem?_append_right (by show 6 ≤ _; omega), show (j + 1) * 6 + t - x.cells.length = j * 6 + t from by show (j + 1) * 6 + t - 6 = _; omega]
    exact this
theorem ncells_one (r : List Nd) : ∀ u ∈ ncells r, u.oneCell' = true := by
  intro u hu
  obtain ⟨v, _, h⟩ := List.mem_flatMap.1 hu
  simp [Nd.cells] at h
  rcases h with rfl | rfl | rfl | rfl | rfl | rfl <;> rfl

/-- Whether a node may be, of columns of some kinds. -/
def mayN (kinds : List Int) (n : Nd) : Bool :=
  if n.kids ≠ 0 ∧ n.op ≠ 2 ∧ n.op ≠ 3 then false
  else if (n.asks = false ∧ (n.col ≠ 0 ∨ n.v ≠ Va.nil)) ∨ (n.asks = true ∧ (n.col < 0 ∨ (kinds.length : Int) ≤ n.col)) then false
  else if n.op = 1 ∨ n.op = 4 then true
  else if n.op = 2 ∨ n.op = 3 then decide (1 ≤ n.kids ∧ n.kids ≤ 40)
  else if n.op = 5 ∨ n.op = 6 then rightV n.v && decide (n.v.k = kinds.getD n.col.toNat 0)
  else if n.op = 7 then rightV n.v && decide (n.v.k = 3) && decide (kinds.getD n.col.toNat 0 = 3) && (partsM n.v.s).2
  else if n.op = 8 then decide (n.v = Va.nil) else false
/-- Whether so many parts, one behind another, are just all. -/
def ends : Int → List Nd → Bool
  | need, [] => decide (need ≤ 0)
  | need, n :: t => decide (0 < need) && ends (need + (n.parts - 1)) t
def rightN (kinds : List Int) (l : List Nd) : Bool := decide (1 ≤ l.length ∧ l.length ≤ 40) && l.all (mayN kinds) && ends 1 l
/-- Whether nodes are one with its parts, and ask nothing of columns that there are not. -/
def fineN (cols : Nat) (n : Nd) : Bool :=
  decide (1 ≤ n.op ∧ n.op ≤ 8) && !(n.asks && decide (n.col < 0 ∨ (cols : Int) ≤ n.col)) && !(n.many && decide (n.kids < 1 ∨ 40 < n.kids))
def wholeN (cols : Nat) (l : List Nd) : Bool := decide (1 ≤ l.length ∧ l.length ≤ 40) && l.all (fineN cols) && ends 1 l

/-- A truth of two values: unknown, if one is nothing. -/
def truthV (a b : Va) (is : Bool) : Int := if a.k = 0 ∨ b.k = 0 then 1 else if is then 2 else 0
def known (a : Int) : Int := if 2 < a then 1 else a
def andT (a b : Int) : Int := min (known a) (known b)
def orT (a b : Int) : Int := max (known a) (known b)
def notT (a : Int) : Int := 2 - known a
/-- What comes of a node that asks a column. -/
def leafM (n : Nd) (v : Va) : Int :=
  if n.op = 5 then truthV v n.v (decide (cmpVa v n.v = 0)) else if n.op = 6 then truthV v n.v (decide (cmpVa v n.v < 0)) else if n.op = 8 then (if v.k = 0 then 2 else 0)
  else if v.k = 0 then 1 else if matchM n.v.s v.s then 2 else 0
def joinT (op : Int) (out x : Int) : Int := if op = 2 then andT out x else if op = 3 then orT out x else notT x
def firstT (op : Int) : Int := if op = 3 then 0 else 2
/-- So many parts, one behind another, joined. g: what comes of the first part of nodes, and the nodes behind it. -/
def evs (g : List Nd → Option (Int × List Nd)) (op : Int) : Nat → Int → List Nd → Option (Int × List Nd)
  | 0, a, t => some (a, t)
  | k + 1, a, t => match g t with
    | none => none
    | some (x, t1) => evs g op k (joinT op a x) t1
/-- What comes of the first part of nodes, and the nodes behind it; nothing, if there is none (or it is deeper than f). -/
def ev (r : RowM) : Nat → List Nd → Option (Int × List Nd)
  | 0, _ => none
  | _ + 1, [] => none
  | f + 1, n :: t => if n.asks then some (leafM n (colAt r n.col), t) else evs (ev r f) n.op n.parts.toNat (firstT n.op) t
def evalM (l : List Nd) (r : RowM) : Int := if wholeN r.length l = true then ((ev r l.length l).map Prod.fst).getD 1 else 1
end Go.Proofs.YtipnglidepfkbaaDoor
