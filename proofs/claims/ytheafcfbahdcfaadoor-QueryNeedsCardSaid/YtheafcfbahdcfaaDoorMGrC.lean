/- Texts letter by letter, and patterns: plain data. What is asked, node by node: plain data. Columns that are asked for, rising: plain laws. Keys by which rows are ordered: plain data, and how they lie in memory. Tables, queries, and what these tell and need: plain data. -/
import Derived.Test.YtheafcfbahdcfaaDoorMGrB
import Derived.Lib.DecodeN
import Derived.Laws.RangeAny
import Derived.Lib.SlicesCompact
import Derived.Lib.RowBridge
import Derived.Test.YtheafcfbahdcfaaDoorMGrA
namespace Go.Proofs.YtheafcfbahdcfaaDoor
set_option linter.unusedVariables false
set_option linter.unusedSimpArgs false

/-- The rune that bytes begin with, and how many of them it has. -/
def dec (l : List UInt8) : Nat × Nat := Lib.decodeN l.length (l.getD 0 0).toNat (l.getD 1 0).toNat (l.getD 2 0).toNat (l.getD 3 0).toNat
theorem St8_get (s : List UInt8) (i : Nat) : (St8 s).get! i = s.getD i 0 := by
  show s.toArray[i]! = _
  by_cases h : i < s.length
  · simp [List.getD, h, getElem!_pos]
  · simp [List.getD, h, getElem!_neg]
    rfl
theorem dec_at (s : List UInt8) (pos : Nat) : Utf8.decode (St8 s) pos = dec (s.drop pos) := by
  rw [Lib.decode_at, St8_size]
  unfold dec
  simp only [St8_get, List.length_drop, List.getD, List.getElem?_drop, Nat.add_zero]
theorem dec_bounds (l : List UInt8) (h : l ≠ []) : 1 ≤ (dec l).2 ∧ (dec l).2 ≤ l.length ∧ (dec l).2 ≤ 4 := by
  have hl : 0 < l.length := by
    cases l with
    | nil => exact absurd rfl h
    | cons => simp
  unfold dec Lib.decodeN
  repeat' split
  all_goals simp only
  all_goals omega
theorem dec_rune (l : List UInt8) : (dec l).1 ≤ 1114111 := by
  have hb : ∀ k, (l.getD k 0).toNat < 256 := fun k => (l.getD k 0).toNat_lt
  have h0 := hb 0
  have h1 := hb 1
  have h2 := hb 2
  have h3 := hb 3
  unfold dec Lib.decodeN
  repeat' split
  all_goals simp only
  all_goals omega

/-- A text, letter by letter, each with its rune. -/
def lets (l : List UInt8) : List (Nat × List UInt8) := if _h : l = [] then [] else ((dec l).1, l.take (dec l).2) :: lets (l.drop (dec l).2)
termination_by l.length
decreasing_by
  have := dec_bounds l _h
  rw [List.length_drop]
  omega
theorem lets_nil : lets [] = [] := by rw [lets, dif_pos rfl]
theorem lets_cons {l : List UInt8} (h : l ≠ []) : lets l = ((dec l).1, l.take (dec l).2) :: lets (l.drop (dec l).2) := by rw [lets, dif_neg h]
theorem lets_len : ∀ (n : Nat) (l : List UInt8), l.length ≤ n → (lets l).length ≤ l.length
  | 0, l, h => by
    obtain rfl : l = [] := List.eq_nil_of_length_eq_zero (by omega)
    rw [lets_nil]
    exact Nat.le_refl _
  | n + 1, l, h => by
    by_cases e : l = []
    · subst e; rw [lets_nil]; exact Nat.le_refl _
    · have hb := dec_bounds l e
      have := lets_len n (l.drop (dec l).2) (by rw [List.length_drop]; omega)
      rw [lets_cons e, List.length_cons]
      rw [List.length_drop] at this
      omega
theorem lets_le (l : List UInt8) : (lets l).length ≤ l.length := lets_len _ l (Nat.le_refl _)
theorem lets_mem : ∀ (n : Nat) (l : List UInt8), l.length ≤ n → ∀ x ∈ lets l, x.2.length ≤ 4 ∧ x.1 ≤ 1114111
  | 0, l, h => by
    obtain rfl : l = [] := List.eq_nil_of_length_eq_zero (by omega)
    rw [lets_nil]
    simp
  | n + 1, l, h => by
    by_cases e : l = []
    · subst e; rw [lets_nil]; simp
    · have hb := dec_bounds l e
      rw [lets_cons e]
      intro x hx
      rcases List.mem_cons.1 hx with rfl | hx
      · exact ⟨by show (l.take _).length ≤ 4; rw [List.length_take]; omega, dec_rune l⟩
      · exact lets_mem n _ (by rw [List.length_drop]; omega) x hx
/-- The letters alone. -/
def letters (s : List UInt8) : List (List UInt8) := (lets s).map Prod.snd
theorem letters_nil : letters [] = [] := by unfold letters; rw [lets_nil]; rfl
theorem letters_cons {l : List UInt8} (h : l ≠ []) : letters l = l.take (dec l).2 :: letters (l.drop (dec l).2) := by unfold letters; rw [lets_cons h]; rfl
theorem letters_le (l : List UInt8) : (letters l).length ≤ l.length := by unfold letters; rw [List.length_map]; exact lets_le l

/-- A letter of a pattern: 37: any letters, 95: one, 0: itself. -/
structure Pt where
  kind : Int
  letter : List UInt8
deriving DecidableEq
namespace Pt
def cells (p : Pt) : List Value := [.int .i32 p.kind, .string (St8 p.letter)]
end Pt
def pcells (l : List Pt) : List Value := l.flatMap Pt.cells
theorem pcells_append (r q : List Pt) : pcells (r ++ q) = pcells r ++ pcells q := by simp [pcells]
theorem pcells_len : ∀ r : List Pt, (pcells r).length = r.length * 2
  | [] => rfl
  | v :: r => by
    have := pcells_len r
    unfold pcells at *
    rw [List.flatMap_cons, List.length_append, this, List.length_cons]
    show 2 + _ = _
    omega
theorem pcells_get : ∀ (r : List Pt) (j : Nat) (v : Pt) (t : Nat), r[j]? = some v → t < 2 → (pcells r)[j * 2 + t]? = v.cells[t]?
  | [], j, a, t, h, _ => by simp at h
  | x :: l, 0, a, t, h, ht => by
    obtain rfl : x = a := by simpa using h
    unfold pcells
    rw [List.flatMap_cons, Nat.zero_mul, Nat.zero_add, List.getElem?_append_left (by exact ht)]
  | x :: l, j + 1, a, t, h, ht => by
    have := pcells_get l j a t (by simpa using h) ht
    unfold pcells at *
    rw [List.flatMap_cons, List.getElem?_append_right (by show 2 ≤ _; omega), show (j + 1) * 2 + t - x.cells.length = j * 2 + t from by show (j + 1) * 2 + t - 2 = _; omega]
    exact this
/-- One letter more of a pattern: whether the next one stands for itself; and the part that this one is, if it is one. -/
def stepP (esc : Bool) (x : Nat × List UInt8) : Bool × List Pt :=
  if esc then (false, [⟨0, x.2⟩]) else if x.1 = 92 then (true, []) else if x.1 = 37 ∨ x.1 = 95 then (false, [⟨x.1, []⟩]) else (false, [⟨0, x.2⟩])
/-- A pattern's parts; false: it is none. -/
def partsF : Bool → List (Nat × List UInt8) → List Pt × Bool
  | e, [] => ([], !e)
  | e, x :: t => ((stepP e x).2 ++ (partsF (stepP e x).1 t).1, (partsF (stepP e x).1 t).2)
def partsM (p : List UInt8) : List Pt × Bool := partsF false (lets p)
theorem partsF_len : ∀ (l : List (Nat × List UInt8)) (e : Bool), (partsF e l).1.length ≤ l.length
  | [], e => by simp [partsF]
  | x :: t, e => by
    have h := partsF_len t (stepP e x).1
    have h2 : (stepP e x).2.length ≤ 1 := by
      unfold stepP
      repeat' split
      all_goals simp
    rw [partsF, List.length_append, List.length_cons]
    omega
theorem partsM_len (p : List UInt8) : (partsM p).1.length ≤ p.length := Nat.le_trans (partsF_len _ _) (lets_le p)

/-- Whether parts are like letters, by going on from some place: of what any letters were (from: b - 1; from there: f) the least is taken first. n: at most so many steps. -/
def mloop (ps : List Pt) (t : List (List UInt8)) : Nat → Nat → Nat → Nat → Nat → Bool
  | 0, _, _, _, _ => false
  | n + 1, i, k, b, f =>
    if k < t.length then
      if (ps[i]?).map Pt.kind = some 37 then mloop ps t n (i + 1) k (i + 1) k
      else if (ps[i]?).map Pt.kind = some 95 ∨ (ps[i]? = some ⟨0, t.getD k []⟩) then mloop ps t n (i + 1) (k + 1) b f
      else if 0 < b then mloop ps t n b (f + 1) b (f + 1)
      else false
    else (ps.drop i).all fun p => p.kind == 37
def matchM (p s : List UInt8) : Bool := (partsM p).2 && mloop (partsM p).1 (letters s) (((letters s).length + 1) * ((partsM p).1.length + 1)) 0 0 0 0
end Go.Proofs.YtheafcfbahdcfaaDoor
namespace Go.Proofs.YtheafcfbahdcfaaDoor
set_option linter.unusedVariables false
set_option linter.unusedSimpArgs false
open Go.RowKit

/-- A node: 1: true, 2: and, 3: or, 4: not, 5: equal, 6: less, 7: like, 8: nothing. -/
structure Nd where
  op : Int
  col : Int
  kids : Int
  v : Va
deriving DecidableEq
namespace Nd
def cells (n : Nd) : List Value := [.int .u8 n.op, .int .i64 n.col, .int .i64 n.kids, .int .u8 n.v.k, .int .i64 n.v.n, .string (St8 n.v.s)]
def agg (n : Nd) : Value := .agg #[.int .u8 n.op, .int .i64 n.col, .int .i64 n.kids, .int .u8 n.v.k, .int .i64 n.v.n, .string (St8 n.v.s)]
structure ok (n : Nd) : Prop where
  op : 0 ≤ n.op ∧ n.op ≤ 255
  col : -9223372036854775808 ≤ n.col ∧ n.col ≤ 9223372036854775807
  kids : -9223372036854775808 ≤ n.kids ∧ n.kids ≤ 9223372036854775807
  v : n.v.ok
def asks (n : Nd) : Bool := decide (5 ≤ n.op ∧ n.op ≤ 8)
def many (n : Nd) : Bool := decide (n.op = 2 ∨ n.op = 3)
/-- How many parts it has. -/
def parts (n : Nd) : Int := if n.op = 2 ∨ n.op = 3 then n.kids else if n.op = 4 then 1 else 0
end Nd
def ncells (l : List Nd) : List Value := l.flatMap Nd.cells
theorem ncells_append (r q : List Nd) : ncells (r ++ q) = ncells r ++ ncells q := by simp [ncells]
theorem ncells_len : ∀ r : List Nd, (ncells r).length = r.length * 6
  | [] => rfl
  | v :: r => by
    have := ncells_len r
    unfold ncells at *
    rw [List.flatMap_cons, List.length_append, this, List.length_cons]
    show 6 + _ = _
    omega
theorem ncells_get : ∀ (r : List Nd) (j : Nat) (v : Nd) (t : Nat), r[j]? = some v → t < 6 → (ncells r)[j * 6 + t]? = v.cells[t]?
  | [], j, a, t, h, _ => by simp at h
  | x :: l, 0, a, t, h, ht => by
    obtain rfl : x = a := by simpa using h
    unfold ncells
    rw [List.flatMap_cons, Nat.zero_mul, Nat.zero_add, List.getElem?_append_left (by exact ht)]
  | x :: l, j + 1, a, t, h, ht => by
    have := ncells_get l j a t (by simpa using h) ht
    unfold ncells at *
    rw [List.flatMap_cons, List.getElem?_append_right (by show 6 ≤ _; omega), show (j + 1) * 6 + t - x.cells.length = j * 6 + t from by show (j + 1) * 6 + t - 6 = _; omega]
    exact this
theorem ncells_one (r : List Nd) : ∀ u ∈ ncells r, u.oneCell' = true := by
  intro u hu
  obtain ⟨v, _, h⟩ := List.mem_flatMap.1 hu
  simp [Nd.cells] at h
  rcases h with rfl | rfl | rfl | rfl | rfl | rfl <;> rfl

/-- Whether a node may be, of columns of some kinds. -/
def mayN (kinds : List Int) (n : Nd) : Bool :=
  if n.kids ≠ 0 ∧ n.op ≠ 2 ∧ n.op ≠ 3 then false
  else if (n.asks = false ∧ (n.col ≠ 0 ∨ n.v ≠ Va.nil)) ∨ (n.asks = true ∧ (n.col < 0 ∨ (kinds.length : Int) ≤ n.col)) then false
  else if n.op = 1 ∨ n.op = 4 then true
  else if n.op = 2 ∨ n.op = 3 then decide (1 ≤ n.kids ∧ n.kids ≤ 40)
  else if n.op = 5 ∨ n.op = 6 then rightV n.v && decide (n.v.k = kinds.getD n.col.toNat 0)
  else if n.op = 7 then rightV n.v && decide (n.v.k = 3) && decide (kinds.getD n.col.toNat 0 = 3) && (partsM n.v.s).2
  else if n.op = 8 then decide (n.v = Va.nil) else false
/-- Whether so many parts, one behind another, are just all. -/
def ends : Int → List Nd → Bool
  | need, [] => decide (need ≤ 0)
  | need, n :: t => decide (0 < need) && ends (need + (n.parts - 1)) t
def rightN (kinds : List Int) (l : List Nd) : Bool := decide (1 ≤ l.length ∧ l.length ≤ 40) && l.all (mayN kinds) && ends 1 l
/-- Whether nodes are one with its parts, and ask nothing of columns that there are not. -/
def fineN (cols : Nat) (n : Nd) : Bool :=
  decide (1 ≤ n.op ∧ n.op ≤ 8) && !(n.asks && decide (n.col < 0 ∨ (cols : Int) ≤ n.col)) && !(n.many && decide (n.kids < 1 ∨ 40 < n.kids))
def wholeN (cols : Nat) (l : List Nd) : Bool := decide (1 ≤ l.length ∧ l.length ≤ 40) && l.all (fineN cols) && ends 1 l

/-- A truth of two values: unknown, if one is nothing. -/
def truthV (a b : Va) (is : Bool) : Int := if a.k = 0 ∨ b.k = 0 then 1 else if is then 2 else 0
def known (a : Int) : Int := if 2 < a then 1 else a
def andT (a b : Int) : Int := min (known a) (known b)
def orT (a b : Int) : Int := max (known a) (known b)
def notT (a : Int) : Int := 2 - known a
/-- What comes of a node that asks a column. -/
def leafM (n : Nd) (v : Va) : Int :=
  if n.op = 5 then truthV v n.v (decide (cmpVa v n.v = 0)) else if n.op = 6 then truthV v n.v (decide (cmpVa v n.v < 0)) else if n.op = 8 then (if v.k = 0 then 2 else 0)
  else if v.k = 0 then 1 else if matchM n.v.s v.s then 2 else 0
def joinT (op : Int) (out x : Int) : Int := if op = 2 then andT out x else if op = 3 then orT out x else notT x
def firstT (op : Int) : Int := if op = 3 then 0 else 2
/-- So many parts, one behind another, joined. g: what comes of the first part of nodes, and the nodes behind it. -/
def evs (g : List Nd → Option (Int × List Nd)) (op : Int) : Nat → Int → List Nd → Option (Int × List Nd)
  | 0, a, t => some (a, t)
  | k + 1, a, t => match g t with
    | none => none
    | some (x, t1) => evs g op k (joinT op a x) t1
/-- What comes of the first part of nodes, and the nodes behind it; nothing, if there is none (or it is deeper than f). -/
def ev (r : RowM) : Nat → List Nd → Option (Int × List Nd)
  | 0, _ => none
  | _ + 1, [] => none
  | f + 1, n :: t => if n.asks then some (leafM n (colAt r n.col), t) else evs (ev r f) n.op n.parts.toNat (firstT n.op) t
def evalM (l : List Nd) (r : RowM) : Int := if wholeN r.length l = true then ((ev r l.length l).map Prod.fst).getD 1 else 1
end Go.Proofs.YtheafcfbahdcfaaDoor
namespace Go.Proofs.YtheafcfbahdcfaaDoor
set_option linter.unusedVariables false
set_option linter.unusedSimpArgs false

/-! ### Lists that rise are told by their members -/
theorem strict_uniq : ∀ (a b : List Int), a.Pairwise (· < ·) → b.Pairwise (· < ·) → (∀ x, x ∈ a ↔ x ∈ b) → a = b
  | [], [], _, _, _ => rfl
  | [], y :: b, _, _, h => absurd ((h y).2 (List.mem_cons_self ..)) (by simp)
  | x :: a, [], _, _, h => absurd ((h x).1 (List.mem_cons_self ..)) (by simp)
  | x :: a, y :: b, ha, hb, h => by
    rw [List.pairwise_cons] at ha hb
    have hxy : x = y := by
      rcases List.mem_cons.1 ((h x).1 (List.mem_cons_self ..)) with e | h1
      · exact e
      · rcases List.mem_cons.1 ((h y).2 (List.mem_cons_self ..)) with e | h2
        · exact e.symm
        · have := hb.1 x h1
          have := ha.1 y h2
          omega
    subst hxy
    congr 1
    refine strict_uniq a b ha.2 hb.2 fun z => ?_
    constructor
    · intro hz
      rcases List.mem_cons.1 ((h z).1 (List.mem_cons_of_mem _ hz)) with e | h1
      · subst e; exact absurd (ha.1 z hz) (by omega)
      · exact h1
    · intro hz
      rcases List.mem_cons.1 ((h z).2 (List.mem_cons_of_mem _ hz)) with e | h1
      · subst e; exact absurd (hb.1 z hz) (by omega)
      · exact h1

/-! ### Sorted, each once -/
theorem cu_spec (zs : List Int) (hs : ∀ i j, i ≤ j → j < zs.length → zs.toArray[i]! ≤ zs.toArray[j]!) : ∀ m, m ≤ zs.length →
    (Lib.compactUpTo zs.toArray m).Pairwise (· < ·) ∧ ∀ x, x ∈ Lib.compactUpTo zs.toArray m ↔ ∃ j, j < m ∧ zs.toArray[j]! = x
  | 0, _ => ⟨by simp [Lib.compactUpTo], fun x => by simp [Lib.compactUpTo]⟩
  | m + 1, hm => by
    obtain ⟨h1, h2⟩ := cu_spec zs hs m (by omega)
    rw [Lib.compactUpTo_succ]
    by_cases hk : Lib.keeps zs.toArray m = true
    · rw [if_pos hk]
      have hnew : ∀ x ∈ Lib.compactUpTo zs.toArray m, x < zs.toArray[m]! := fun x hx => by
        obtain ⟨j, hj, rfl⟩ := (h2 x).1 hx
        unfold Lib.keeps at hk
        have hk := of_decide_eq_true hk
        have h3 := hs j (m - 1) (by omega) (by omega)
        have h4 := hs (m - 1) m (by omega) (by omega)
        rcases hk with hk | hk
        · omega
        · omega
      constructor
      · rw [List.pairwise_append]
        exact ⟨h1, by simp, fun x hx y hy => by rw [List.mem_singleton.1 hy]; exact hnew x hx⟩
      · intro x
        rw [List.mem_append, h2, List.mem_singleton]
        constructor
        · rintro (⟨j, hj, e⟩ | e)
          · exact ⟨j, by omega, e⟩
          · exact ⟨m, by omega, e.symm⟩
        · rintro ⟨j, hj, e⟩
          by_cases hjm : j = m
          · subst hjm; exact .inr e.symm
          · exact .inl ⟨j, by omega, e⟩
    · rw [if_neg hk, List.append_nil]
      refine ⟨h1, fun x => ?_⟩
      rw [h2]
      constructor
      · rintro ⟨j, hj, e⟩
        exact ⟨j, by omega, e⟩
      · rintro ⟨j, hj, e⟩
        by_cases hjm : j = m
        · subst hjm
          unfold Lib.keeps at hk
          rw [decide_eq_true_iff] at hk
          have h0 : ¬ j = 0 := fun h => hk (.inl h)
          have h3 : zs.toArray[j]! = zs.toArray[j - 1]! := Classical.byContradiction fun h => hk (.inr h)
          exact ⟨j - 1, by omega, by rw [← h3]; exact e⟩
        · exact ⟨j, by omega, e⟩
def sortI (l : List Int) : List Int := l.mergeSort fun x y => decide (x ≤ y)
theorem sortI_le (l : List Int) : (sortI l).Pairwise (· ≤ ·) := by
  have h := List.pairwise_mergeSort (le := fun x y : Int => decide (x ≤ y)) (fun a b c h1 h2 => by
    rw [decide_eq_true_iff] at *; omega) (fun a b => by
    rw [Bool.or_eq_true, decide_eq_true_iff, decide_eq_true_iff]; omega) l
  exact h.imp fun h => of_decide_eq_true h
theorem sortI_mem (l : List Int) (x : Int) : x ∈ sortI l ↔ x ∈ l := List.mem_mergeSort
theorem sortI_len (l : List Int) : (sortI l).length = l.length := List.length_mergeSort l
theorem compact_spec (l : List Int) : (Lib.compact (sortI l)).Pairwise (· < ·) ∧ ∀ x, x ∈ Lib.compact (sortI l) ↔ x ∈ l := by
  have hg : ∀ j, j < (sortI l).length → (sortI l).toArray[j]! = (sortI l)[j]! := fun j hj => by simp
  have hp := sortI_le l
  rw [List.pairwise_iff_getElem] at hp
  obtain ⟨h1, h2⟩ := cu_spec (sortI l) (fun i j hij hj => by
    rw [hg i (by omega), hg j hj, getElem!_pos (sortI l) i (by omega), getElem!_pos (sortI l) j hj]
    by_cases e : i = j
    · subst e; exact Int.le_refl _
    · exact hp i j (by omega) hj (by omega)) _ (Nat.le_refl _)
  refine ⟨h1, fun x => (h2 x).trans ?_⟩
  rw [← sortI_mem]
  constructor
  · rintro ⟨j, hj, rfl⟩
    rw [hg j hj, getElem!_pos (sortI l) j hj]
    exact List.getElem_mem hj
  · intro h
    obtain ⟨j, hj, e⟩ := List.getElem_of_mem h
    exact ⟨j, hj, by rw [hg j hj, getElem!_pos (sortI l) j hj]; exact e⟩

/-! ### One by one, each where it belongs -/
/-- How many of a list are ahead of a number. -/
def ahd (c : Int) : List Int → Nat
  | [] => 0
  | x :: t => if x < c then ahd c t + 1 else 0
theorem ahd_le (c : Int) : ∀ s : List Int, ahd c s ≤ s.length
  | [] => Nat.le_refl _
  | x :: t => by
    have := ahd_le c t
    rw [ahd]
    split
    · rw [List.length_cons]; omega
    · omega
theorem ahd_lt (c : Int) : ∀ (s : List Int) (j : Nat) (x : Int), j < ahd c s → s[j]? = some x → x < c
  | [], j, x, h, _ => by rw [ahd] at h; omega
  | y :: t, j, x, h, hx => by
    rw [ahd] at h
    split at h
    · cases j with
      | zero => simp at hx; omega
      | succ j => exact ahd_lt c t j x (by omega) (by simpa using hx)
    · omega
theorem ahd_ge (c : Int) : ∀ (s : List Int) (x : Int), s[ahd c s]? = some x → ¬ x < c
  | [], x, h => by simp at h
  | y :: t, x, h => by
    rw [ahd] at h
    split at h
    · exact ahd_ge c t x (by simpa using h)
    · simp at h; omega
theorem ahd_at (c : Int) : ∀ (s : List Int) (k : Nat), k ≤ s.length → (∀ j x, j < k → s[j]? = some x → x < c) → (∀ x, s[k]? = some x → ¬ x < c) → ahd c s = k
  | [], k, hk, _, _ => by simp at hk; subst hk; rfl
  | y :: t, 0, _, _, h2 => by rw [ahd, if_neg (h2 y rfl)]
  | y :: t, k + 1, hk, h1, h2 => by
    rw [ahd, if_pos (h1 0 y (by omega) rfl), ahd_at c t k (by simpa using hk) (fun j x hj hx => h1 (j + 1) x (by omega) (by simpa using hx)) (fun x hx => h2 x (by simpa using hx))]
def insC (c : Int) (s : List Int) : List Int := if s[ahd c s]? = some c then s else s.take (ahd c s) ++ c :: s.drop (ahd c s)
theorem insC_spec (c : Int) (s : List Int) (hs : s.Pairwise (· < ·)) : (insC c s).Pairwise (· < ·) ∧ ∀ x, x ∈ insC c s ↔ x = c ∨ x ∈ s := by
  unfold insC
  by_cases h : s[ahd c s]? = some c
  · rw [if_pos h]
    refine ⟨hs, fun x => ⟨.inr, ?_⟩⟩
    rintro (rfl | h1)
    · exact List.mem_of_getElem? h
    · exact h1
  · rw [if_neg h]
    have hp := List.pairwise_iff_getElem.1 hs
    have hlo : ∀ x ∈ s.take (ahd c s), x < c := fun x hx => by
      obtain ⟨j, hj, e⟩ := List.getElem_of_mem hx
      rw [List.length_take] at hj
      rw [List.getElem_take] at e
      exact ahd_lt c s j x (by omega) (by rw [List.getElem?_eq_getElem (by omega), e])
    have hhi : ∀ x ∈ s.drop (ahd c s), c < x := fun x hx => by
      obtain ⟨j, hj, e⟩ := List.getElem_of_mem hx
      rw [List.length_drop] at hj
      rw [List.getElem_drop] at e
      have ha : ahd c s < s.length := by omega
      have h0 := List.getElem?_eq_getElem ha
      have h1 := ahd_ge c s _ h0
      have h2 : ¬ s[ahd c s] = c := fun e => h (by rw [h0, e])
      by_cases hj0 : j = 0
      · subst hj0
        rw [← e]
        simp only [Nat.add_zero]
        omega
      · have h3 := hp (ahd c s) (ahd c s + j) ha (by omega) (by omega)
        rw [← e]
        omega
    constructor
    · rw [List.pairwise_append]
      refine ⟨hs.sublist (List.take_sublist _ _), ?_, ?_⟩
      · rw [List.pairwise_cons]
        exact ⟨hhi, hs.sublist (List.drop_sublist _ _)⟩
      · intro x hx y hy
        rcases List.mem_cons.1 hy with rfl | hy
        · exact hlo x hx
        · have := hlo x hx
          have := hhi y hy
          omega
    · intro x
      rw [List.mem_append, List.mem_cons]
      have ht : x ∈ s ↔ x ∈ s.take (ahd c s) ∨ x ∈ s.drop (ahd c s) := by
        conv => lhs; rw [← List.take_append_drop (ahd c s) s]
        rw [List.mem_append]
      rw [ht]
      constructor
      · rintro (h1 | h1 | h1)
        · exact .inr (.inl h1)
        · exact .inl h1
        · exact .inr (.inr h1)
      · rintro (h1 | h1 | h1)
        · exact .inr (.inl h1)
        · exact .inl h1
        · exact .inr (.inr h1)
/-- The reference's step. -/
def insN (s : List Int) (n : Nd) : List Int := if n.asks then insC n.col s else s
def colsR (l : List Nd) : List Int := l.foldl insN []
def colsL (l : List Nd) : List Int := (l.filter Nd.asks).map Nd.col
theorem fold_spec : ∀ (l : List Nd) (s : List Int), s.Pairwise (· < ·) → (l.foldl insN s).Pairwise (· < ·) ∧ ∀ x, x ∈ l.foldl insN s ↔ x ∈ s ∨ x ∈ colsL l
  | [], s, hs => ⟨hs, fun x => by simp [colsL]⟩
  | n :: l, s, hs => by
    have h1 : (insN s n).Pairwise (· < ·) ∧ ∀ x, x ∈ insN s n ↔ x ∈ s ∨ (n.asks = true ∧ x = n.col) := by
      unfold insN
      by_cases ha : n.asks = true
      · rw [if_pos ha]
        obtain ⟨h1, h2⟩ := insC_spec n.col s hs
        refine ⟨h1, fun x => ?_⟩
        rw [h2]
        constructor
        · rintro (h | h)
          · exact .inr ⟨ha, h⟩
          · exact .inl h
        · rintro (h | ⟨_, h⟩)
          · exact .inr h
          · exact .inl h
      · rw [if_neg ha]
        exact ⟨hs, fun x => ⟨.inl, fun h => h.elim id fun h => absurd h.1 ha⟩⟩
    obtain ⟨h2, h3⟩ := fold_spec l (insN s n) h1.1
    refine ⟨h2, fun x => ?_⟩
    rw [List.foldl_cons, h3, h1.2]
    unfold colsL
    by_cases ha : n.asks = true
    · rw [List.filter_cons_of_pos ha, List.map_cons, List.mem_cons]
      constructor
      · rintro ((h | ⟨_, h⟩) | h)
        · exact .inl h
        · exact .inr (.inl h)
        · exact .inr (.inr h)
      · rintro (h | h | h)
        · exact .inl (.inl h)
        · exact .inl (.inr ⟨ha, h⟩)
        · exact .inr h
    · rw [List.filter_cons_of_neg ha]
      constructor
      · rintro ((h | ⟨h, _⟩) | h)
        · exact .inl h
        · exact absurd h ha
        · exact .inr h
      · rintro (h | h)
        · exact .inl (.inl h)
        · exact .inr h
theorem cols_same (l : List Nd) : Lib.compact (sortI (colsL l)) = colsR l := by
  obtain ⟨h1, h2⟩ := compact_spec (colsL l)
  obtain ⟨h3, h4⟩ := fold_spec l [] (by simp)
  refine strict_uniq _ _ h1 h3 fun x => ?_
  rw [h2, show colsR l = l.foldl insN [] from rfl, h4]
  simp
end Go.Proofs.YtheafcfbahdcfaaDoor
namespace Go.Proofs.YtheafcfbahdcfaaDoor
set_option linter.unusedVariables false
set_option linter.unusedSimpArgs false
open Go.RowKit

/-- What is there now lives through what turns new blocks alone. -/
theorem Rs.of_old {T : List TypeId} {w : World} {A : Option Addr} {xs : List Value} (h : Rd w A xs) : Rs T w.heap.size w A xs := fun hn => by
  obtain ⟨b, o, e, hr⟩ := h hn
  exact ⟨b, o, e, hr, .inl (lt_of_range hr hn)⟩
structure Ky where
  col : Int
  down : Bool
def Ky.cells (x : Ky) : List Value := [.int .i64 x.col, .bool x.down]
def kyc (l : List Ky) : List Value := l.flatMap Ky.cells
theorem kyc_len : ∀ r : List Ky, (kyc r).length = r.length * 2
  | [] => rfl
  | v :: r => by
    have := kyc_len r
    unfold kyc at *
    rw [List.flatMap_cons, List.length_append, this, List.length_cons]
    show 2 + _ = _
    omega
theorem kyc_get : ∀ (r : List Ky) (j k : Nat) (hj : j < r.length), k < 2 → (kyc r)[j * 2 + k]? = (r[j]).cells[k]?
  | v :: r, 0, k, _, hk => by
    unfold kyc
    rw [List.flatMap_cons, List.getElem?_append_left (by show _ < 2; omega)]
    simp
  | v :: r, j + 1, k, hj, hk => by
    have h := kyc_get r j k (by simpa using hj) hk
    unfold kyc at *
    rw [List.flatMap_cons, List.getElem?_append_right (by show 2 ≤ _; omega), List.getElem_cons_succ, ← h]
    congr 1
    show (j + 1) * 2 + k - 2 = _
    omega
theorem Rd.ky {w : World} {A : Option Addr} {l : List Ky} (h : Rd w A (kyc l)) {j : Nat} (hj : j < l.length) :
    ∃ b o, A = some ⟨b, o, none⟩ ∧ w.cell? ⟨b, o + j * 2, none⟩ = some (.int .i64 l[j].col) ∧ w.cell? ⟨b, o + j * 2 + 1, none⟩ = some (.bool l[j].down) := by
  obtain ⟨b, o, e, hr⟩ := h (by intro e; have := congrArg List.length e; rw [kyc_len, List.length_nil] at this; omega)
  exact ⟨b, o, e, hr (j * 2) _ (kyc_get l j 0 hj (by omega)), hr (j * 2 + 1) _ (kyc_get l j 1 hj (by omega))⟩
end Go.Proofs.YtheafcfbahdcfaaDoor
namespace Go.Proofs.YtheafcfbahdcfaaDoor
set_option linter.unusedVariables false
set_option linter.unusedSimpArgs false
open Go.RowKit

structure Tb where
  name : List UInt8
  kinds : List Int
deriving DecidableEq, Inhabited
structure Jn where
  table : List UInt8
  left : Int
  right : Int
structure Ag where
  op : Int
  col : Int
structure Qy where
  frm : List UInt8
  joins : List Jn
  asked : List Nd
  by_ : List Int
  aggs : List Ag
  want : List Int
  keys : List Ky

def nameB (c : UInt8) : Bool := decide (97 ≤ c.toNat ∧ c.toNat ≤ 122) || decide (48 ≤ c.toNat ∧ c.toNat ≤ 57) || decide (c.toNat = 95)
def nameOk (s : List UInt8) : Bool := s.all nameB && decide (1 ≤ s.length ∧ s.length ≤ 20)
def kindT (k : Int) : Bool := decide (1 ≤ k ∧ k ≤ 3)
/-- A table's place. -/
def findT : List Tb → List UInt8 → Option Nat
  | [], _ => none
  | t :: l, s => if t.name = s then some 0 else (findT l s).map (· + 1)
def tableOk (t : Tb) : Bool := nameOk t.name && decide (1 ≤ t.kinds.length ∧ t.kinds.length ≤ 8) && t.kinds.all kindT
def tablesOk (l : List Tb) : Bool := decide (1 ≤ l.length ∧ l.length ≤ 4) && l.all tableOk && decide ((l.map Tb.name).Nodup)
def namesM (q : Qy) : List (List UInt8) := q.frm :: q.joins.map Jn.table
def placesM (l : List Tb) : List (List UInt8) → Option (List Nat)
  | [] => some []
  | s :: r => match findT l s with | none => none | some k => (placesM l r).map (k :: ·)
/-- Why tables can't be joined so. -/
def joinedE (l : List Tb) (q : Qy) : Int :=
  if tablesOk l = false then 230 else match placesM l (namesM q) with | none => 231 | some p => if p.Nodup then 0 else 232
def joinedP (l : List Tb) (q : Qy) : List Nat := if joinedE l q = 0 then (placesM l (namesM q)).getD [] else []
def tabK (l : List Tb) (k : Nat) : List Int := (l.getD k default).kinds
/-- The kinds of each table that is joined. -/
def ktabs (l : List Tb) (q : Qy) : List (List Int) := (joinedP l q).map (tabK l)
/-- Where each one's columns begin. -/
def offs : Nat → List (List Int) → List Nat
  | _, [] => []
  | a, k :: t => a :: offs (a + k.length) t
theorem offs_len : ∀ (l : List (List Int)) (a : Nat), (offs a l).length = l.length
  | [], _ => rfl
  | k :: l, a => by rw [offs, List.length_cons, offs_len l, List.length_cons]
theorem offs_snoc : ∀ (l : List (List Int)) (a : Nat) (k : List Int), offs a (l ++ [k]) = offs a l ++ [a + l.flatten.length]
  | [], a, k => by simp [offs]
  | x :: l, a, k => by
    rw [List.cons_append, offs, offs, offs_snoc l, List.cons_append, List.flatten_cons, List.length_append, Nat.add_assoc]
/-- Why joins may not be. -/
def joinsF (kinds : List Int) (first : Nat) : Nat → List (List Int) → List Jn → Bool → Bool → Int
  | a, x :: y :: t, j :: js, st, ch =>
    if j.left < 0 ∨ ((a + x.length : Nat) : Int) ≤ j.left ∨ j.right < 0 ∨ (y.length : Int) ≤ j.right then 1
    else if kinds.getD j.left.toNat 0 ≠ kinds.getD (a + x.length + j.right.toNat) 0 then 7
    else joinsF kinds first (a + x.length) (y :: t) js (st && decide (j.left < (first : Int))) (ch && decide ((a : Int) ≤ j.left))
  | _, _, _, st, ch => if st || ch then 0 else 232
def joinsM (k : List (List Int)) (q : Qy) : Int := joinsF k.flatten (k.headD []).length 0 k q.joins true true
def inK (kinds : List Int) (c : Int) : Bool := decide (0 ≤ c ∧ c < (kinds.length : Int))
def aggOk (kinds : List Int) (x : Ag) : Bool := if x.op = 1 then decide (x.col = 0) else decide (2 ≤ x.op ∧ x.op ≤ 5) && inK kinds x.col
def aggK (kinds : List Int) (x : Ag) : Int := if x.op = 4 ∨ x.op = 5 then kinds.getD x.col.toNat 0 else 2
def aggBad (kinds : List Int) (x : Ag) : Bool := decide (x.op = 3 ∧ kinds.getD x.col.toNat 0 ≠ 2)
/-- The kinds of what is told of groups. -/
def groupK (kinds by_ : List Int) (l : List Ag) : List Int × Int :=
  if 8 < by_.length + l.length then ([], 3)
  else if (by_.all (inK kinds) && decide by_.Nodup) = false then ([], 1)
  else if l.all (aggOk kinds) = false then ([], 1)
  else if l.any (aggBad kinds) = true then ([], 7)
  else (by_.map (fun c => kinds.getD c.toNat 0) ++ l.map (aggK kinds), 0)
def toldM (kinds : List Int) (q : Qy) : List Int × Int :=
  if 0 < q.by_.length + q.aggs.length then (if 0 < q.want.length then ([], 233) else groupK kinds q.by_ q.aggs)
  else if q.want.length < 1 ∨ 8 < q.want.length then ([], 233)
  else if q.want.all (inK kinds) = true then (q.want.map fun c => kinds.getD c.toNat 0, 0) else ([], 233)
def orderE (cols : Nat) (l : List Ky) : Int :=
  if 8 < l.length then 3 else if (l.all (fun k => decide (0 ≤ k.col ∧ k.col < (cols : Int))) && decide (l.map Ky.col).Nodup) = true then 0 else 1
/-- What Check tells of what is joined. -/
def checkK (k : List (List Int)) (q : Qy) : List Int × Int :=
  if joinsM k q ≠ 0 then ([], joinsM k q)
  else if rightN k.flatten q.asked = false then ([], 140)
  else if (toldM k.flatten q).2 ≠ 0 then ([], (toldM k.flatten q).2)
  else if orderE (toldM k.flatten q).1.length q.keys ≠ 0 then ([], orderE (toldM k.flatten q).1.length q.keys)
  else ((toldM k.flatten q).1, 0)
def checkM (l : List Tb) (q : Qy) : List Int × Int := if joinedE l q ≠ 0 then ([], joinedE l q) else checkK (ktabs l q) q
/-- The columns that joins go by. -/
def joinCols : Nat → List (List Int) → List Jn → List Int
  | a, x :: t, j :: js => j.left :: (((a + x.length : Nat) : Int) + j.right) :: joinCols (a + x.length) t js
  | _, _, _ => []
/-- All columns that are asked for, joined by or told. -/
def allCols (k : List (List Int)) (q : Qy) : List Int :=
  colsR q.asked ++ q.by_ ++ q.want ++ (q.aggs.filter fun a => decide (a.op ≠ 1)).map Ag.col ++ joinCols 0 k q.joins
/-- Of one table. -/
def someC (all : List Int) (a n : Nat) : List Int :=
  let l := ((List.range n).filter fun c => decide (((a + c : Nat) : Int) ∈ all)).map fun c : Nat => (c : Int)
  if l = [] then [0] else l
def needsF (all : List Int) : Nat → List (List Int) → List (List Int)
  | _, [] => []
  | a, x :: t => someC all a x.length :: needsF all (a + x.length) t
def needsM (l : List Tb) (q : Qy) : List (List Int) × Int :=
  if (checkM l q).2 ≠ 0 then ([], (checkM l q).2) else (needsF (allCols (ktabs l q) q) 0 (ktabs l q), 0)

/-! ### More tables -/
theorem findT_lt : ∀ (l : List Tb) (s : List UInt8) (k : Nat), findT l s = some k → k < l.length ∧ (l.getD k default).name = s
  | [], _, _, h => by cases h
  | t :: l, s, k, h => by
    rw [findT] at h
    split at h
    · rename_i e
      obtain rfl := Option.some.inj h
      exact ⟨by simp, e⟩
    · obtain ⟨j, hj, rfl⟩ := Option.map_eq_some_iff.1 h
      obtain ⟨h1, h2⟩ := findT_lt l s j hj
      exact ⟨by rw [List.length_cons]; omega, h2⟩
theorem findT_none : ∀ (l : List Tb) (s : List UInt8), findT l s = none ↔ s ∉ l.map Tb.name
  | [], _ => by simp [findT]
  | t :: l, s => by
    rw [findT, List.map_cons, List.mem_cons, not_or]
    split
    · rename_i e
      simp [e]
    · rename_i e
      rw [Option.map_eq_none_iff, findT_none l s]
      exact ⟨fun h => ⟨fun h2 => e h2.symm, h⟩, fun h => h.2⟩
theorem findT_more : ∀ (m l : List Tb) (s : List UInt8), s ∉ m.map Tb.name → findT (m ++ l) s = (findT l s).map (· + m.length)
  | [], l, s, _ => by simp
  | t :: m, l, s, h => by
    rw [List.map_cons, List.mem_cons, not_or] at h
    rw [List.cons_append, findT, if_neg (fun e => h.1 e.symm), findT_more m l s h.2, Option.map_map]
    congr 1
theorem placesM_more {m l : List Tb} (hd : ((m ++ l).map Tb.name).Nodup) : ∀ (r : List (List UInt8)) (p : List Nat), placesM l r = some p → placesM (m ++ l) r = some (p.map (· + m.length))
  | [], p, h => by
    obtain rfl : [] = p := Option.some.inj h
    rfl
  | s :: r, p, h => by
    rw [placesM] at h ⊢
    cases e : findT l s with
    | none => rw [e] at h; cases h
    | some k =>
      rw [e] at h
      obtain ⟨p1, h1, rfl⟩ := Option.map_eq_some_iff.1 (show (placesM l r).map (k :: ·) = some p from h)
      have hin : s ∈ l.map Tb.name := by
        by_cases hs : s ∈ l.map Tb.name
        · exact hs
        · rw [(findT_none l s).2 hs] at e
          cases e
      rw [List.map_append] at hd
      have hs : s ∉ m.map Tb.name := fun h2 => (List.nodup_append.1 hd).2.2 s h2 s hin rfl
      rw [findT_more m l s hs, e, ]
      show (placesM (m ++ l) r).map _ = _
      rw [placesM_more (by rw [List.map_append]; exact hd) r p1 h1]
      rfl
theorem tabK_more (m l : List Tb) (k : Nat) : tabK (m ++ l) (k + m.length) = tabK l k := by
  unfold tabK
  rw [List.getD_eq_getElem?_getD, List.getElem?_append_right (by omega), Nat.add_sub_cancel, ← List.getD_eq_getElem?_getD]
theorem more_same {m l : List Tb} {q : Qy} (h1 : tablesOk (m ++ l) = true) (h2 : joinedE l q = 0) : joinedE (m ++ l) q = 0 ∧ ktabs (m ++ l) q = ktabs l q := by
  have hd : ((m ++ l).map Tb.name).Nodup := by
    unfold tablesOk at h1
    rw [Bool.and_eq_true] at h1
    exact of_decide_eq_true h1.2
  have hx := h2
  unfold joinedE at h2
  split at h2
  · cases h2
  · cases e : placesM l (namesM q) with
    | none => rw [e] at h2; cases h2
    | some p =>
      rw [e] at h2
      have hp : p.Nodup := by
        by_cases hp : p.Nodup
        · exact hp
        · have h9 : (if p.Nodup then (0 : Int) else 232) = 0 := h2
          rw [if_neg hp] at h9
          exact absurd h9 (by decide)
      have e2 := placesM_more hd _ _ e
      have hp2 : (p.map (· + m.length)).Nodup := List.Pairwise.map (· + m.length) (fun a b (h : a ≠ b) => (by omega : a + m.length ≠ b + m.length)) hp
      have hj : joinedE (m ++ l) q = 0 := by
        unfold joinedE
        rw [h1, if_neg (by decide), e2]
        exact if_pos hp2
      refine ⟨hj, ?_⟩
      unfold ktabs joinedP
      rw [if_pos hj, if_pos hx, e2, e]
      show (p.map (· + m.length)).map (tabK (m ++ l)) = p.map (tabK l)
      rw [List.map_map]
      exact List.map_congr_left fun k _ => tabK_more m l k
/-- A query that may be asked may be asked of more tables. -/
theorem check_more {m l : List Tb} {q : Qy} (h1 : tablesOk (m ++ l) = true) (h2 : (checkM l q).2 = 0) : checkM (m ++ l) q = checkM l q ∧ needsM (m ++ l) q = needsM l q := by
  have hj : joinedE l q = 0 := by
    by_cases hj : joinedE l q = 0
    · exact hj
    · unfold checkM at h2
      rw [if_pos hj] at h2
      exact absurd h2 hj
  obtain ⟨h3, h4⟩ := more_same h1 hj
  have h5 : checkM (m ++ l) q = checkM l q := by
    unfold checkM
    rw [h3, hj, h4]
  refine ⟨h5, ?_⟩
  unfold needsM
  rw [h5, h4]
end Go.Proofs.YtheafcfbahdcfaaDoor
