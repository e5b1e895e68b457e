/- What is asked, node by node: plain data. -/
import Derived.Test.YtheafcfbahdcfaaAkM
import Derived.Test.YtheafcfbahdcfaaJoF
import Derived.Test.YtheafcfbahdcfaaJoC
namespace Go.Proofs.Ytheafcfbahdcfaa
open Go.RowKit

/-- A node: 1: true, 2: and, 3: or, 4: not, 5: equal, 6: less, 7: like, 8: nothing. -/
structure Nd where
  op : Int
  col : Int
  kids : Int
  v : Va
deriving DecidableEq
namespace Nd
def cells (n : Nd) : List Value := [.int .u8 n.op, .int .i64 n.col, .int .i64 n.kids, .int .u8 n.v.k, .int .i64 n.v.n, .string (St8 n.v.s)]
def agg (n : Nd) : Value := .agg #[.int .u8 n.op, .int .i64 n.col, .int .i64 n.kids, .int .u8 n.v.k, .int .i64 n.v.n, .string (St8 n.v.s)]
structure ok (n : Nd) : Prop where
  op : 0 ≤ n.op ∧ n.op ≤ 255
  col : -9223372036854775808 ≤ n.col ∧ n.col ≤ 9223372036854775807
  kids : -9223372036854775808 ≤ n.kids ∧ n.kids ≤ 9223372036854775807
  v : n.v.ok
def asks (n : Nd) : Bool := decide (5 ≤ n.op ∧ n.op ≤ 8)
def many (n : Nd) : Bool := decide (n.op = 2 ∨ n.op = 3)
/-- How many parts it has. -/
def parts (n : Nd) : Int := if n.op = 2 ∨ n.op = 3 then n.kids else if n.op = 4 then 1 else 0
end Nd
def ncells (l : List Nd) : List Value := l.flatMap Nd.cells
theorem ncells_append (r q : List Nd) : ncells (r ++ q) = ncells r ++ ncells q := by simp [ncells]
theorem ncells_len : ∀ r : List Nd, (ncells r).length = r.length * 6
  | [] => rfl
  | v :: r => by
    have := ncells_len r
    unfold ncells at *
    rw [List.flatMap_cons, List.length_append, this, List.length_cons]
    show 6 + _ = _
    omega
theorem ncells_get : ∀ (r : List Nd) (j : Nat) (v : Nd) (t : Nat), r[j]? = some v → t < 6 → (ncells r)[j * 6 + t]? = v.cells[t]?
  | [], j, a, t, h, _ => by simp at h
  | x :: l, 0, a, t, h, ht => by
    obtain rfl : x = a := by simpa using h
    unfold ncells
    rw [List.flatMap_cons, Nat.zero_mul, Nat.zero_add, List.getElem?_append_left (by exact ht)]
  | x :: l, j + 1, a, t, h, ht => by
    have := ncells_get l j a t (by simpa using h) ht
    unfold ncells at *
    rw [List.flatMap_cons, List.getElem?_append_right (by show 6 ≤ _; omega), show (j + 1) * 6 + t - x.cells.length = j * 6 + t from by show (j + 1) * 6 + t - 6 = _; omega]
    exact this
theorem ncells_one (r : List Nd) : ∀ u ∈ ncells r, u.oneCell' = true := by
  intro u hu
  obtain ⟨v, _, h⟩ := List.mem_flatMap.1 hu
  simp [Nd.cells] at h
  rcases h with rfl | rfl | rfl | rfl | rfl | rfl <;> rfl

/-- Whether a node may be, of columns of some kinds. -/
def mayN (kinds : List Int) (n : Nd) : Bool :=
  if n.kids ≠ 0 ∧ n.op ≠ 2 ∧ n.op ≠ 3 then false
  else if (n.asks = false ∧ (n.col ≠ 0 ∨ n.v ≠ Va.nil)) ∨ (n.asks = true ∧ (n.col < 0 ∨ (kinds.length : Int) ≤ n.col)) then false
  else if n.op = 1 ∨ n.op = 4 then true
  else if n.op = 2 ∨ n.op = 3 then decide (1 ≤ n.kids ∧ n.kids ≤ 40)
  else if n.op = 5 ∨ n.op = 6 then rightV n.v && decide (n.v.k = kinds.getD n.col.toNat 0)
  else if n.op = 7 then rightV n.v && decide (n.v.k = 3) && decide (kinds.getD n.col.toNat 0 = 3) && (partsM n.v.s).2
  else if n.op = 8 then decide (n.v = Va.nil) else false
/-- Whether so many parts, one behind another, are just all. -/
def ends : Int → List Nd → Bool
  | need, [] => decide (need ≤ 0)
  | need, n :: t => decide (0 < need) && ends (need + (n.parts - 1)) t
def rightN (kinds : List Int) (l : List Nd) : Bool := decide (1 ≤ l.length ∧ l.length ≤ 40) && l.all (mayN kinds) && ends 1 l
/-- Whether nodes are one with its parts, and ask nothing of columns that there are not. -/
def fineN (cols : Nat) (n : Nd) : Bool :=
  decide (1 ≤ n.op ∧ n.op ≤ 8) && !(n.asks && decide (n.col < 0 ∨ (cols : Int) ≤ n.col)) && !(n.many && decide (n.kids < 1 ∨ 40 < n.kids))
def wholeN (cols : Nat) (l : List Nd) : Bool := decide (1 ≤ l.length ∧ l.length ≤ 40) && l.all (fineN cols) && ends 1 l

/-- A truth of two values: unknown, if one is nothing. -/
def truthV (a b : Va) (is : Bool) : Int := if a.k = 0 ∨ b.k = 0 then 1 else if is then 2 else 0
def known (a : Int) : Int := if 2 < a then 1 else a
def andT (a b : Int) : Int := min (known a) (known b)
def orT (a b : Int) : Int := max (known a) (known b)
def notT (a : Int) : Int := 2 - known a
/-- What comes of a node that asks a column. -/
def leafM (n : Nd) (v : Va) : Int :=
  if n.op = 5 then truthV v n.v (decide (cmpVa v n.v = 0)) else if n.op = 6 then truthV v n.v (decide (cmpVa v n.v < 0)) else if n.op = 8 then (if v.k = 0 then 2 else 0)
  else if v.k = 0 then 1 else if matchM n.v.s v.s then 2 else 0
def joinT (op : Int) (out x : Int) : Int := if op = 2 then andT out x else if op = 3 then orT out x else notT x
def firstT (op : Int) : Int := if op = 3 then 0 else 2
/-- So many parts, one behind another, joined. g: what comes of the first part of nodes, and the nodes behind it. -/
def evs (g : List Nd → Option (Int × List Nd)) (op : Int) : Nat → Int → List Nd → Option (Int × List Nd)
  | 0, a, t => some (a, t)
  | k + 1, a, t => match g t with
    | none => none
    | some (x, t1) => evs g op k (joinT op a x) t1
/-- What comes of the first part of nodes, and the nodes behind it; nothing, if there is none (or it is deeper than f). -/
def ev (r : RowM) : Nat → List Nd → Option (Int × List Nd)
  | 0, _ => none
  | _ + 1, [] => none
  | f + 1, n :: t => if n.asks then some (leafM n (colAt r n.col), t) else evs (ev r f) n.op n.parts.toNat (firstT n.op) t
def evalM (l : List Nd) (r : RowM) : Int := if wholeN r.length l = true then ((ev r l.length l).map Prod.fst).getD 1 else 1
end Go.Proofs.Ytheafcfbahdcfaa
