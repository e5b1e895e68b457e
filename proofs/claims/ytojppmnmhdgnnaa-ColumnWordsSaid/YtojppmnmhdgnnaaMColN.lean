/- A column's values, apart, and as bytes: plain data. -/
import Derived.Test.YtojppmnmhdgnnaaMCoMP
import Derived.Test.YtojppmnmhdgnnaaMDicP
namespace Go.Proofs.Ytojppmnmhdgnnaa
open Go.RowKit

/-- What is there, the values that are something, their numbers and texts. -/
def thereM (l : RowM) : List Int := l.map fun v => if v.k = 0 then 0 else 1
def someM (l : RowM) : RowM := l.filter fun v => decide (v.k ≠ 0)
def numsM (l : RowM) : List Int := (someM l).map (·.n)
def textsM (l : RowM) : List (List UInt8) := (someM l).map (·.s)
theorem thereM_len (l : RowM) : (thereM l).length = l.length := List.length_map _
theorem someM_le (l : RowM) : (someM l).length ≤ l.length := List.length_filter_le _ _
theorem someM_snoc (l : RowM) (v : Va) : someM (l ++ [v]) = if v.k = 0 then someM l else someM l ++ [v] := by
  unfold someM
  rw [List.filter_append]
  by_cases h : v.k = 0
  · rw [if_pos h]
    simp [h]
  · rw [if_neg h]
    simp [h]
theorem thereM_snoc (l : RowM) (v : Va) : thereM (l ++ [v]) = thereM l ++ [if v.k = 0 then 0 else 1] := by
  unfold thereM
  rw [List.map_append]
  rfl
def kindOk (k : Int) : Bool := decide (1 ≤ k ∧ k ≤ 3)
def howOk (h : Int) : Bool := decide (1 ≤ h ∧ h ≤ 5)
def fitV (kind : Int) (v : Va) : Bool := rightV v && (decide (v.k = 0) || decide (v.k = kind))
def plainB (kind : Int) (l : RowM) : List UInt8 := (someM l).flatMap fun v => if kind = 3 then numB v.s.length ++ v.s else numB (zigN v.n)
def wordsB (t : List (List UInt8)) : Option (List UInt8) := (ofM t).bind fun x => (putM x.1).map (· ++ frameB x.2)
/-- The values that are something, and the encoding that was used. -/
def layM (kind how : Int) (l : RowM) : List UInt8 × Int :=
  if ((decide (how = 3)) == (decide (kind = 3))) = false then (plainB kind l, 1)
  else if how = 2 then (runsB (numsM l), 2)
  else if how = 4 then (frameB (numsM l), 4)
  else if how = 3 then match wordsB (textsM l) with | some b => (b, 3) | none => (plainB kind l, 1)
  else if how = 5 then match deltaB (numsM l) with | some b => (b, 5) | none => (plainB kind l, 1)
  else (plainB kind l, 1)
def colB (kind how : Int) (l : RowM) : List UInt8 × Int :=
  (byteN (layM kind how l).2.toNat :: (numB (runsB (thereM l)).length ++ (runsB (thereM l) ++ (layM kind how l).1)), (layM kind how l).2)
/-- What Put tells: bytes, the encoding that was used, the error. -/
def cputM (kind how : Int) (l : RowM) : List UInt8 × Int × Int :=
  if (kindOk kind && howOk how) = false then ([], 0, 1)
  else if l.all (fitV kind) = true then ((colB kind how l).1, (colB kind how l).2, 0) else ([], 0, 7)
def bestF (kind : Int) (l : RowM) : Nat → Int → Nat → Int × Nat
  | 0, b, n => (b, n)
  | k + 1, b, n =>
    let h : Int := 5 - k
    if (cputM kind h l).2.1 = h ∧ (b = 0 ∨ (cputM kind h l).1.length < n) then bestF kind l k h (cputM kind h l).1.length else bestF kind l k b n
/-- What Best tells. -/
def bestM (kind : Int) (l : RowM) : Int × Int := if (cputM kind 1 l).2.2 = 0 then ((bestF kind l 5 0 0).1, 0) else (0, (cputM kind 1 l).2.2)
theorem putM_of {t : List (List UInt8)} {W : List (List UInt8)} {p : List Int} (h : ofM t = some (W, p)) : ∃ b, putM W = some b := by
  unfold putM
  rw [if_pos (ofM_right h).1]
  exact ⟨_, rfl⟩
theorem lay_used (kind how : Int) (l : RowM) (hh : howOk how = true) : 1 ≤ (layM kind how l).2 ∧ (layM kind how l).2 ≤ 5 := by
  unfold layM
  repeat' split
  all_goals (dsimp only; omega)
end Go.Proofs.Ytojppmnmhdgnnaa
