/- A row of n cells as a function of the place. -/
import Derived.Test.YtipnglidepfkbaaDoorBase
import Derived.Laws.OwnMore
namespace Go.Proofs.YtipnglidepfkbaaDoor
open Go.RowKit

def tbl (n : Nat) (f : Nat → Value) : List Value := (List.range n).map f
theorem tbl_len (n : Nat) (f : Nat → Value) : (tbl n f).length = n := by simp [tbl]
theorem tbl_get {n i : Nat} (hi : i < n) (f : Nat → Value) : (tbl n f)[i]? = some (f i) := by simp [tbl, List.getElem?_range hi]
theorem tbl_ext {n : Nat} {f g : Nat → Value} (h : ∀ i, i < n → f i = g i) : tbl n f = tbl n g := List.map_congr_left fun i hi => h i (List.mem_range.1 hi)
theorem tbl_set (n : Nat) (f : Nat → Value) (i : Nat) (v : Value) : (tbl n f).set i v = tbl n fun p => if p = i then v else f p := by
  apply List.ext_getElem?
  intro j
  rw [List.getElem?_set, tbl_len]
  by_cases hj : j < n
  · have h1 : (tbl n fun p => if p = i then v else f p)[j]? = some (if j = i then v else f j) := tbl_get hj _
    rw [h1]
    by_cases e : i = j
    · rw [if_pos e, if_pos (by omega), if_pos e.symm]
    · rw [if_neg e, tbl_get hj, if_neg (fun e2 => e e2.symm)]
  · have h1 : (tbl n fun p => if p = i then v else f p)[j]? = none := List.getElem?_eq_none (by rw [tbl_len]; omega)
    have h2 : (tbl n f)[j]? = none := List.getElem?_eq_none (by rw [tbl_len]; omega)
    rw [h1, h2]
    by_cases e : i = j
    · rw [if_pos e, if_neg (by omega)]
    · rw [if_neg e]
theorem tbl_rep (n : Nat) (v : Value) : List.replicate n v = tbl n fun _ => v := by
  apply List.ext_getElem?
  intro j
  rw [List.getElem?_replicate]
  by_cases h : j < n
  · rw [if_pos h, tbl_get h]
  · rw [if_neg h, List.getElem?_eq_none (by rw [tbl_len]; omega)]
end Go.Proofs.YtipnglidepfkbaaDoor
