/- Rows of numbers. -/
import Derived.Test.YtheafcfbahdcfaaBase
import Derived.Test.YtheafcfbahdcfaaProg
namespace Go.Proofs.Ytheafcfbahdcfaa
open Go.RowKit

def icl (l : List Int) : List Value := l.map (Value.int .i64)
theorem icl_len (l : List Int) : (icl l).length = l.length := List.length_map _
theorem icl_append (l m : List Int) : icl (l ++ m) = icl l ++ icl m := List.map_append
theorem icl_one (l : List Int) : ∀ u ∈ icl l, u.oneCell' = true := by
  intro u hu
  obtain ⟨x, _, rfl⟩ := List.mem_map.1 hu
  rfl
theorem icl_get {l : List Int} {j : Nat} (h : j < l.length) : (icl l)[j]? = some (.int .i64 l[j]) := by
  unfold icl
  rw [List.getElem?_map, List.getElem?_eq_getElem h]
  rfl
theorem Eint' : ElemT Try.prog 25 3 1 8 (.int .i64 0) := ElemT.mk' (by kernel_rfl) (by kernel_rfl) rfl (by omega)
theorem icl_snoc (l : List Int) (x : Int) : icl (l ++ [x]) = icl l ++ [.int .i64 x] := icl_append l [x]
theorem Own.shrink {w : World} {base : Nat} {e : TypeId} {A : Option Addr} {n c : Nat} {xs : List Value} (h : Own w base e 1 A n c xs) {m : Nat} (hm : m ≤ n) (hA : A ≠ none) : Own w base e 1 A m c (xs.take m) := by
  have hl := h.1
  refine ⟨by rw [List.length_take, hl]; omega, ?_⟩
  rcases h.2 with ⟨hv, h0⟩ | ⟨g, cap, cur, hv, hg, hh, hnc, hcm, hcs, ht⟩
  · injection hv with h1 h2 h3
    exact absurd h1 hA
  · injection hv with h1 h2 h3
    subst h1; subst h3
    refine .inr ⟨g, c, cur, rfl, hg, hh, by omega, hcm, hcs, ?_⟩
    rw [← ht, List.take_take, Nat.mul_one, Nat.mul_one, Nat.min_eq_left hm]
end Go.Proofs.Ytheafcfbahdcfaa
