/- Slices of texts, and of letters of patterns, in memory; a text's iterator. -/
import Derived.Test.YtheafcfbahdcfaaAkM
import Derived.Lib.OthersKept
namespace Go.Proofs.Ytheafcfbahdcfaa
open Go.RowKit

theorem St8_extract (l : List UInt8) (i j : Nat) : (St8 l).extract i j = St8 ((l.drop i).take (j - i)) := by
  apply ByteArray.ext
  simp [St8, ByteArray.data_extract]
theorem Estr : ElemT Try.prog 67 9 1 16 (.string ⟨#[]⟩) := ElemT.mk' (by kernel_rfl) (by kernel_rfl) rfl (by omega)
theorem Ept : ElemT Try.prog 106 118 2 24 (.agg #[.int .i32 0, .string ⟨#[]⟩]) := ElemT.mk' (by kernel_rfl) (by kernel_rfl) rfl (by omega)

def scells (l : List (List UInt8)) : List Value := l.map fun x => .string (St8 x)
theorem scells_len (l : List (List UInt8)) : (scells l).length = l.length := List.length_map _
theorem scells_get {l : List (List UInt8)} {j : Nat} {x : List UInt8} (h : l[j]? = some x) : (scells l)[j]? = some (.string (St8 x)) := by
  unfold scells
  rw [List.getElem?_map, h]
  rfl
theorem scells_snoc (l : List (List UInt8)) (x : List UInt8) : scells l ++ [.string (St8 x)] = scells (l ++ [x]) := by simp [scells]

theorem Own.iterAt {w : World} {base : Nat} {e : TypeId} {size : Nat} {A : Option Addr} {n c : Nat} {xs : List Value} (h : Own w base e size A n c xs) {k : Nat} {s : ByteArray} {pos : Nat} (hk : w.heap[k]? = some (.stringIter s pos)) (pos' : Nat) :
    Own (w.iterAt k s pos') base e size A n c xs := by
  refine ⟨h.1, ?_⟩
  rcases h.2 with hn | ⟨g, cap, cur, hv, hbg, hg, rest⟩
  · exact .inl hn
  · have hkg : g ≠ k := by
      intro e1
      rw [e1, hk] at hg
      cases hg
    exact .inr ⟨g, cap, cur, hv, hbg, (Lib.iterAt_other w k g s pos' hkg).trans hg, rest⟩
theorem Blk.iterAt {w : World} {g : Nat} {t : TypeId} {xs : List Value} (h : Blk w g t xs) {k : Nat} {s : ByteArray} {pos : Nat} (hk : w.heap[k]? = some (.stringIter s pos)) (pos' : Nat) : Blk (w.iterAt k s pos') g t xs := by
  have hkg : g ≠ k := by
    intro e1
    have h2 := h
    unfold Blk at h2
    rw [e1, hk] at h2
    cases h2
  exact (Lib.iterAt_other w k g s pos' hkg).trans h
theorem iter_keeps {T : List TypeId} {B : Nat} {w w' : World} {k : Nat} {s : ByteArray} {pos : Nat} (hk : w.heap[k]? = some (.stringIter s pos)) (h : Keeps T B w w') : w'.heap[k]? = some (.stringIter s pos) := by
  have hlt : k < w.heap.size := (Array.getElem?_eq_some_iff.1 hk).1
  rw [h.block k hlt (.inr ?_)]
  · exact hk
  · intro cs t fz e
    rw [hk] at e
    cases e
theorem iter_below {w w' : World} {k : Nat} {s : ByteArray} {pos : Nat} (hk : w.heap[k]? = some (.stringIter s pos)) (h : Below w.heap.size w w') : w'.heap[k]? = some (.stringIter s pos) := by
  rw [h.block k (Array.getElem?_eq_some_iff.1 hk).1]
  exact hk
theorem iterPos_at {w : World} {k : Nat} {s : ByteArray} {pos : Nat} (hk : w.heap[k]? = some (.stringIter s pos)) : w.iterPos k = pos := by
  unfold World.iterPos
  rw [hk]
end Go.Proofs.Ytheafcfbahdcfaa
