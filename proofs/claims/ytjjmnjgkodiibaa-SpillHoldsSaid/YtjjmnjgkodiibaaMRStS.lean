/- How the reference's store of pages lies in memory. -/
import Derived.Test.YtjjmnjgkodiibaaMPagB
import Derived.Test.YtjjmnjgkodiibaaMPaAC
import Derived.Test.YtjjmnjgkodiibaaMStr
import Derived.Test.YtjjmnjgkodiibaaMRefW
namespace Go.Proofs.Ytjjmnjgkodiibaa
open Go.RowKit

namespace Pg
/-- A page's cells: whether it is taken, its bytes. -/
def cellsOf (o : Option (List UInt8)) : List Value := [.bool o.isSome, .string (St8 (o.getD []))]
def rows (s : St) : List Value := s.flatMap cellsOf
theorem length_rows : ∀ s : St, (rows s).length = 2 * s.length
  | [] => rfl
  | o :: s => by
    have := length_rows s
    unfold rows at *
    rw [List.flatMap_cons, List.length_append, this]
    simp [cellsOf]
    omega
theorem rows_get : ∀ (s : St) (i : Nat) (o : Option (List UInt8)), s[i]? = some o → (rows s)[i * 2]? = some (.bool o.isSome) ∧ (rows s)[i * 2 + 1]? = some (.string (St8 (o.getD [])))
  | [], i, o, h => by simp at h
  | x :: s, 0, o, h => by
    obtain rfl : x = o := by simpa using h
    exact ⟨rfl, rfl⟩
  | x :: s, i + 1, o, h => by
    have := rows_get s i o (by simpa using h)
    rw [show (i + 1) * 2 = i * 2 + 2 from by omega]
    exact this
theorem rows_set : ∀ (s : St) (i : Nat) (o : Option (List UInt8)), i < s.length → ((rows s).set (i * 2) (.bool o.isSome)).set (i * 2 + 1) (.string (St8 (o.getD []))) = rows (s.set i o)
  | [], i, o, h => by simp at h
  | x :: s, 0, o, h => rfl
  | x :: s, i + 1, o, h => by
    have := rows_set s i o (by simpa using h)
    rw [show (i + 1) * 2 = i * 2 + 2 from by omega, List.set_cons_succ]
    show (cellsOf x ++ _) = _
    exact congrArg (cellsOf x ++ ·) this
theorem set_self' {xs : List Value} {k : Nat} {v : Value} (h : xs[k]? = some v) : xs.set k v = xs := by
  apply List.ext_getElem?
  intro j
  rw [List.getElem?_set]
  split
  · rename_i e; subst e
    rw [h, if_pos (List.getElem?_eq_some_iff.1 h).1]
  · rfl
theorem rows_str {s : St} {i : Nat} {m : List UInt8} (l : List UInt8) (h : s[i]? = some (some m)) : (rows s).set (i * 2 + 1) (.string (St8 l)) = rows (s.set i (some l)) := by
  have hi := (List.getElem?_eq_some_iff.1 h).1
  rw [← rows_set s i (some l) hi]
  congr 1
  have := (rows_get s i _ h).1
  exact (set_self' this).symm
end Pg

/-- The blocks of the reference's store. -/
abbrev RefT : List TypeId := [93, 97]

structure RAt (w : World) (B bs bp : Nat) (s : Pg.St) : Prop where
  hs : B ≤ bs
  hp : B ≤ bp
  st : Blk w bs 93 [.slice (some ⟨bp, 0, none⟩) s.length s.length]
  row : Blk w bp 97 (Pg.rows s)
  most : s.length ≤ 4096
  lens : ∀ (k : Nat) (l : List UInt8), s[k]? = some (some l) → l.length = 64

namespace RAt
variable {w w' : World} {B bs bp : Nat} {s : Pg.St}
theorem keeps {T : List TypeId} {B' : Nat} (h : RAt w B bs bp s) (hk : Keeps T B' w w') (hT : ∀ t ∈ RefT, t ∉ T) : RAt w' B bs bp s :=
  ⟨h.hs, h.hp, h.st.keeps (hT _ (by simp)) hk, h.row.keeps (hT _ (by simp)) hk, h.most, h.lens⟩
theorem below (h : RAt w B bs bp s) (hb : Below w.heap.size w w') : RAt w' B bs bp s := ⟨h.hs, h.hp, h.st.below hb, h.row.below hb, h.most, h.lens⟩
theorem drew (h : RAt w B bs bp s) (n : Nat) : RAt (w.drewN n) B bs bp s := ⟨h.hs, h.hp, h.st, h.row, h.most, h.lens⟩
theorem ne (h : RAt w B bs bp s) : bs ≠ bp := h.st.ne_of_type h.row (by decide)
theorem on (h : RAt w B bs bp s) {i : Nat} {o : Option (List UInt8)} (hi : s[i]? = some o) : w.cell? ⟨bp, i * 2, none⟩ = some (.bool o.isSome) ∧ w.cell? ⟨bp, i * 2 + 1, none⟩ = some (.string (St8 (o.getD []))) := by
  rw [h.row.cell, h.row.cell]
  exact Pg.rows_get s i o hi
theorem set_ (h : RAt w B bs bp s) {i : Nat} (hi : i < s.length) (o : Option (List UInt8)) (ho : ∀ l, o = some l → l.length = 64) :
    RAt ((w.setCell ⟨bp, i * 2, none⟩ (.bool o.isSome)).setCell ⟨bp, i * 2 + 1, none⟩ (.string (St8 (o.getD [])))) B bs bp (s.set i o) := by
  refine ⟨h.hs, h.hp, ?_, ?_, by simpa using h.most, fun k l hk => ?_⟩
  · have := (h.st.far (p := ⟨bp, i * 2, none⟩) h.ne (.bool o.isSome)).far (p := ⟨bp, i * 2 + 1, none⟩) h.ne (.string (St8 (o.getD [])))
    simpa using this
  · rw [← Pg.rows_set s i o hi]
    exact (h.row.set_ _ _).set_ _ _
  · rw [List.getElem?_set] at hk
    split at hk
    · rename_i e
      subst e
      first | exact ho l (Option.some.inj hk) | (rw [if_pos hi] at hk; exact ho l (Option.some.inj hk))
    · exact h.lens k l hk
theorem str (h : RAt w B bs bp s) {i : Nat} {m : List UInt8} (hi : s[i]? = some (some m)) (l : List UInt8) (hl : l.length = 64) :
    RAt (w.setCell ⟨bp, i * 2 + 1, none⟩ (.string (St8 l))) B bs bp (s.set i (some l)) := by
  refine ⟨h.hs, h.hp, ?_, ?_, by simpa using h.most, fun k l' hk => ?_⟩
  · have := h.st.far (p := ⟨bp, i * 2 + 1, none⟩) h.ne (.string (St8 l))
    simpa using this
  · rw [← Pg.rows_str l hi]
    exact h.row.set_ _ _
  · rw [List.getElem?_set] at hk
    split at hk
    · rw [if_pos (List.getElem?_eq_some_iff.1 hi).1] at hk
      rw [← Option.some.inj (Option.some.inj hk)]
      exact hl
    · exact h.lens k l' hk
end RAt

def RSto (w : World) (B bs : Nat) (s : Pg.St) : Prop := ∃ bp, RAt w B bs bp s
theorem RSto.keeps {w w' : World} {B bs : Nat} {s : Pg.St} {T : List TypeId} {B' : Nat} (h : RSto w B bs s) (hk : Keeps T B' w w') (hT : ∀ t ∈ RefT, t ∉ T) : RSto w' B bs s := by
  obtain ⟨bp, h⟩ := h
  exact ⟨bp, h.keeps hk hT⟩
theorem RSto.below {w w' : World} {B bs : Nat} {s : Pg.St} (h : RSto w B bs s) (hb : Below w.heap.size w w') : RSto w' B bs s := by
  obtain ⟨bp, h⟩ := h
  exact ⟨bp, h.below hb⟩
theorem RSto.drewN {w : World} {B bs : Nat} {s : Pg.St} (h : RSto w B bs s) (n : Nat) : RSto (w.drewN n) B bs s := by
  obtain ⟨bp, h⟩ := h
  exact ⟨bp, h.drew n⟩
theorem Epage : ElemT Try.prog 91 97 2 24 (.agg #[.bool false, .string ⟨#[]⟩]) := ElemT.mk' (by kernel_rfl) (by kernel_rfl) rfl (by omega)
end Go.Proofs.Ytjjmnjgkodiibaa
