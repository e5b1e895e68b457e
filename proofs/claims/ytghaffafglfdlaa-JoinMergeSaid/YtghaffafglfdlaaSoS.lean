/- Rows that are sorted in place: how they lie in memory. -/
import Derived.Test.YtghaffafglfdlaaSoM
import Derived.Test.YtghaffafglfdlaaMeM
namespace Go.Proofs.Ytghaffafglfdlaa
open Go.RowKit

/-- A function's first n values. -/
def tab (n : Nat) (f : Nat → Value) : List Value := (List.range n).map f
theorem tab_len (n : Nat) (f : Nat → Value) : (tab n f).length = n := by unfold tab; rw [List.length_map, List.length_range]
theorem tab_get {n i : Nat} (h : i < n) (f : Nat → Value) : (tab n f)[i]? = some (f i) := by
  unfold tab
  rw [List.getElem?_map, List.getElem?_range h]
  rfl
theorem tab_ext {n : Nat} {f f' : Nat → Value} (h : ∀ i, i < n → f i = f' i) : tab n f = tab n f' := by
  unfold tab
  exact List.map_congr_left fun i hi => h i (List.mem_range.1 hi)
theorem tab_set (n : Nat) (f : Nat → Value) (i : Nat) (v : Value) : (tab n f).set i v = tab n fun p => if p = i then v else f p := by
  apply List.ext_getElem?
  intro j
  rw [List.getElem?_set, tab_len]
  by_cases hj : j < n
  · have h1 : (tab n fun p => if p = i then v else f p)[j]? = some (if j = i then v else f j) := tab_get hj _
    rw [h1]
    by_cases e : i = j
    · rw [if_pos e, if_pos (by omega), if_pos e.symm]
    · rw [if_neg e, tab_get hj, if_neg (fun e2 => e e2.symm)]
  · have h1 : (tab n fun p => if p = i then v else f p)[j]? = none := List.getElem?_eq_none (by rw [tab_len]; omega)
    have h2 : (tab n f)[j]? = none := List.getElem?_eq_none (by rw [tab_len]; omega)
    rw [h1, h2]
    by_cases e : i = j
    · rw [if_pos e, if_neg (by omega)]
    · rw [if_neg e]

/-- A header, and the row that lies there. -/
abbrev Hr := Value × RowM
/-- Rows of the call's own, from block B on; their headers in the block g. -/
structure Dat (w : World) (B g n : Nat) (d : Nat → Hr) : Prop where
  lo : B ≤ g
  blk : Blk w g 28 (tab n fun p => (d p).1)
  row : ∀ p, p < n → ∃ A c, (d p).1 = .slice A (d p).2.length c ∧ Own w B 30 3 A (d p).2.length c (rcells (d p).2) ∧ ∀ v ∈ (d p).2, v.ok
namespace Dat
variable {w w' : World} {B g n : Nat} {d : Nat → Hr}
theorem below (h : Dat w B g n d) (hb : Below w.heap.size w w') : Dat w' B g n d := ⟨h.lo, h.blk.below hb, fun p hp => by
  obtain ⟨A, c, h1, h2, h3⟩ := h.row p hp
  exact ⟨A, c, h1, Own.below h2 hb, h3⟩⟩
theorem cell (h : Dat w B g n d) {p : Nat} (hp : p < n) : w.cell? ⟨g, p, none⟩ = some (d p).1 := by rw [h.blk.cell, tab_get hp]
theorem keep1 (h : Dat w B g n d) (i : Nat) (u : Value) : Keeps [28] B w (w.setCell ⟨g, i, none⟩ u) := (Keeps.refl _ _ _).setCell h.blk (by simp) h.lo u
/-- Two headers are exchanged. -/
theorem swap (h : Dat w B g n d) {i j : Nat} (hi : i < n) (hj : j < n) : Dat ((w.setCell ⟨g, i, none⟩ (d j).1).setCell ⟨g, j, none⟩ (d i).1) B g n (So.swp d i j) ∧ Keeps [28] B w ((w.setCell ⟨g, i, none⟩ (d j).1).setCell ⟨g, j, none⟩ (d i).1) := by
  have hb1 := h.blk.set_ i (d j).1
  have hb2 := hb1.set_ j (d i).1
  have hk : Keeps [28] B w ((w.setCell ⟨g, i, none⟩ (d j).1).setCell ⟨g, j, none⟩ (d i).1) := (h.keep1 i (d j).1).setCell hb1 (by simp) h.lo _
  refine ⟨⟨h.lo, ?_, fun p hp => ?_⟩, hk⟩
  · rw [tab_set, tab_set] at hb2
    have e : (tab n fun p => if p = j then (d i).1 else if p = i then (d j).1 else (d p).1) = tab n fun p => (So.swp d i j p).1 := tab_ext fun p _ => by
      unfold So.swp
      by_cases h1 : p = j
      · by_cases h2 : p = i
        · rw [if_pos h1, if_pos h2, ← h1, h2]
        · rw [if_pos h1, if_neg h2, if_pos h1]
      · by_cases h2 : p = i
        · rw [if_neg h1, if_pos h2, if_pos h2]
        · rw [if_neg h1, if_neg h2, if_neg h2, if_neg h1]
    rw [e] at hb2
    exact hb2
  · have hq : ∀ q, q < n → ∃ A c, (d q).1 = .slice A (d q).2.length c ∧ Own ((w.setCell ⟨g, i, none⟩ (d j).1).setCell ⟨g, j, none⟩ (d i).1) B 30 3 A (d q).2.length c (rcells (d q).2) ∧ ∀ v ∈ (d q).2, v.ok := fun q hq => by
      obtain ⟨A, c, h1, h2, h3⟩ := h.row q hq
      exact ⟨A, c, h1, Own.keeps h2 (by decide) hk, h3⟩
    unfold So.swp
    by_cases h1 : p = i
    · rw [if_pos h1]; exact hq j hj
    · rw [if_neg h1]
      by_cases h2 : p = j
      · rw [if_pos h2]; exact hq i hi
      · rw [if_neg h2]; exact hq p hp
end Dat

/-- What the comparing closure holds: one rising column. -/
structure KeyAt (w : World) (kb g2 kc : Nat) (col : Int) : Prop where
  box : Blk w kb 55 [.slice (some ⟨g2, 0, none⟩) 1 kc]
  key : Blk w g2 54 [.int .i64 col, .bool false]
theorem KeyAt.keeps {w w' : World} {kb g2 kc : Nat} {col : Int} {B : Nat} (h : KeyAt w kb g2 kc col) (hk : Keeps [28] B w w') : KeyAt w' kb g2 kc col := ⟨h.box.keeps (by decide) hk, h.key.keeps (by decide) hk⟩
theorem KeyAt.below {w w' : World} {kb g2 kc : Nat} {col : Int} (h : KeyAt w kb g2 kc col) (hb : Below w.heap.size w w') : KeyAt w' kb g2 kc col := ⟨h.box.below hb, h.key.below hb⟩

/-- Rows by a rising column. -/
def leR (col : Int) (x y : Hr) : Prop := leO (colAt x.2 col) (colAt y.2 col)
theorem leR_ordr (col : Int) : So.Ordr (leR col) := ⟨fun _ _ _ h1 h2 => leO_trans h1 h2, fun _ _ => leO_total _ _⟩
theorem oneV_leR (col : Int) (x y : Hr) : oneV (colAt x.2 col) (colAt y.2 col) < 0 ↔ ¬ leR col y x := by
  rw [oneV_neg]
  unfold leR leO
  exact ⟨fun h h2 => h2 h, fun h => Classical.byContradiction h⟩
end Go.Proofs.Ytghaffafglfdlaa
