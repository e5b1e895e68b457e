/- Words for memory that the proofs of this seat share: how a slice reads as a list, a block that is known whole, what a call may have turned, and the laws of append, make and copy over these words. No program is named here. The sum of bytes, as plain functions on numbers: what the table-driven text and the bit-by-bit reference compute, and that the two are one. Strings of bytes as lists; slices of bytes. -/
import Derived.WalkKit
import Derived.WalkLawsBesides
import Derived.WalkSpells
import Derived.BigQuiet
import Derived.Handy
import Derived.Deep.QuietTactic
import Derived.Deep.RegionHeld3
import Derived.Deep.MidRow
import Derived.Deep.AppendLies
import Derived.Deep.DrawnRows
import Derived.Maps.AppendAt
import Derived.Laws.CopyOwn
import Derived.Lib.Hide
import Derived.Test.YtipnglidepfkbaaDoorChecked
import Derived.Laws.IdiomStrings
namespace Go.Proofs.YtipnglidepfkbaaDoor
set_option linter.unusedVariables false
set_option linter.unusedSimpArgs false
open Go.RowKit

/-- The walk is held at a goal, and let go again. -/
theorem hold {p : Prop} (h : Hid p) : p := h
theorem unhold {p : Prop} (h : p) : Hid p := h

/-- The same at the operation that writes slot d, at a store of type t. -/
theorem holdAt (d : Nat) {P : Program} {ops : Array Oper} {Q : Exit → Act → World → Prop} {op : Op} {t : TypeId} {pos : String} {after : Array Edge} {guard : Option (Nat × Bool)} {rest : List Oper} {a : Act} {w : World}
    (h : Hid (wpList P ops Q (⟨some d, op, t, pos, after, guard⟩ :: rest) a w)) : wpList P ops Q (⟨some d, op, t, pos, after, guard⟩ :: rest) a w := h
theorem holdStore (t : TypeId) {P : Program} {ops : Array Oper} {Q : Exit → Act → World → Prop} {x y : Operand} {t' : TypeId} {pos : String} {after : Array Edge} {guard : Option (Nat × Bool)} {rest : List Oper} {a : Act} {w : World}
    (h : Hid (wpList P ops Q (⟨none, .store t x y, t', pos, after, guard⟩ :: rest) a w)) : wpList P ops Q (⟨none, .store t x y, t', pos, after, guard⟩ :: rest) a w := h

/-! ### Blocks that are known whole -/

/-- Block g is the cells xs, of element type t, none frozen. -/
def Blk (w : World) (g : Nat) (t : TypeId) (xs : List Value) : Prop := w.heap[g]? = some (.cells xs.toArray t (0, 0))

namespace Blk
variable {w w' : World} {g : Nat} {t : TypeId} {xs : List Value}
theorem lt (h : Blk w g t xs) : g < w.heap.size := (Array.getElem?_eq_some_iff.1 h).1
theorem cell (h : Blk w g t xs) (i : Nat) : w.cell? ⟨g, i, none⟩ = xs[i]? := by
  rw [cell_of_row w g i _ t _ h]; simp
theorem frozen (h : Blk w g t xs) (i : Nat) : w.frozen? ⟨g, i, none⟩ = false := frozen_of_row w g i _ t h
theorem range (h : Blk w g t xs) : w.rangeAt g 0 xs := fun j v hv => by rw [Nat.zero_add, h.cell, hv]
theorem there (h : Blk w g t xs) : w.there g 0 xs.length := fun j hj => by
  rw [Nat.zero_add]
  exact ⟨by rw [h.cell, List.getElem?_eq_getElem hj]; rfl, h.frozen j⟩
theorem of_heap (h : Blk w g t xs) (e : w'.heap[g]? = w.heap[g]?) : Blk w' g t xs := e.trans h
theorem below (h : Blk w g t xs) (hb : Below w.heap.size w w') : Blk w' g t xs := h.of_heap (hb.block g h.lt)
theorem alloc (h : Blk w g t xs) (o : Obj) : Blk (w.alloc o) g t xs := h.of_heap (Below.heap_alloc w o g h.lt)
theorem new (w : World) (t : TypeId) (cs : Array Value) : Blk (w.alloc (.cells cs t)) w.heap.size t cs.toList := by
  unfold Blk
  rw [heap_alloc_new]
theorem drew (h : Blk w g t xs) : Blk w.drew g t xs := h
theorem drewN (h : Blk w g t xs) (n : Nat) : Blk (w.drewN n) g t xs := h
theorem set_ (h : Blk w g t xs) (i : Nat) (u : Value) : Blk (w.setCell ⟨g, i, none⟩ u) g t (xs.set i u) := by
  unfold Blk at h ⊢
  simp [World.setCell, Array.getElem?_modify, h]
theorem far (h : Blk w g t xs) {p : Addr} (hp : g ≠ p.block) (u : Value) : Blk (w.setCell p u) g t xs := h.of_heap (heap_setCell_other w p g u hp)
theorem grown {row : Option Nat} (h : Blk w g t xs) (hg : w.grownBy w' row) (hne : some g ≠ row) : Blk w' g t xs := h.of_heap (hg.block g h.lt hne)
theorem ne_of_type {g' : Nat} {t' : TypeId} {ys : List Value} (h : Blk w g t xs) (h' : Blk w g' t' ys) (hne : t ≠ t') : g ≠ g' := by
  rintro rfl
  unfold Blk at h h'
  rw [h] at h'
  injection h' with h'
  injection h' with _ e
  exact hne e
theorem uniq {t' : TypeId} {ys : List Value} (h : Blk w g t xs) (h' : Blk w g t' ys) : xs = ys := by
  unfold Blk at h h'
  rw [h] at h'
  injection h' with h'
  injection h' with e _
  simpa using e
end Blk

theorem heap_setCells_other (b k : Nat) (hk : k ≠ b) : ∀ (vs : List Value) (o : Nat) (w : World), (w.setCells b o vs).heap[k]? = w.heap[k]?
  | [], _, _ => rfl
  | v :: vs, o, w => by
    rw [World.setCells, heap_setCells_other b k hk vs]
    exact heap_setCell_other w _ k v hk
theorem size_setCells (b : Nat) : ∀ (vs : List Value) (o : Nat) (w : World), (w.setCells b o vs).heap.size = w.heap.size
  | [], _, _ => rfl
  | v :: vs, o, w => by
    rw [World.setCells, size_setCells b vs]
    simp [World.setCell]
theorem same_setCells (b : Nat) : ∀ (vs : List Value) (o : Nat) (w : World), (w.setCells b o vs).os = w.os ∧ (w.setCells b o vs).tape = w.tape ∧ (w.setCells b o vs).output = w.output
  | [], _, _ => ⟨rfl, rfl, rfl⟩
  | v :: vs, o, w => by
    rw [World.setCells]
    exact same_setCells b vs (o + 1) _
theorem below_setCells {B : Nat} {w0 w : World} (h : Below B w0 w) {b : Nat} (hb : B ≤ b) (vs : List Value) (o : Nat) : Below B w0 (w.setCells b o vs) := by
  obtain ⟨h1, h2, h3⟩ := same_setCells b vs o w
  exact h.trans ⟨h1, h2, h3, by rw [size_setCells]; exact Nat.le_refl _, fun k hk => heap_setCells_other b k (by omega) vs o w⟩
theorem Blk.sets {g : Nat} {t : TypeId} : ∀ (vs pre mid : List Value) (w : World), Blk w g t (pre ++ mid) → mid.length = vs.length → Blk (w.setCells g pre.length vs) g t (pre ++ vs)
  | [], pre, mid, w, h, hl => by
    obtain rfl : mid = [] := List.eq_nil_of_length_eq_zero hl
    exact h
  | v :: vs, pre, mid, w, h, hl => by
    obtain ⟨m, ms, rfl⟩ : ∃ m ms, mid = m :: ms := by
      cases mid with
      | nil => simp at hl
      | cons m ms => exact ⟨m, ms, rfl⟩
    have h1 := h.set_ pre.length v
    rw [List.set_append_right _ _ (Nat.le_refl _), Nat.sub_self, List.set_cons_zero] at h1
    have h2 := Blk.sets vs (pre ++ [v]) ms (w.setCell ⟨g, pre.length, none⟩ v) (by simpa using h1) (by simpa using hl)
    rw [World.setCells]
    simpa using h2
/-- A whole block stored anew. -/
theorem Blk.whole {w : World} {g : Nat} {t : TypeId} {xs vs : List Value} (h : Blk w g t xs) (hl : xs.length = vs.length) : Blk (w.setCells g 0 vs) g t vs := Blk.sets vs [] xs w h hl

/-! ### What a call may have turned: only blocks of some element types, and those from block B on -/

structure Keeps (T : List TypeId) (B : Nat) (w w' : World) : Prop where
  os : w'.os = w.os
  tape : w'.tape = w.tape
  output : w'.output = w.output
  size : w.heap.size ≤ w'.heap.size
  block : ∀ k, k < w.heap.size → (k < B ∨ ∀ c t f, w.heap[k]? = some (.cells c t f) → t ∉ T) → w'.heap[k]? = w.heap[k]?

namespace Keeps
variable {T : List TypeId} {B : Nat} {w w' w'' : World}
theorem refl (T : List TypeId) (B : Nat) (w : World) : Keeps T B w w := ⟨rfl, rfl, rfl, Nat.le_refl _, fun _ _ _ => rfl⟩
theorem trans (h : Keeps T B w w') (k : Keeps T B w' w'') : Keeps T B w w'' :=
  ⟨k.os.trans h.os, k.tape.trans h.tape, k.output.trans h.output, Nat.le_trans h.size k.size, fun i hi ht => by
    have e := h.block i hi ht
    rw [k.block i (Nat.lt_of_lt_of_le hi h.size) (by rw [e]; exact ht), e]⟩
theorem of_below (h : Below w.heap.size w w') : Keeps T B w w' := ⟨h.os, h.tape, h.output, h.size, fun k hk _ => h.block k hk⟩
theorem then_below (h : Keeps T B w w') (k : Below w'.heap.size w' w'') : Keeps T B w w'' := h.trans (of_below k)
theorem below (h : Keeps T B w w') (hB : B ≤ w.heap.size) : Below B w w' := ⟨h.os, h.tape, h.output, h.size, fun k hk => h.block k (by omega) (.inl hk)⟩
theorem setCell (h : Keeps T B w w') {g i : Nat} {t : TypeId} {xs : List Value} (hb : Blk w' g t xs) (ht : t ∈ T) (hB : B ≤ g) (u : Value) : Keeps T B w (w'.setCell ⟨g, i, none⟩ u) := by
  refine h.trans ⟨rfl, rfl, rfl, by simp [World.setCell], fun k hk hn => ?_⟩
  by_cases e : k = g
  · subst e
    rcases hn with hn | hn
    · omega
    · exact absurd ht (hn _ _ _ hb)
  · exact heap_setCell_other w' _ k u e
theorem drewN (h : Keeps T B w w') (n : Nat) : Keeps T B w (w'.drewN n) := ⟨h.os, h.tape, h.output, h.size, h.block⟩
theorem alloc (h : Keeps T B w w') (o : Obj) : Keeps T B w (w'.alloc o) := h.then_below ((Below.refl _ _).alloc (Nat.le_refl _) o)
/-- What turns only blocks that are younger than w turns nothing of w. -/
theorem then_young {T' : List TypeId} {B' : Nat} (h : Keeps T B w w') (k : Keeps T' B' w' w'') (hB : w.heap.size ≤ B') : Keeps T B w w'' :=
  ⟨k.os.trans h.os, k.tape.trans h.tape, k.output.trans h.output, Nat.le_trans h.size k.size, fun i hi ht =>
    (k.block i (Nat.lt_of_lt_of_le hi h.size) (.inl (Nat.lt_of_lt_of_le hi hB))).trans (h.block i hi ht)⟩
theorem more {T' : List TypeId} (h : Keeps T B w w') (ht : ∀ t ∈ T, t ∈ T') : Keeps T' B w w' :=
  ⟨h.os, h.tape, h.output, h.size, fun k hk hn => h.block k hk (hn.imp id fun f c t q e m => f c t q e (ht t m))⟩
end Keeps

theorem Blk.keeps {T : List TypeId} {B : Nat} {w w' : World} {g : Nat} {t : TypeId} {xs : List Value} (h : Blk w g t xs) (ht : t ∉ T) (hk : Keeps T B w w') : Blk w' g t xs :=
  h.of_heap (hk.block g h.lt (.inr fun c t' f e m => by
    unfold Blk at h
    rw [h] at e
    injection e with e
    injection e with _ e
    exact ht (e ▸ m)))

/-! ### Slices that read as lists -/

/-- The cells xs lie where the slice's address A points (nothing is asked of an empty list). -/
def Rd (w : World) (A : Option Addr) (xs : List Value) : Prop :=
  xs ≠ [] → ∃ b o, A = some ⟨b, o, none⟩ ∧ w.rangeAt b o xs

theorem Rd.nil (w : World) (A : Option Addr) : Rd w A [] := fun h => absurd rfl h

theorem lt_of_range {w : World} {b o : Nat} {xs : List Value} (h : w.rangeAt b o xs) (hn : xs ≠ []) : b < w.heap.size := by
  obtain ⟨x, t, rfl⟩ := List.exists_cons_of_ne_nil hn
  exact World.block_lt_of_cell? w ⟨b, o + 0, none⟩ (h 0 x rfl)

theorem range_of_heap {w w' : World} {b o : Nat} {xs : List Value} (h : w.rangeAt b o xs) (hb : w'.heap[b]? = w.heap[b]?) : w'.rangeAt b o xs :=
  fun j v hv => (World.cell?_of_block (a := ⟨b, o + j, none⟩) hb).trans (h j v hv)

/-- An element. -/
theorem Rd.get {w : World} {A : Option Addr} {xs : List Value} (h : Rd w A xs) {k : Nat} (hk : k < xs.length) :
    ∃ b o, A = some ⟨b, o, none⟩ ∧ b < w.heap.size ∧ w.rangeAt b o xs ∧ w.cell? ⟨b, o + k, none⟩ = some xs[k] := by
  have hn : xs ≠ [] := by rintro rfl; simp at hk
  obtain ⟨b, o, e, hr⟩ := h hn
  exact ⟨b, o, e, lt_of_range hr hn, hr, hr k _ (List.getElem?_eq_getElem hk)⟩

/-- What only makes memory leaves every reading as it was. -/
theorem Rd.below {w w' : World} {A : Option Addr} {xs : List Value} (h : Rd w A xs) (hb : Below w.heap.size w w') : Rd w' A xs := fun hn => by
  obtain ⟨b, o, e, hr⟩ := h hn
  exact ⟨b, o, e, range_of_heap hr (hb.block b (lt_of_range hr hn))⟩

/-- A reading of the world w0 stands in whatever leaves w0's blocks alone. -/
theorem Rd.at0 {w0 w w' : World} {A : Option Addr} {xs : List Value} (h : Rd w0 A xs) (hb : Below w0.heap.size w w') (h0 : Below w0.heap.size w0 w) : Rd w' A xs :=
  h.below (h0.trans hb)

theorem Rd.drew {w : World} {A : Option Addr} {xs : List Value} (h : Rd w A xs) : Rd w.drew A xs := h
theorem Rd.drewN {w : World} {A : Option Addr} {xs : List Value} (h : Rd w A xs) (n : Nat) : Rd (w.drewN n) A xs := h

theorem Rd.alloc {w : World} {A : Option Addr} {xs : List Value} (h : Rd w A xs) (o : Obj) : Rd (w.alloc o) A xs :=
  h.below ((Below.refl _ _).alloc (Nat.le_refl _) o)

/-- Behind a law that turns one row alone. -/
theorem Rd.grown {w w' : World} {A : Option Addr} {xs : List Value} {row : Option Nat} (h : Rd w A xs) (hg : w.grownBy w' row) (hne : ∀ b o, A = some ⟨b, o, none⟩ → some b ≠ row) : Rd w' A xs := fun hn => by
  obtain ⟨b, o, e, hr⟩ := h hn
  exact ⟨b, o, e, range_of_heap hr (hg.block b (lt_of_range hr hn) (hne b o e))⟩

/-- s[i:j] of a slice that reads as xs. -/
theorem Rd.part {w : World} {b o : Nat} {xs : List Value} (h : w.rangeAt b o xs) (i j : Nat) : w.rangeAt b (o + i) ((xs.drop i).take j) := fun k v hv => by
  have hk : (xs.drop i)[k]? = some v := by
    rw [List.getElem?_take] at hv
    split at hv
    · exact hv
    · simp at hv
  rw [List.getElem?_drop] at hk
  rw [Nat.add_assoc]
  exact h (i + k) v hk

theorem Rd.of_range {w : World} {b o : Nat} {xs : List Value} (h : w.rangeAt b o xs) : Rd w (some ⟨b, o, none⟩) xs := fun _ => ⟨b, o, rfl, h⟩

/-- A block just made. -/
theorem Rd.new (w : World) (cs : List Value) (t : TypeId) : Rd (w.alloc (.cells cs.toArray t)) (some ⟨w.heap.size, 0, none⟩) cs := fun _ =>
  ⟨w.heap.size, 0, rfl, fun j v hv => by simp [World.cell?_alloc_new, hv]⟩

/-! ### Rows of the call's own -/

/-- The slice (A, n, c) is the call's own: its row lies from block base on, and holds xs. -/
abbrev Own (w : World) (base : Nat) (e : TypeId) (size : Nat) (A : Option Addr) (n c : Nat) (xs : List Value) : Prop :=
  w.ownsRow base e size (.slice A n c) n xs

theorem Own.rd {w : World} {base : Nat} {e : TypeId} {size : Nat} {A : Option Addr} {n c : Nat} {xs : List Value} (h : Own w base e size A n c xs) : Rd w A xs := fun hn => by
  rcases h.2 with ⟨hv, h0⟩ | ⟨g, cap, cur, hv, hg, hh, hnc, hcm, hcs, ht⟩
  · have := h.1
    rw [h0] at this
    simp at this
    exact absurd this hn
  · injection hv with h1 h2 h3
    subst h1
    refine ⟨g, 0, rfl, fun j v hj => ?_⟩
    have := h.cells (g := g) rfl j v hj
    rwa [Addr.add_mid] at this

theorem Own.nil (w : World) (base : Nat) (e : TypeId) (size : Nat) : Own w base e size none 0 0 [] := World.ownsRow_nil w base e size

theorem Rd.of_blk {w : World} {g : Nat} {t : TypeId} {xs : List Value} (h : Blk w g t xs) : Rd w (some ⟨g, 0, none⟩) xs := Rd.of_range h.range

theorem Own.cap {w : World} {base : Nat} {e : TypeId} {size : Nat} {A : Option Addr} {n c : Nat} {xs : List Value} (h : Own w base e size A n c xs) : n ≤ c ∧ c ≤ maxLen := by
  rcases h.2 with ⟨hv, h0⟩ | ⟨g, cap, cur, hv, hg, hh, hnc, hcm, hcs, ht⟩
  · injection hv with h1 h2 h3
    subst h2; subst h3
    exact ⟨Nat.le_refl _, Nat.zero_le _⟩
  · injection hv with h1 h2 h3
    subst h3
    exact ⟨hnc, hcm⟩

/-- Its block lies from base on, is there, and bears the element's type. -/
theorem Own.lies {w : World} {base : Nat} {e : TypeId} {size : Nat} {A : Option Addr} {n c : Nat} {xs : List Value} (h : Own w base e size A n c xs) :
    (A = none ∧ n = 0 ∧ c = 0 ∧ xs = []) ∨ ∃ g cur, A = some ⟨g, 0, none⟩ ∧ base ≤ g ∧ g < w.heap.size ∧ w.heap[g]? = some (.cells cur e (0, 0)) ∧ cur.size = c * size ∧ cur.toList.take (n * size) = xs := by
  rcases h.2 with ⟨hv, h0⟩ | ⟨g, cap, cur, hv, hg, hh, hnc, hcm, hcs, ht⟩
  · injection hv with h1 h2 h3
    have hl := h.1
    rw [h0] at hl
    simp at hl
    exact .inl ⟨h1, h2, h3, hl⟩
  · injection hv with h1 h2 h3
    subst h1; subst h3
    exact .inr ⟨g, cur, rfl, hg, (Array.getElem?_eq_some_iff.1 hh).1, hh, hcs, ht⟩

/-- A row that is filled to its capacity is a block known whole. -/
theorem Own.blk {w : World} {base : Nat} {e : TypeId} {size : Nat} {g n : Nat} {xs : List Value} (h : Own w base e size (some ⟨g, 0, none⟩) n n xs) : Blk w g e xs ∧ base ≤ g := by
  rcases h.lies with ⟨hA, _⟩ | ⟨g', cur, hA, hb, hlt, hh, hs, ht⟩
  · cases hA
  · injection hA with hA
    injection hA with hA
    subst hA
    refine ⟨?_, hb⟩
    rw [List.take_of_length_le (by rw [Array.length_toList, hs]; exact Nat.le_refl _)] at ht
    subst ht
    unfold Blk
    rw [hh]

theorem Own.below {w w' : World} {base : Nat} {e : TypeId} {size : Nat} {A : Option Addr} {n c : Nat} {xs : List Value} (h : Own w base e size A n c xs) (hb : Below w.heap.size w w') : Own w' base e size A n c xs := by
  refine ⟨h.1, ?_⟩
  rcases h.2 with hn | ⟨g, cap, cur, hv, hg, hh, rest⟩
  · exact .inl hn
  · refine .inr ⟨g, cap, cur, hv, hg, ?_, rest⟩
    rw [hb.block g (Array.getElem?_eq_some_iff.1 hh).1]
    exact hh

theorem Own.lower {w : World} {base base' : Nat} {e : TypeId} {size : Nat} {A : Option Addr} {n c : Nat} {xs : List Value} (h : Own w base e size A n c xs) (hb : base' ≤ base) : Own w base' e size A n c xs := by
  refine ⟨h.1, ?_⟩
  rcases h.2 with hn | ⟨g, cap, cur, hv, hg, rest⟩
  · exact .inl hn
  · exact .inr ⟨g, cap, cur, hv, by omega, rest⟩

/-- What is known of a slice type t of elements e: cells and bytes of an element, its zero. -/
structure ElemT (P : Program) (t e : TypeId) (size bytes : Nat) (z : Value) : Prop where
  under : P.underlying t = some (.slice e)
  info : ∃ i, P.info? e = some i ∧ i.zero = some z ∧ i.size = size ∧ i.bytes = bytes
  zsize : z.cells.size = size
  pos : 0 < size

theorem ElemT.mk' {P : Program} {t e : TypeId} {size bytes : Nat} {z : Value} (h1 : P.underlying t = some (.slice e)) (h2 : (P.info? e).map (fun i => (i.zero, i.size, i.bytes)) = some (some z, size, bytes)) (h3 : z.cells.size = size) (h4 : 0 < size) : ElemT P t e size bytes z :=
  ⟨h1, info_parts h2, h3, h4⟩

section
variable {P : Program}

/-- append onto a row of the call's own, whatever the source (nil, empty or not): the new slice is the call's own; it lies in the old one's block or in the block that was just made. -/
theorem run_apd (w : World) {t e : TypeId} {size bytes : Nat} {z : Value} (E : ElemT P t e size bytes z) (ty : TypeId) (base : Nat) (A : Option Addr) (n c : Nat) (xs : List Value) (hown : Own w base e size A n c xs)
    (S : Option Addr) (m k : Nat) (news : List Value) (hl : news.length = m * size) (hr : Rd w S news) (h1 : ∀ u ∈ news, u.oneCell' = true)
    (hbytes : (n + m) * bytes ≤ 140737488355328) (hb0 : 0 < bytes) (hbase : base ≤ w.heap.size) :
    ∃ A' c' w', (Builtin.append_ #[t, t] ty #[.slice A n c, .slice S m k]).run P w = .ok (.slice A' (n + m) c') w' ∧ Own w' base e size A' (n + m) c' (xs ++ news) ∧ w.grownBy w' (Value.slice A n c).ownBlock ∧
      ((Value.slice A' (n + m) c').ownBlock = (Value.slice A n c).ownBlock ∨ (Value.slice A' (n + m) c').ownBlock = some w.heap.size) := by
  obtain ⟨hu, ⟨i, hi, hz, hs, hby⟩, hzs, hp⟩ := E
  have h63 : n + m ≤ maxLen := by
    have : n + m ≤ (n + m) * bytes := Nat.le_mul_of_pos_right _ hb0
    simp only [maxLen]
    omega
  have key : ∀ ad : Addr, (∀ j u, news[j]? = some u → w.cell? (ad.add j) = some u) → ∀ v', v' = Value.slice (some ad) m k → ∃ A' c' w', (Builtin.append_ #[t, t] ty #[.slice A n c, v']).run P w = .ok (.slice A' (n + m) c') w' ∧ Own w' base e size A' (n + m) c' (xs ++ news) ∧ w.grownBy w' (Value.slice A n c).ownBlock ∧
      ((Value.slice A' (n + m) c').ownBlock = (Value.slice A n c).ownBlock ∨ (Value.slice A' (n + m) c').ownBlock = some w.heap.size) := by
    intro ad hc v' hv'
    subst hv'
    obtain ⟨v', w', hrun, ho, hg, _, hat⟩ := run_append_own_at (P := P) w base t ty e i z size bytes hu hi hz hs hby hzs hp (.slice A n c) n xs hown ad m k news hl hc h1 h63 hbytes hbase
    have hv : ∃ A' c', v' = .slice A' (n + m) c' := by
      rcases ho.2 with ⟨hv, h0⟩ | ⟨g, cap, cur, hv, _⟩
      · exact ⟨none, 0, by rw [hv, h0]⟩
      · exact ⟨_, _, hv⟩
    obtain ⟨A', c', rfl⟩ := hv
    exact ⟨A', c', w', hrun, ho, hg, hat⟩
  rcases S with _ | ad
  · have hn : news = [] := by
      rcases List.eq_nil_or_concat news with h | ⟨_, _, h⟩
      · exact h
      · obtain ⟨b, o, he, _⟩ := hr (by rw [h]; simp)
        cases he
    subst hn
    have hm : m = 0 := by
      rcases Nat.eq_zero_or_pos m with h | h
      · exact h
      · have := Nat.mul_pos h hp
        simp at hl
        omega
    subst hm
    refine ⟨A, c, w, ?_, by simpa using hown, World.grownBy.refl w _, .inl rfl⟩
    rcases hown.2 with ⟨hv, h0⟩ | ⟨g, cap, cur, hv, _, _, hnc, _⟩
    · injection hv with h1 h2 h3
      subst h1; subst h3; subst h0
      simp [Builtin.append_, run_underlying hu, sizeOf, typeInfo, hi, Builtin.lenOf, Builtin.firstCells]
    · injection hv with h1 h2 h3
      subst h1; subst h3
      simp [Builtin.append_, run_underlying hu, sizeOf, typeInfo, hi, Builtin.lenOf, Builtin.firstCells, hnc, storeCells]
  · by_cases hn : news = []
    · exact key ad (fun j u hu => by rw [hn] at hu; simp at hu) _ rfl
    · obtain ⟨b, o, he, hr'⟩ := hr hn
      injection he with he
      subst he
      exact key _ (fun j u hu => by rw [Addr.add_mid]; exact hr' j u hu) _ rfl

theorem wp_apd {o : Oper} {a : Act} {w : World} {K : Act → World → Prop} {Q : Exit → Act → World → Prop} (s x : Operand) (t : TypeId)
    (ho : o.op = .call { callee := .builtin .append, args := #[s, x], argTypes := #[t, t] })
    {e : TypeId} {size bytes : Nat} {z : Value} (E : ElemT P t e size bytes z) (base : Nat) (A : Option Addr) (n c : Nat) (xs : List Value) (hs : a.eval s = .slice A n c) (hown : Own w base e size A n c xs)
    (S : Option Addr) (m k : Nat) (news : List Value) (hx : a.eval x = .slice S m k) (hl : news.length = m * size) (hr : Rd w S news) (h1 : ∀ u ∈ news, u.oneCell' = true)
    (N : Nat) (hN : n + m = N) (ys : List Value) (hys : xs ++ news = ys) (hbytes : N * bytes ≤ 140737488355328) (hb0 : 0 < bytes) (hbase : base ≤ w.heap.size)
    (h : ∀ A' c' w', Own w' base e size A' N c' ys → w.grownBy w' (Value.slice A n c).ownBlock → ((Value.slice A' N c').ownBlock = (Value.slice A n c).ownBlock ∨ (Value.slice A' N c').ownBlock = some w.heap.size) →
      K (a.put o.dst (.slice A' N c')) w') : o.wp P a w K Q := by
  subst hN
  subst hys
  obtain ⟨A', c', w', hrun, h2, h3, h4⟩ := run_apd (P := P) w E o.type base A n c xs hown S m k news hl hr h1 hbytes hb0 hbase
  unfold Oper.wp execOp
  simp only [ho, resolve, invoke, builtin, Sem.run_bind, Sem.run_pure, Result.andThen_ok, List.map_toArray, List.map_cons, List.map_nil, hs, hx, hrun]
  exact h A' c' w' h2 h3 h4

theorem wpList_apd {ops : Array Oper} {rest : List Oper} {o : Oper} {a : Act} {w : World} {Q : Exit → Act → World → Prop} (hgd : o.guard = none) (s x : Operand) (t : TypeId)
    (ho : o.op = .call { callee := .builtin .append, args := #[s, x], argTypes := #[t, t] })
    {e : TypeId} {size bytes : Nat} {z : Value} (E : ElemT P t e size bytes z) (base : Nat) (A : Option Addr) (n c : Nat) (xs : List Value) (hs : a.eval s = .slice A n c) (hown : Own w base e size A n c xs)
    (S : Option Addr) (m k : Nat) (news : List Value) (hx : a.eval x = .slice S m k) (hl : news.length = m * size) (hr : Rd w S news) (h1 : ∀ u ∈ news, u.oneCell' = true)
    (N : Nat) (hN : n + m = N) (ys : List Value) (hys : xs ++ news = ys) (hbytes : N * bytes ≤ 140737488355328) (hb0 : 0 < bytes) (hbase : base ≤ w.heap.size)
    (h : ∀ A' c' w', Own w' base e size A' N c' ys → w.grownBy w' (Value.slice A n c).ownBlock → ((Value.slice A' N c').ownBlock = (Value.slice A n c).ownBlock ∨ (Value.slice A' N c').ownBlock = some w.heap.size) →
      wpList P ops Q rest (a.put o.dst (.slice A' N c')) w') : wpList P ops Q (o :: rest) a w :=
  wpList_plain hgd fun _ hK => wp_apd s x t ho E base A n c xs hs hown S m k news hx hl hr h1 N hN ys hys hbytes hb0 hbase fun A' c' w' h2 h3 h4 => hK _ _ (h A' c' w' h2 h3 h4)

/-- The same as a step of a region that draws its order. -/
theorem step_apd {ops : Array Oper} {o : Oper} {a : Act} {w : World} {K : Act → World → Prop} {Q : Exit → Act → World → Prop} {G : Prop} (hgd : o.guard = none) (s x : Operand) (t : TypeId)
    (ho : o.op = .call { callee := .builtin .append, args := #[s, x], argTypes := #[t, t] })
    {e : TypeId} {size bytes : Nat} {z : Value} (E : ElemT P t e size bytes z) (base : Nat) (A : Option Addr) (n c : Nat) (xs : List Value) (hs : a.eval s = .slice A n c) (hown : Own w base e size A n c xs)
    (S : Option Addr) (m k : Nat) (news : List Value) (hx : a.eval x = .slice S m k) (hl : news.length = m * size) (hr : Rd w S news) (h1 : ∀ u ∈ news, u.oneCell' = true)
    (N : Nat) (hN : n + m = N) (ys : List Value) (hys : xs ++ news = ys) (hbytes : N * bytes ≤ 140737488355328) (hb0 : 0 < bytes) (hbase : base ≤ w.heap.size)
    (h : ∀ A' c' w', Own w' base e size A' N c' ys → w.grownBy w' (Value.slice A n c).ownBlock → ((Value.slice A' N c').ownBlock = (Value.slice A n c).ownBlock ∨ (Value.slice A' N c').ownBlock = some w.heap.size) →
      K (a.put o.dst (.slice A' N c')) w') :
    if Region.wanted o (yielded ops a.tmps) = true then Oper.wp P o a w K Q else G := by
  have hw : Region.wanted o (yielded ops a.tmps) = true := by simp [Region.wanted, hgd]
  rw [if_pos hw]
  exact wp_apd s x t ho E base A n c xs hs hown S m k news hx hl hr h1 N hN ys hys hbytes hb0 hbase h

/-- make([]T, 0, n). -/
theorem wpList_mk0 {ops : Array Oper} {rest : List Oper} {o : Oper} {a : Act} {w : World} {Q : Exit → Act → World → Prop} (hg : o.guard = none) (l c : Operand) (t : TypeId) (hop : o.op = Op.makeSlice t l c)
    {e : TypeId} {size bytes : Nat} {z : Value} (E : ElemT P t e size bytes z) (base : Nat) (kl kc : IntKind) (C : Int) (n : Nat) (hl : a.eval l = .int kl 0) (hc : a.eval c = .int kc C) (hC : C = (n : Int)) (b2 : bytes * n ≤ 281474976710656) (b3 : n ≤ maxLen) (b4 : base ≤ w.heap.size)
    (hK : ∀ w', Own w' base e size (some ⟨w.heap.size, 0, none⟩) 0 n [] → Below w.heap.size w w' → w.heap.size < w'.heap.size → wpList P ops Q rest (a.put o.dst (.slice (some ⟨w.heap.size, 0, none⟩) 0 n)) w') :
    wpList P ops Q (o :: rest) a w := by
  obtain ⟨hu, ⟨i, hi, hz, hs, hby⟩, hzs, hp⟩ := E
  refine wpList_make_own w hg l c t hop base e i z size hu hi hz hs kl kc C n hl hc hC (by rw [hby]; exact b2) b3 b4 fun w' ho hgr => hK w' ho ⟨hgr.os, hgr.tape, hgr.output, hgr.size, fun k hk => hgr.block k hk (by simp)⟩ ?_
  exact (ho.lt w.heap.size rfl).2

/-- make([]T, n). -/
theorem wpList_mkn {ops : Array Oper} {rest : List Oper} {o : Oper} {a : Act} {w : World} {Q : Exit → Act → World → Prop} (hg : o.guard = none) (l c : Operand) (t : TypeId) (hop : o.op = Op.makeSlice t l c)
    {e : TypeId} {size bytes : Nat} {z : Value} (E : ElemT P t e size bytes z) (base : Nat) (kl kc : IntKind) (L C : Int) (n : Nat) (hl : a.eval l = .int kl L) (hc : a.eval c = .int kc C) (hL : L = (n : Int)) (hC : C = (n : Int)) (b2 : bytes * n ≤ 281474976710656) (b3 : n ≤ maxLen) (b4 : base ≤ w.heap.size)
    (hK : ∀ w', Own w' base e size (some ⟨w.heap.size, 0, none⟩) n n (madeCells z.cells (n * size)).toList → Below w.heap.size w w' → w.heap.size < w'.heap.size → wpList P ops Q rest (a.put o.dst (.slice (some ⟨w.heap.size, 0, none⟩) n n)) w') :
    wpList P ops Q (o :: rest) a w := by
  obtain ⟨hu, ⟨i, hi, hz, hs, hby⟩, hzs, hp⟩ := E
  refine wpList_make_full w hg l c t hop base e i z size hu hi hz hs kl kc L C n hl hc hL hC (by rw [hby]; exact b2) b3 b4 fun w' ho hgr => hK w' ho ⟨hgr.os, hgr.tape, hgr.output, hgr.size, fun k hk => hgr.block k hk (by simp)⟩ ?_
  exact (ho.lt w.heap.size rfl).2
end

/-- A world that turned one row alone, and that from base on. -/
theorem below_grown {B : Nat} {w0 w w' : World} {row : Option Nat} (h : Below B w0 w) (hg : w.grownBy w' row) (hB : B ≤ w.heap.size) (hr : ∀ k, row = some k → B ≤ k) : Below B w0 w' := h.grown hg hB hr

theorem Own.row_ge {w : World} {base : Nat} {e : TypeId} {size : Nat} {A : Option Addr} {n c : Nat} {xs : List Value} (h : Own w base e size A n c xs) : ∀ k, (Value.slice A n c).ownBlock = some k → base ≤ k := fun k hk => (h.lt k hk).1

theorem below_drewN' {B : Nat} {a w : World} (h : Below B a w) (n : Nat) : Below B a (w.drewN n) := ⟨h.os, h.tape, h.output, h.size, h.block⟩


theorem Own.keeps {T : List TypeId} {B : Nat} {w w' : World} {base : Nat} {e : TypeId} {size : Nat} {A : Option Addr} {n c : Nat} {xs : List Value} (h : Own w base e size A n c xs) (ht : e ∉ T) (hk : Keeps T B w w') : Own w' base e size A n c xs := by
  refine ⟨h.1, ?_⟩
  rcases h.2 with hn | ⟨g, cap, cur, hv, hg, hh, rest⟩
  · exact .inl hn
  · refine .inr ⟨g, cap, cur, hv, hg, ?_, rest⟩
    rw [hk.block g (Array.getElem?_eq_some_iff.1 hh).1 (.inr fun c t' f e' m => by
      rw [hh] at e'
      injection e' with e'
      injection e' with _ e'
      exact ht (e' ▸ m))]
    exact hh

/-- An append onto a row of elements e turns blocks of elements e alone. -/
theorem Own.apd_keeps {w w' : World} {base : Nat} {e : TypeId} {size : Nat} {A : Option Addr} {n c : Nat} {xs : List Value} (h : Own w base e size A n c xs) (hg : w.grownBy w' (Value.slice A n c).ownBlock) : Keeps [e] base w w' := by
  refine ⟨hg.os, hg.tape, hg.output, hg.size, fun k hk hn => hg.block k hk fun er => ?_⟩
  rcases h.lies with ⟨ha, _⟩ | ⟨g, cur, ha, hb, _, hh, _⟩
  · subst ha
    simp [Value.ownBlock] at er
  · subst ha
    simp [Value.ownBlock] at er
    subst er
    rcases hn with hn | hn
    · omega
    · exact absurd (List.mem_singleton.2 rfl) (hn _ _ _ hh)

/-- A slice that reads as xs, and goes on doing so behind a call that keeps all but blocks of the types T from block B on. -/
def Rs (T : List TypeId) (B : Nat) (w : World) (A : Option Addr) (xs : List Value) : Prop :=
  xs ≠ [] → ∃ b o, A = some ⟨b, o, none⟩ ∧ w.rangeAt b o xs ∧ (b < B ∨ ∀ c t f, w.heap[b]? = some (.cells c t f) → t ∉ T)

namespace Rs
variable {T : List TypeId} {B : Nat} {w w' : World} {A : Option Addr} {xs : List Value}
theorem rd (h : Rs T B w A xs) : Rd w A xs := fun hn => by
  obtain ⟨b, o, e, hr, _⟩ := h hn
  exact ⟨b, o, e, hr⟩
theorem nil (T : List TypeId) (B : Nat) (w : World) (A : Option Addr) : Rs T B w A [] := fun h => absurd rfl h
theorem keeps (h : Rs T B w A xs) (hk : Keeps T B w w') : Rs T B w' A xs := fun hn => by
  obtain ⟨b, o, e, hr, ht⟩ := h hn
  have eb := hk.block b (lt_of_range hr hn) ht
  exact ⟨b, o, e, range_of_heap hr eb, by rw [eb]; exact ht⟩
theorem of_arg (h : Rd w A xs) (hB : ∀ b o, A = some ⟨b, o, none⟩ → b < B) : Rs T B w A xs := fun hn => by
  obtain ⟨b, o, e, hr⟩ := h hn
  exact ⟨b, o, e, hr, .inl (hB b o e)⟩
theorem of_own {base : Nat} {e : TypeId} {size n c : Nat} (h : Own w base e size A n c xs) (ht : e ∉ T) : Rs T B w A xs := fun hn => by
  obtain ⟨b, o, ea, hr⟩ := h.rd hn
  refine ⟨b, o, ea, hr, .inr fun c t f eb m => ?_⟩
  rcases h.lies with ⟨ha, _, _, hx⟩ | ⟨g, cur, ha, _, _, hh, _⟩
  · exact absurd hx hn
  · rw [ha] at ea
    injection ea with ea
    injection ea with e1 e2
    subst e1
    rw [hh] at eb
    injection eb with eb
    injection eb with _ eb
    exact ht (eb ▸ m)
theorem drop {b o : Nat} (h : Rs T B w (some ⟨b, o, none⟩) xs) (i : Nat) : Rs T B w (some ⟨b, o + i, none⟩) (xs.drop i) := fun hn => by
  obtain ⟨b', o', e, hr, ht⟩ := h (fun e => hn (by rw [e, List.drop_nil]))
  injection e with e
  injection e with e1 e2
  subst e1; subst e2
  refine ⟨b, o + i, rfl, fun j v hv => ?_, ht⟩
  rw [List.getElem?_drop] at hv
  rw [Nat.add_assoc]
  exact hr _ v hv
theorem of_blk {g : Nat} {t : TypeId} (h : Blk w g t xs) (ht : t ∉ T) : Rs T B w (some ⟨g, 0, none⟩) xs := fun _ =>
  ⟨g, 0, rfl, h.range, .inr fun c t' f eb m => by
    unfold Blk at h
    rw [h] at eb
    injection eb with eb
    injection eb with _ eb
    exact ht (eb ▸ m)⟩
end Rs

end Go.Proofs.YtipnglidepfkbaaDoor
namespace Go.Proofs.YtipnglidepfkbaaDoor
set_option linter.unusedVariables false
set_option linter.unusedSimpArgs false

/-- A byte, a list of bytes, as values. -/
abbrev B (c : UInt8) : Value := .int .u8 (c.toNat : Int)
abbrev Bs (l : List UInt8) : List Value := l.map B

theorem Bs_one (l : List UInt8) : ∀ u ∈ Bs l, u.oneCell' = true := by
  intro u hu
  obtain ⟨_, _, rfl⟩ := List.mem_map.1 hu
  rfl

theorem run_part_byte {P : Program} {e : TypeId} (he : P.underlying e = some (.int .u8)) (l : List UInt8) (i : Nat) (hi : i < l.length) (w : World) : (part e (Bs l).toArray i).run P w = .ok (B l[i]) w := by
  have h : (isAgg e).run P w = .ok false w := by
    unfold isAgg
    rw [Sem.run_bind, run_underlying he w]
    simp
  simp [part, Sem.run_bind, h, hi]

theorem run_eq_bytes {P : Program} {t e : TypeId} {n : Nat} (ht : P.underlying t = some (.array n e)) (he : P.underlying e = some (.int .u8)) (hz : (P.info? e).map (·.size) = some 1) (xs ys : List UInt8) (hx : xs.length = n) (hy : ys.length = n) (d : Nat) (w : World) :
    (Op.equalIn (d + 2) t (.agg (Bs xs).toArray) (.agg (Bs ys).toArray)).run P w = .ok (decide (xs = ys)) w := by
  have hs : (sizeOf e).run P w = .ok 1 w := by
    cases hq : P.info? e with
    | none => simp [hq] at hz
    | some i =>
      have : i.size = 1 := by simpa [hq] using hz
      simp [sizeOf, typeInfo, hq, this]
  rw [Op.equalIn]
  simp only [Sem.run_bind, run_underlying ht, Result.andThen_ok, hs, Nat.mul_one, Std.Legacy.Range.forIn_eq_forIn_range']
  have key : ∀ m k, k + m = n → (Sem.run P (forIn (List.range' k m 1) ((none : Option Bool), ()) fun i _ => do
      let a ← part e (Bs xs).toArray i
      let b ← part e (Bs ys).toArray i
      let r ← Op.equalIn (d + 1) e a b
      if (!r) = true then pure (ForInStep.done (some false, ())) else pure (ForInStep.yield (none, ()))) w) = .ok (if xs.drop k = ys.drop k then none else some false, ()) w := by
    intro m
    induction m with
    | zero =>
      intro k hk
      rw [List.drop_of_length_le (by omega), List.drop_of_length_le (by omega)]
      simp
    | succ m ih =>
      intro k hk
      have hxk : k < xs.length := by omega
      have hyk : k < ys.length := by omega
      rw [List.range'_succ, List.forIn_cons]
      simp only [Sem.run_bind, run_part_byte he xs k hxk, run_part_byte he ys k hyk, Result.andThen_ok, B, run_equalIn_int w d e .u8 .u8 _ _ he]
      by_cases hc : xs[k] = ys[k]
      · have h3 : (xs.drop k = ys.drop k) ↔ (xs.drop (k + 1) = ys.drop (k + 1)) := by
          rw [List.drop_eq_getElem_cons hxk, List.drop_eq_getElem_cons hyk, hc]
          exact ⟨fun h => (List.cons.inj h).2, fun h => by rw [h]⟩
        rw [hc]
        simp only [beq_self_eq_true, Bool.not_true, Bool.false_eq_true, if_false, Sem.run_pure, Result.andThen_ok, h3]
        exact ih (k + 1) (by omega)
      · have hne : (((xs[k].toNat : Int) == (ys[k].toNat : Int)) = false) := by
          rw [beq_eq_false_iff_ne]
          intro h
          exact hc (UInt8.toNat_inj.1 (by omega))
        have h3 : ¬ (xs.drop k = ys.drop k) := by
          rw [List.drop_eq_getElem_cons hxk, List.drop_eq_getElem_cons hyk]
          exact fun h => hc (List.cons.inj h).1
        simp only [hne, Bool.not_false, if_true, Sem.run_pure, Result.andThen_ok, h3, if_false]
  have hk := key n 0 (by omega)
  simp only [List.drop_zero] at hk
  have e1 : ([:n] : Std.Legacy.Range).size = n := by simp [Std.Legacy.Range.size]
  rw [e1]
  rw [hk]
  by_cases hc : xs = ys <;> simp [hc]

namespace Crc
/-- A sum behind one bit 0 more. -/
def turn1 (n : Nat) : Nat := (n * 2 % 4294967296) ^^^ (n / 2147483648 * 2168537515)
def turnN : Nat → Nat → Nat
  | 0, n => n
  | k + 1, n => turnN k (turn1 n)
def turn (n : Nat) : Nat := turnN 8 n
def tab (i : Nat) : Nat := turn (i * 16777216)
/-- A sum with a byte behind it. -/
def byte (s : Nat) (c : UInt8) : Nat := (s * 256 % 4294967296) ^^^ tab ((s / 16777216) ^^^ c.toNat)
def more (s : Nat) (l : List UInt8) : Nat := l.foldl byte s
def of (l : List UInt8) : Nat := more 4294967295 l
/-- A number's byte k, counted from the least. -/
def part (n k : Nat) : UInt8 := UInt8.ofNat (n / 256 ^ k)
def seal_ (l : List UInt8) : List UInt8 := l ++ [part (of l) 3, part (of l) 2, part (of l) 1, part (of l) 0]

theorem turn1_lt {n : Nat} (h : n < 4294967296) : turn1 n < 4294967296 := by
  unfold turn1
  refine Nat.xor_lt_two_pow (n := 32) (by omega) ?_
  have : n / 2147483648 ≤ 1 := by omega
  have : n / 2147483648 * 2168537515 ≤ 1 * 2168537515 := Nat.mul_le_mul_right _ this
  omega
theorem turnN_lt : ∀ (k : Nat) {n : Nat}, n < 4294967296 → turnN k n < 4294967296
  | 0, _, h => h
  | k + 1, _, h => turnN_lt k (turn1_lt h)
theorem turnN_succ : ∀ (k n : Nat), turnN (k + 1) n = turn1 (turnN k n)
  | 0, _ => rfl
  | k + 1, n => turnN_succ k (turn1 n)
theorem tab_lt {i : Nat} (h : i < 256) : tab i < 4294967296 := turnN_lt 8 (by omega)
theorem byte_lt {s : Nat} (h : s < 4294967296) (c : UInt8) : byte s c < 4294967296 := by
  unfold byte
  refine Nat.xor_lt_two_pow (n := 32) (by omega) (tab_lt ?_)
  have := c.toNat_lt
  exact Nat.xor_lt_two_pow (n := 8) (by omega) (by omega)
theorem idx_lt {s : Nat} (h : s < 4294967296) (c : UInt8) : (s / 16777216) ^^^ c.toNat < 256 := by
  have := c.toNat_lt
  exact Nat.xor_lt_two_pow (n := 8) (by omega) (by omega)
theorem more_lt : ∀ (l : List UInt8) {s : Nat}, s < 4294967296 → more s l < 4294967296
  | [], _, h => h
  | c :: l, _, h => more_lt l (byte_lt h c)
theorem of_lt (l : List UInt8) : of l < 4294967296 := more_lt l (by omega)
theorem more_snoc (s : Nat) (l : List UInt8) (c : UInt8) : more s (l ++ [c]) = byte (more s l) c := by simp [more]
theorem length_seal (l : List UInt8) : (seal_ l).length = l.length + 4 := by simp [seal_]

/-- A row of n cells that all hold v. -/
def zrow (n : Nat) (v : Value) : Array Value := (List.replicate n v).toArray
/-- The table's cells when the first k are done. -/
def row (k : Nat) : Array Value := ((List.range 256).map fun i => Value.int .u32 ((if i < k then tab i else 0 : Nat) : Int)).toArray
theorem row_size (k : Nat) : (row k).size = 256 := by simp [row]
theorem row_get (k i : Nat) (h : i < 256) : (row k)[i]? = some (.int .u32 ((if i < k then tab i else 0 : Nat) : Int)) := by
  simp [row, h]
theorem row_set (k : Nat) (h : k < 256) : (row k).setIfInBounds k (.int .u32 (tab k : Nat)) = row (k + 1) := by
  apply Array.ext_getElem?
  intro i
  rw [Array.getElem?_setIfInBounds]
  by_cases hi : k = i
  · subst hi
    rw [if_pos rfl, if_pos (by rw [row_size]; exact h), row_get _ _ h, if_pos (by omega)]
  · rw [if_neg hi]
    by_cases h6 : i < 256
    · rw [row_get _ _ h6, row_get _ _ h6]
      by_cases h7 : i < k
      · rw [if_pos h7, if_pos (by omega)]
      · rw [if_neg h7, if_neg (by omega)]
    · rw [Array.getElem?_eq_none (by rw [row_size]; omega), Array.getElem?_eq_none (by rw [row_size]; omega)]
theorem row_zero : row 0 = zrow 256 (.int .u32 0) := by kernel_rfl

theorem part_toNat (n k : Nat) : (part n k).toNat = n / 256 ^ k % 256 := by simp [part]
theorem seal_cells (l : List UInt8) : Bs l ++ [.int .u8 ((of l : Int) / 16777216), .int .u8 ((of l : Int) / 65536 % 256), .int .u8 ((of l : Int) / 256 % 256), .int .u8 ((of l : Int) % 256)] = Bs (seal_ l) := by
  have h := of_lt l
  unfold seal_
  simp only [List.map_append, List.map_cons, List.map_nil, B, part_toNat]
  have e3 : ((of l : Int) / 16777216) = ((of l / 256 ^ 3 % 256 : Nat) : Int) := by omega
  have e2 : ((of l : Int) / 65536 % 256) = ((of l / 256 ^ 2 % 256 : Nat) : Int) := by omega
  have e1 : ((of l : Int) / 256 % 256) = ((of l / 256 ^ 1 % 256 : Nat) : Int) := by omega
  have e0 : ((of l : Int) % 256) = ((of l / 256 ^ 0 % 256 : Nat) : Int) := by omega
  rw [e3, e2, e1, e0]
end Crc
end Go.Proofs.YtipnglidepfkbaaDoor
namespace Go.Proofs.YtipnglidepfkbaaDoor
set_option linter.unusedVariables false
set_option linter.unusedSimpArgs false
open Go.RowKit

/-- A string of these bytes. -/
def St8 (l : List UInt8) : ByteArray := ⟨l.toArray⟩
theorem St8_list (l : List UInt8) : (St8 l).toList = l := by rw [ByteArray.toList_eq]; rfl
theorem St8_inj {l m : List UInt8} (h : St8 l = St8 m) : l = m := by
  have := congrArg ByteArray.toList h
  rwa [St8_list, St8_list] at this
theorem St8_eq (l m : List UInt8) : (St8 l == St8 m) = decide (l = m) := by
  have e : (St8 l == St8 m) = (l.toArray == m.toArray) := rfl
  rw [e]
  by_cases h : l = m
  · subst h; simp
  · simp [h]
theorem St8_cmp (l m : List UInt8) : ((St8 l).toList == (St8 m).toList) = decide (l = m) := by
  rw [St8_list, St8_list]
  by_cases h : l = m
  · subst h; simp
  · simp [h]
theorem St8_size (l : List UInt8) : (St8 l).size = l.length := by simp [St8, ByteArray.size]

theorem E8 : ElemT Tryd.prog 22 5 1 1 (.int .u8 0) := ElemT.mk' (by kernel_rfl) (by kernel_rfl) rfl (by omega)
end Go.Proofs.YtipnglidepfkbaaDoor
