/- A set of numbers: a map[int]bool of the call's own, that is asked and stored into. -/
import Derived.Test.YtjjmnjgkodiibaaMPaAC
import Derived.Test.YtjjmnjgkodiibaaMRStS
import Derived.Maps.Own
import Derived.Maps.OwnSet
import Derived.Maps.Views
import Derived.Maps.Keyed
namespace Go.Proofs.Ytjjmnjgkodiibaa
open Go.RowKit Go.ChangeMaps Go.MapKept Go.WideShapes

theorem setKeyed : Maps.Keyed Try.prog 3 := Maps.int_keyed Try.underlying3

/-- The map at block b: whether a number is in it. -/
def SetAt (w : World) (b n : Nat) (C : Int → Bool) : Prop :=
  ∃ D : DataW Unit, w.ownsMap Try.prog 3 (plainElem Try.prog 4) b n D ∧ ∀ z, D.atKey (.int .i64 z) (.lit (.bool false)) = .lit (.bool (C z))

theorem i64_wf {z : Int} (h1 : -9223372036854775808 ≤ z) (h2 : z ≤ 9223372036854775807) : (Lit.int .i64 z).wf = true := by
  simp [Lit.wf, IntKind.min, IntKind.max, IntKind.signed, IntKind.bits]
  omega

namespace SetAt
variable {w w' : World} {b n : Nat} {C : Int → Bool}
theorem made (w : World) : SetAt (w.alloc (.map #[] 0)) w.heap.size 0 fun _ => false :=
  ⟨.map [], World.ownsMap_made w _ _ _, fun z => rfl⟩
theorem kept {T : List TypeId} {B : Nat} (h : SetAt w b n C) (hk : Keeps T B w w') : SetAt w' b n C := by
  obtain ⟨D, ⟨es, cl, hb, h1⟩, hC⟩ := h
  refine ⟨D, ⟨es, cl, ?_, h1⟩, hC⟩
  rw [hk.block b (Array.getElem?_eq_some_iff.1 hb).1 (.inr fun c t f e => by rw [hb] at e; cases e)]
  exact hb
set_option maxRecDepth 100000 in
theorem look (h : SetAt w b n C) {z : Int} (h1 : -9223372036854775808 ≤ z) (h2 : z ≤ 9223372036854775807) : (Instr.lookup 45 (.map (some b)) (.int .i64 z) false).run Try.prog w = .ok (.bool (C z)) w := by
  obtain ⟨D, ho, hC⟩ := h
  obtain ⟨v, ps, hrun, hv⟩ := ho.lookup setKeyed (t := 45) (e := 4) (by kernel_rfl) (z := .bool false) (by kernel_rfl) (plainElem_bool (by kernel_rfl) false) (Maps.keyOf_int_mk Try.underlying3 (i64_wf h1 h2))
  rw [hC z] at hv
  rw [hrun]
  unfold plainElem at hv
  rw [Try.underlying4] at hv
  cases v <;> simp at hv
  rw [hv.1]
end SetAt

/-- Nothing of w has turned but for maps from block B on. -/
structure Cel (B : Nat) (w w' : World) : Prop where
  below : Below B w w'
  cells : ∀ (k : Nat) (c : Array Value) (t : TypeId) (f : Nat × Nat), w.heap[k]? = some (.cells c t f) → w'.heap[k]? = w.heap[k]?
namespace Cel
variable {w w' w'' : World} {B : Nat}
theorem refl (B : Nat) (w : World) : Cel B w w := ⟨Below.refl _ _, fun _ _ _ _ _ => rfl⟩
theorem trans (h : Cel B w w') (k : Cel B w' w'') : Cel B w w'' :=
  ⟨h.below.trans k.below, fun i c t f e => by rw [k.cells i c t f (by rw [h.cells i c t f e, e]), h.cells i c t f e]⟩
theorem blk {g : Nat} {t : TypeId} {xs : List Value} (h : Cel B w w') (hb : Blk w g t xs) : Blk w' g t xs := hb.of_heap (h.cells _ _ _ _ hb)
theorem rd {A : Option Addr} {xs : List Value} (h : Cel B w w') (hr : Rd w A xs) : Rd w' A xs := fun hn => by
  obtain ⟨b, o, e, hr⟩ := hr hn
  refine ⟨b, o, e, range_of_heap hr ?_⟩
  have h0 := hr 0 (xs[0]'(List.length_pos_iff.2 hn)) (List.getElem?_eq_getElem _)
  cases eb : w.heap[b]? with
  | none => simp [World.cell?, eb] at h0
  | some ob =>
    cases ob with
    | cells c t f => rw [← eb]; exact h.cells b c t f eb
    | _ => simp [World.cell?, eb] at h0
theorem own {base : Nat} {e : TypeId} {size : Nat} {A : Option Addr} {n c : Nat} {xs : List Value} (h : Cel B w w') (ho : Own w base e size A n c xs) : Own w' base e size A n c xs := by
  refine ⟨ho.1, ?_⟩
  rcases ho.2 with hn | ⟨g, cap, cur, hv, hg, hh, rest⟩
  · exact .inl hn
  · refine .inr ⟨g, cap, cur, hv, hg, ?_, rest⟩
    rw [h.cells _ _ _ _ hh]
    exact hh
theorem sto {B' bs : Nat} {s : Pg.St} (h : Cel B w w') (hs : Sto w B' bs s) : Sto w' B' bs s := by
  obtain ⟨bp, qs, hs⟩ := hs
  refine ⟨bp, qs, hs.hs, hs.hp, h.blk hs.st, h.blk hs.row, hs.len, hs.most, fun i l hi => ?_, hs.none_, hs.inj⟩
  obtain ⟨g, h1, h2, h3, h4⟩ := hs.some_ i l hi
  exact ⟨g, h1, h2, h.blk h3, h4⟩
theorem rsto {B' bs : Nat} {s : Pg.St} (h : Cel B w w') (hs : RSto w B' bs s) : RSto w' B' bs s := by
  obtain ⟨bp, hs⟩ := hs
  exact ⟨bp, hs.hs, hs.hp, h.blk hs.st, h.blk hs.row, hs.most, hs.lens⟩
end Cel

theorem SetAt.lt {w : World} {b n : Nat} {C : Int → Bool} (h : SetAt w b n C) : b < w.heap.size := by
  obtain ⟨D, ho, _⟩ := h
  exact ho.lt
set_option maxRecDepth 100000 in
theorem SetAt.put {w : World} {b n : Nat} {C : Int → Bool} {B : Nat} (h : SetAt w b n C) (hB : B ≤ b) (hn : n < maxLen) {z : Int} (h1 : -9223372036854775808 ≤ z) (h2 : z ≤ 9223372036854775807) :
    ∃ w', (Instr.mapUpdate 45 (.map (some b)) (.int .i64 z) (.bool true)).run Try.prog w = .ok () w' ∧ SetAt w' b (n + 1) (fun y => decide (y = z) || C y) ∧ Cel B w w' := by
  obtain ⟨D, ho, hC⟩ := h
  obtain ⟨w', hrun, ho', ht⟩ := ho.store setKeyed (t := 45) (e := 4) (by kernel_rfl) hn (Maps.keyOf_int_mk Try.underlying3 (i64_wf h1 h2)) (plainElem_bool (by kernel_rfl) true)
  refine ⟨w', hrun, ⟨_, ho', fun y => ?_⟩, ?_⟩
  · by_cases e : y = z
    · subst e
      rw [Maps.atKey_put_same ho.isMap (setKeyed.key (Maps.keyOf_int_mk Try.underlying3 (i64_wf h1 h2)))]
      simp
    · rw [Maps.atKey_put_other (by simpa using e), hC y]
      simp [e]
  · obtain ⟨es, cl, es', cl', hb, rfl⟩ := ht
    refine ⟨⟨rfl, rfl, rfl, by simp [setBlock], fun k hk => heap_setBlock_other hb _ (by omega)⟩, fun k c t f e => heap_setBlock_other hb _ ?_⟩
    rintro rfl
    rw [hb] at e
    cases e
end Go.Proofs.Ytjjmnjgkodiibaa
