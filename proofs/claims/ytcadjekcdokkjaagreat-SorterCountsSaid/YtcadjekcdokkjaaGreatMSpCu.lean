/- The walk of SpillPages. Walks: Next, on: a cursor with an error, a cursor at its end; a cursor beside others. -/
import Derived.Test.YtcadjekcdokkjaaGreatMSpLN
import Derived.Test.YtcadjekcdokkjaaGreatMSpSMH
import Derived.Test.YtcadjekcdokkjaaGreatMPgD
import Derived.Test.YtcadjekcdokkjaaGreatMCuCX
namespace Go.Proofs.YtcadjekcdokkjaaGreat
set_option linter.unusedVariables false
set_option linter.unusedSimpArgs false
open Go.RowKit
attribute [local go_sem ↓] Go.wp_at_zero Go.wp_at_succ
theorem Rows.okAll {w : World} {hs : List Value} {rs : List RowM} (h : Rows w hs rs) : ∀ r ∈ rs, ∀ v ∈ r, v.ok := fun r hr => by
 obtain ⟨i, hi⟩ := List.getElem?_of_mem hr
 obtain ⟨_, _, _, _, _, _, h⟩ := h.at_ i r hi
 exact h
end Go.Proofs.YtcadjekcdokkjaaGreat
namespace Go.Proofs.YtcadjekcdokkjaaGreat
set_option linter.unusedVariables false
set_option linter.unusedSimpArgs false
open Go.RowKit
attribute [local go_sem ↓] Go.wp_at_zero Go.wp_at_succ
theorem Turns.below0 {S : Nat → Prop} {B M : Nat} {w w' : World} (h : Turns S [] B w w') (hs : ∀ k, S k → M ≤ k) (hM : M ≤ w.heap.size) : Below M w w' :=
 ⟨h.os, h.tape, h.output, h.size, fun k hk => h.block k (by omega) (fun hh => Nat.not_lt.2 (hs k hh) hk) (.inr fun _ _ _ _ m => by cases m)⟩
theorem next_done (S : Nat → Prop) (bs bc : Nat) (ic : Nat) (I : Option Addr) (p : List UInt8) (n rc : Nat) (R : Option Addr) (w : World) (h : CuAt w S bs bc [] 0 ic I p n rc R 0 0) (hz : p.any (· != 0) = false) :
  Calls Tryz.prog 97 #[.pointer (some ⟨bc, 0, none⟩)] w fun e w' => e = .returned (.tuple #[.slice none 0 0, .bool false, .int .i64 0]) ∧ w = w' := by
 have k1 := h.blk.cell 1
 have k2 := h.blk.cell 2
 have k3 := h.blk.cell 3
 have k4 := h.blk.cell 4
 simp only [List.getElem?_cons_zero, List.getElem?_cons_succ] at k1 k2 k3 k4
 have hcap := h.rst.cap
 have hc := containsc_any R p n rc w h.plen (by have := hcap.2; unfold maxLen at this; omega) h.rst.rd
 rw [hz] at hc
 have Hc := Lib.hid hc
 clear h hz hc
 go_enter Tryz.func97, Tryz.ntmps97
 go_wp2_with fail
 refine Hc.out.mono ?_
 rintro e w' ⟨rfl, rfl⟩
 go_wp2_with fail
 go_ret3
 exact ⟨rfl, rfl⟩
namespace CuAt
variable {w : World} {S : Nat → Prop} {bs bc : Nat} {l : List Nat} {k ic : Nat} {I : Option Addr} {p : List UInt8} {n rc : Nat} {R : Option Addr} {left err : Int}
theorem bound (h : CuAt w S bs bc l k ic I p n rc R left err) : CuAt w (fun j => S j ∧ j < w.heap.size) bs bc l k ic I p n rc R left err := by
 have hx : ∀ (e : TypeId) (A : Option Addr) (n c : Nat) (xs : List Value), OwnX w 0 e A n c xs → InS S A → InS (fun j => S j ∧ j < w.heap.size) A := fun e A n c xs ho hi b o hb => by
  rcases ho with ⟨h, _⟩ | ⟨g, off, ys, h, _, hk, _⟩
  ·rw [h] at hb; cases hb
  ·refine ⟨hi b o hb, ?_⟩
   rw [h] at hb
   injection hb with hb
   injection hb with hb _
   rw [← hb]
   exact hk.lt
 exact ⟨⟨h.sc, h.blk.lt⟩, h.blk, h.ids, hx _ _ _ _ _ h.ids h.inI, h.rst, hx _ _ _ _ _ h.rst h.inR⟩
end CuAt
namespace Pg
theorem onP_cons (s : St) (i : Nat) (l : List Nat) : onP s (i :: l) = readB s (i : Int) ++ onP s l := by unfold onP; rw [List.flatMap_cons]
theorem onP_len {s : St} (h64 : ∀ (k : Nat) (l : List UInt8), s[k]? = some (some l) → l.length = 64) : ∀ {l : List Nat}, (∀ i ∈ l, readE s (i : Int) = 0) → (onP s l).length = 56 * l.length
 | [], _ => rfl
 | i :: l, h => by
  rw [onP_cons, List.length_append, readB_len h64 (h i (by simp)), onP_len h64 (fun j hj => h j (by simp [hj])), List.length_cons]
  omega
theorem rowsB_cons (r : RowM) (rs : List RowM) : rowsB (r :: rs) = rowB r ++ rowsB rs := by simp [rowsB]
theorem Hon.len {s : St} (h64 : ∀ (k : Nat) (l : List UInt8), s[k]? = some (some l) → l.length = 64) {l : List Nat} {p : List UInt8} {rs : List RowM} {j : Nat} (h : Hon s l p rs j) : p.length + 56 * l.length = (rowsB rs).length + j := by
 have e := congrArg List.length h.eq
 rw [List.length_append, onP_len h64 h.ok, List.length_append, List.length_replicate] at e
 exact e
theorem Hon.end_ {s : St} (h64 : ∀ (k : Nat) (l : List UInt8), s[k]? = some (some l) → l.length = 64) {l : List Nat} {p : List UInt8} {j : Nat} (h : Hon s l p [] j) (hj : j < 56) : l = [] ∧ p.any (· != 0) = false := by
 have hl := h.len h64
 have h0 : (rowsB []).length = 0 := rfl
 rw [h0] at hl
 have hn : l = [] := List.eq_nil_of_length_eq_zero (by omega)
 subst hn
 refine ⟨rfl, ?_⟩
 have e := h.eq
 have e1 : onP s [] = [] := rfl
 have e2 : rowsB [] = [] := rfl
 rw [e1, e2, List.append_nil, List.nil_append] at e
 rw [e]
 simp
theorem onP_gets (s : St) (l : List Nat) : onP s l = getsB s (l.map Int.ofNat) := by
 unfold onP getsB
 rw [List.flatMap_map]
 rfl
end Pg
def Cur (w : World) (S : Nat → Prop) (M bs bc : Nat) (s : Pg.St) (rs : List RowM) (j : Nat) (left : Int) : Prop :=
 (∃ l k ic I p n rc R, CuAt w S bs bc l k ic I p n rc R left 0 ∧ Pg.Hon s l p rs j ∧ (∀ i ∈ l, i < 600) ∧ n + 56 * k ≤ 40000) ∧ ∀ b, S b → M ≤ b ∧ b < w.heap.size
namespace Cur
variable {w w' : World} {S : Nat → Prop} {M bs bc : Nat} {s : Pg.St} {rs : List RowM} {j : Nat} {left : Int}
end Cur
end Go.Proofs.YtcadjekcdokkjaaGreat
