/- Walks: lists of nodes, laid one behind the other, asked all together, held against one another. -/
import Derived.Test.YtipnglidepfkbaaDoorMAkI
import Derived.Lib.AppendZeros
namespace Go.Proofs.YtipnglidepfkbaaDoor
set_option linter.unusedVariables false
set_option linter.unusedSimpArgs false
open Go.RowKit

attribute [local go_sem ↓] Go.wp_at_zero Go.wp_at_succ

theorem Enode : ElemT Tryd.prog 23 46 6 56 (.agg #[.int .u8 0, .int .i64 0, .int .i64 0, .int .u8 0, .int .i64 0, .string ⟨#[]⟩]) := ElemT.mk' (by kernel_rfl) (by kernel_rfl) rfl (by omega)
theorem qn_nil (w : World) (A : Option Addr) (n c n' c' : Nat) : (binOp .eql 23 (.slice A n c) (.slice none n' c')).run Tryd.prog w = .ok (.bool A.isNone) w := by
  have hu : Tryd.prog.underlying 23 = some (.slice 46) := by kernel_rfl
  exact Lib.run_eql_slice_nil w 23 46 A n c n' c' hu
theorem Own.base' {w : World} {base base' : Nat} {e : TypeId} {size : Nat} {A : Option Addr} {n c : Nat} {xs : List Value} (h : Own w base e size A n c xs) (hb : base' ≤ base) : Own w base' e size A n c xs :=
  ⟨h.1, h.2.imp id fun ⟨g, cap, cur, hv, hg, rest⟩ => ⟨g, cap, cur, hv, Nat.le_trans hb hg, rest⟩⟩
theorem flatN_take (rs : List (List Nd)) {j : Nat} (hj : j < rs.length) : (rs.take (j + 1)).flatten = (rs.take j).flatten ++ rs[j] := by
  rw [List.take_succ_eq_append_getElem hj, List.flatten_append, List.flatten_singleton]
theorem flatN_le (rs : List (List Nd)) (j : Nat) : (rs.take j).flatten.length ≤ rs.flatten.length := by
  have h := congrArg (fun l => l.flatten.length) (List.take_append_drop j rs)
  simp only [List.flatten_append, List.length_append] at h
  omega
/-- The headers hs are of lists of nodes. -/
def NLists (w : World) (hs : List Value) (ls : List (List Nd)) : Prop :=
  ∀ (i : Nat) (l : List Nd), ls[i]? = some l → ∃ A c, hs[i]? = some (.slice A l.length c) ∧ Rd w A (ncells l)
theorem NLists.below {w w' : World} {hs : List Value} {ls : List (List Nd)} (h : NLists w hs ls) (hb : Below w.heap.size w w') : NLists w' hs ls := fun i l hi => by
  obtain ⟨A, c, h1, h2⟩ := h i l hi
  exact ⟨A, c, h1, h2.below hb⟩
theorem nhead_cell {w : World} {A : Option Addr} {hs : List Value} {rs : List (List Nd)} (hr : Rd w A hs) (h : NLists w hs rs) {j : Nat} (hj : j < rs.length) :
    ∃ b o A' c, A = some ⟨b, o, none⟩ ∧ w.cell? ⟨b, o + j, none⟩ = some (.slice A' rs[j].length c) ∧ Rd w A' (ncells rs[j]) := by
  obtain ⟨A', c, h1, h2⟩ := h j rs[j] (List.getElem?_eq_getElem hj)
  obtain ⟨b, o, rfl, hh⟩ := hr (fun e => by rw [e] at h1; simp at h1)
  exact ⟨b, o, A', c, rfl, hh j _ h1, h2⟩

/-! ### Asked all together -/
def alwaysM : List Nd → Bool
  | [x] => decide (x.op = 1)
  | _ => false
def allM (a b : List Nd) : List Nd := if alwaysM b = true then a else if alwaysM a = true then b else and2 :: (a ++ b)
theorem alwaysM_one {l : List Nd} (h : l.length = 1) : ∃ x, l = [x] ∧ alwaysM l = decide (x.op = 1) := by
  match l, h with
  | [x], _ => exact ⟨x, rfl, rfl⟩
theorem alwaysM_many {l : List Nd} (h : ¬ l.length = 1) : alwaysM l = false := by
  match l, h with
  | [], _ => rfl
  | [x], h => exact absurd rfl h
  | x :: y :: t, _ => rfl
theorem flat3 (a b : List Nd) : ([[and2], a, b] : List (List Nd)).flatten = and2 :: (a ++ b) := by simp
end Go.Proofs.YtipnglidepfkbaaDoor
