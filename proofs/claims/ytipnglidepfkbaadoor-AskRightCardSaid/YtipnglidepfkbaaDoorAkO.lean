/- Nodes that came in as arguments, as plain data. -/
import Derived.Test.YtipnglidepfkbaaDoorLst
import Derived.Test.YtipnglidepfkbaaDoorJoA
import Derived.Test.YtipnglidepfkbaaDoorAkD
namespace Go.Proofs.YtipnglidepfkbaaDoor
open Go.RowKit

theorem nd_of {w : World} {cs : List Value} (h : Reads Tryd.prog w 46 cs) : ∃ n : Nd, cs = n.cells ∧ n.ok := by
  have hlen := (h.struct Tryd.underlying46).1
  have h6 : Tryd.prog.cellsOf 46 = 6 := by kernel_rfl
  have hu8 : Tryd.prog.cellsOf 5 = 1 := by kernel_rfl
  have hin : Tryd.prog.cellsOf 3 = 1 := by kernel_rfl
  have hva : Tryd.prog.cellsOf 44 = 3 := by kernel_rfl
  rw [h6] at hlen
  match cs, hlen with
  | [c0, c1, c2, c3, c4, c5], _ =>
    have f0 : Reads Tryd.prog w 5 [c0] := h.field Tryd.underlying46 0 (off := 0) (k := 1) rfl rfl rfl hu8
    have f1 : Reads Tryd.prog w 3 [c1] := h.field Tryd.underlying46 1 (off := 1) (k := 1) rfl rfl rfl hin
    have f2 : Reads Tryd.prog w 3 [c2] := h.field Tryd.underlying46 2 (off := 2) (k := 1) rfl rfl rfl hin
    have f3 : Reads Tryd.prog w 44 [c3, c4, c5] := h.field Tryd.underlying46 3 (off := 3) (k := 3) rfl rfl rfl hva
    obtain ⟨op, h0, w0⟩ := f0.int Tryd.underlying5
    obtain ⟨col, h1, w1⟩ := f1.int Tryd.underlying3
    obtain ⟨kids, h2, w2⟩ := f2.int Tryd.underlying3
    obtain ⟨v, h3, w3⟩ := va_of f3
    cases h0; cases h1; cases h2
    unfold Va.cells at h3
    cases h3
    exact ⟨⟨op, col, kids, v⟩, rfl, wf_u8_bounds w0, wf_i64_bounds w1, wf_i64_bounds w2, w3⟩

theorem nodes_of {w : World} {X : Option Addr} {n c : Nat} (h : Reads Tryd.prog w 23 [.slice X n c]) : ∃ l : List Nd, l.length = n ∧ Rd w X (ncells l) ∧ (∀ x ∈ l, x.ok) ∧ n ≤ c ∧ c ≤ maxLen :=
  Reads.list Nd.cells Nd.ok 6 (by omega) (fun _ => rfl) Tryd.underlying23 (by kernel_rfl) (fun _ => nd_of) h
end Go.Proofs.YtipnglidepfkbaaDoor
