/- Nodes that came in as arguments, as plain data. -/
import Derived.Test.YtheafcfbahdcfaaLst
import Derived.Test.YtheafcfbahdcfaaJoA
import Derived.Test.YtheafcfbahdcfaaAkD
namespace Go.Proofs.Ytheafcfbahdcfaa
open Go.RowKit

theorem nd_of {w : World} {cs : List Value} (h : Reads Try.prog w 51 cs) : ∃ n : Nd, cs = n.cells ∧ n.ok := by
  have hlen := (h.struct Try.underlying51).1
  have h6 : Try.prog.cellsOf 51 = 6 := by kernel_rfl
  have hu8 : Try.prog.cellsOf 5 = 1 := by kernel_rfl
  have hin : Try.prog.cellsOf 3 = 1 := by kernel_rfl
  have hva : Try.prog.cellsOf 49 = 3 := by kernel_rfl
  rw [h6] at hlen
  match cs, hlen with
  | [c0, c1, c2, c3, c4, c5], _ =>
    have f0 : Reads Try.prog w 5 [c0] := h.field Try.underlying51 0 (off := 0) (k := 1) rfl rfl rfl hu8
    have f1 : Reads Try.prog w 3 [c1] := h.field Try.underlying51 1 (off := 1) (k := 1) rfl rfl rfl hin
    have f2 : Reads Try.prog w 3 [c2] := h.field Try.underlying51 2 (off := 2) (k := 1) rfl rfl rfl hin
    have f3 : Reads Try.prog w 49 [c3, c4, c5] := h.field Try.underlying51 3 (off := 3) (k := 3) rfl rfl rfl hva
    obtain ⟨op, h0, w0⟩ := f0.int Try.underlying5
    obtain ⟨col, h1, w1⟩ := f1.int Try.underlying3
    obtain ⟨kids, h2, w2⟩ := f2.int Try.underlying3
    obtain ⟨v, h3, w3⟩ := va_of f3
    cases h0; cases h1; cases h2
    unfold Va.cells at h3
    cases h3
    exact ⟨⟨op, col, kids, v⟩, rfl, wf_u8_bounds w0, wf_i64_bounds w1, wf_i64_bounds w2, w3⟩

theorem nodes_of {w : World} {X : Option Addr} {n c : Nat} (h : Reads Try.prog w 24 [.slice X n c]) : ∃ l : List Nd, l.length = n ∧ Rd w X (ncells l) ∧ (∀ x ∈ l, x.ok) ∧ n ≤ c ∧ c ≤ maxLen :=
  Reads.list Nd.cells Nd.ok 6 (by omega) (fun _ => rfl) Try.underlying24 (by kernel_rfl) (fun _ => nd_of) h
end Go.Proofs.Ytheafcfbahdcfaa
