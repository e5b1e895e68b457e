/- Tables and queries that came in as arguments, as plain data. -/
import Derived.Test.YtheafcfbahdcfaaQyG
import Derived.Test.YtheafcfbahdcfaaAkO
namespace Go.Proofs.Ytheafcfbahdcfaa
open Go.RowKit

theorem jn_of {w : World} {cs : List Value} (h : Reads Try.prog w 47 cs) : ∃ x : Jn, cs = x.cells ∧ True := by
  obtain ⟨hlen, hf⟩ := h.cells Try.underlying47 (by kernel_rfl) (by kernel_rfl)
  match cs, hlen with
  | [c0, c1, c2], _ =>
    obtain ⟨_, e0, f0⟩ := hf 0 _ rfl
    obtain ⟨_, e1, f1⟩ := hf 1 _ rfl
    obtain ⟨_, e2, f2⟩ := hf 2 _ rfl
    cases e0; cases e1; cases e2
    obtain ⟨s, h0, w0⟩ := f0.str Try.underlying9
    obtain ⟨a, h1, w1⟩ := f1.int Try.underlying3
    obtain ⟨b, h2, w2⟩ := f2.int Try.underlying3
    cases h0; cases h1; cases h2
    exact ⟨⟨s, a, b⟩, rfl, trivial⟩
theorem ag_of {w : World} {cs : List Value} (h : Reads Try.prog w 64 cs) : ∃ x : Ag, cs = x.cells ∧ True := by
  obtain ⟨hlen, hf⟩ := h.cells Try.underlying64 (by kernel_rfl) (by kernel_rfl)
  match cs, hlen with
  | [c0, c1], _ =>
    obtain ⟨_, e0, f0⟩ := hf 0 _ rfl
    obtain ⟨_, e1, f1⟩ := hf 1 _ rfl
    cases e0; cases e1
    obtain ⟨a, h0, w0⟩ := f0.int Try.underlying5
    obtain ⟨b, h1, w1⟩ := f1.int Try.underlying3
    cases h0; cases h1
    exact ⟨⟨a, b⟩, rfl, trivial⟩
theorem ky_of {w : World} {cs : List Value} (h : Reads Try.prog w 79 cs) : ∃ x : Ky, cs = x.cells ∧ True := by
  obtain ⟨hlen, hf⟩ := h.cells Try.underlying79 (by kernel_rfl) (by kernel_rfl)
  match cs, hlen with
  | [c0, c1], _ =>
    obtain ⟨_, e0, f0⟩ := hf 0 _ rfl
    obtain ⟨_, e1, f1⟩ := hf 1 _ rfl
    cases e0; cases e1
    obtain ⟨a, h0, w0⟩ := f0.int Try.underlying3
    obtain ⟨b, h1⟩ := f1.bool Try.underlying4
    cases h0; cases h1
    exact ⟨⟨a, b⟩, rfl, trivial⟩
theorem th_of {w : World} {cs : List Value} (h : Reads Try.prog w 45 cs) : ∃ x : Th, cs = x.cells ∧ Rd w x.a (kcells x.t.kinds) := by
  obtain ⟨hlen, hf⟩ := h.cells Try.underlying45 (by kernel_rfl) (by kernel_rfl)
  match cs, hlen with
  | [c0, c1], _ =>
    obtain ⟨_, e0, f0⟩ := hf 0 _ rfl
    obtain ⟨_, e1, f1⟩ := hf 1 _ rfl
    cases e0; cases e1
    obtain ⟨s, h0, w0⟩ := f0.str Try.underlying9
    obtain ⟨A, len, cap, l, h1, h2, h3, _, _, _⟩ := f1.ints Try.underlying34 Try.underlying5 (by kernel_rfl)
    cases h0; cases h1
    subst h2
    exact ⟨⟨⟨s, l⟩, A, cap⟩, rfl, h3⟩
theorem tables_of {w : World} {X : Option Addr} {n c : Nat} (h : Reads Try.prog w 22 [.slice X n c]) : ∃ l : List Th, l.length = n ∧ Tin w X l ∧ n ≤ c ∧ c ≤ maxLen := by
  obtain ⟨l, h1, h2, h3, h4, h5⟩ := Reads.list Th.cells (fun x => Rd w x.a (kcells x.t.kinds)) 2 (by omega) (fun _ => rfl) Try.underlying22 (by kernel_rfl) (fun _ => th_of) h
  exact ⟨l, h1, ⟨h2, h3⟩, h4, h5⟩
set_option maxRecDepth 100000 in
theorem query_of {w : World} {v : Value} (h : Arg Try.prog w 29 v) : ∃ (q : Qy) (a1 : Option Addr) (n1 c1 : Nat) (a2 : Option Addr) (n2 c2 : Nat) (a3 : Option Addr) (n3 c3 : Nat) (a4 : Option Addr) (n4 c4 : Nat) (a5 : Option Addr) (n5 c5 : Nat) (a6 : Option Addr) (n6 c6 : Nat),
    v = .agg #[.string (St8 q.frm), .slice a1 n1 c1, .slice a2 n2 c2, .slice a3 n3 c3, .slice a4 n4 c4, .slice a5 n5 c5, .slice a6 n6 c6] ∧ Qi w q a1 n1 a2 n2 a3 n3 a4 n4 a5 n5 a6 n6 ∧ n3 ≤ c3 ∧ c3 ≤ maxLen := by
  obtain ⟨cs, rfl, hq⟩ := h.struct Try.underlying29
  obtain ⟨hlen, hf⟩ := hq.cells Try.underlying29 (by kernel_rfl) (by kernel_rfl)
  match cs, hlen with
  | [d0, d1, d2, d3, d4, d5, d6], _ =>
    obtain ⟨_, e0, f0⟩ := hf 0 _ rfl
    obtain ⟨_, e1, f1⟩ := hf 1 _ rfl
    obtain ⟨_, e2, f2⟩ := hf 2 _ rfl
    obtain ⟨_, e3, f3⟩ := hf 3 _ rfl
    obtain ⟨_, e4, f4⟩ := hf 4 _ rfl
    obtain ⟨_, e5, f5⟩ := hf 5 _ rfl
    obtain ⟨_, e6, f6⟩ := hf 6 _ rfl
    cases e0; cases e1; cases e2; cases e3; cases e4; cases e5; cases e6
    obtain ⟨s, h0, _⟩ := f0.str Try.underlying9
    obtain ⟨a1, n1, c1, h1, _⟩ := f1.slice Try.underlying23
    obtain ⟨a2, n2, c2, h2, _⟩ := f2.slice Try.underlying24
    obtain ⟨a3, n3, c3, l3, h3, h31, h32, h33, h34, _⟩ := f3.ints Try.underlying25 Try.underlying3 (by kernel_rfl)
    obtain ⟨a4, n4, c4, h4, _⟩ := f4.slice Try.underlying26
    obtain ⟨a5, n5, c5, l5, h5, h51, h52, _, _, _⟩ := f5.ints Try.underlying25 Try.underlying3 (by kernel_rfl)
    obtain ⟨a6, n6, c6, h6, _⟩ := f6.slice Try.underlying27
    cases h0; cases h1; cases h2; cases h3; cases h4; cases h5; cases h6
    obtain ⟨l1, h11, h12, _, _, _⟩ := Reads.list Jn.cells (fun _ => True) 3 (by omega) (fun _ => rfl) Try.underlying23 (by kernel_rfl) (fun _ => jn_of) f1
    obtain ⟨l2, h21, h22, _, _, _⟩ := nodes_of f2
    obtain ⟨l4, h41, h42, _, _, _⟩ := Reads.list Ag.cells (fun _ => True) 2 (by omega) (fun _ => rfl) Try.underlying26 (by kernel_rfl) (fun _ => ag_of) f4
    obtain ⟨l6, h61, h62, _, _, _⟩ := Reads.list Ky.cells (fun _ => True) 2 (by omega) (fun _ => rfl) Try.underlying27 (by kernel_rfl) (fun _ => ky_of) f6
    exact ⟨⟨s, l1, l2, l3, l4, l5, l6⟩, a1, n1, c1, a2, n2, c2, a3, n3, c3, a4, n4, c4, a5, n5, c5, a6, n6, c6, rfl, ⟨h11, h21, h31, h41, h51, h61, h12, h22, h32, h42, h52, h62⟩, h33, h34⟩
end Go.Proofs.Ytheafcfbahdcfaa
