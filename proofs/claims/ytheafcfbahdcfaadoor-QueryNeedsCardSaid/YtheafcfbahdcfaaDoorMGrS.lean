/- Values, rows and lists of rows that came in as arguments, as plain data. Nodes that came in as arguments, as plain data. Tables and queries that came in as arguments, as plain data. -/
import Derived.Test.YtheafcfbahdcfaaDoorMGrB
import Derived.Test.YtheafcfbahdcfaaDoorMGrH
import Derived.Test.YtheafcfbahdcfaaDoorMGrC
import Derived.Test.YtheafcfbahdcfaaDoorMQyG
namespace Go.Proofs.YtheafcfbahdcfaaDoor
set_option linter.unusedVariables false
set_option linter.unusedSimpArgs false
open Go.RowKit

theorem Reads.str {P : Program} {w : World} {t : TypeId} {cs : List Value} (ht : P.underlying t = some .string) (h : Reads P w t cs) : ∃ s : List UInt8, cs = [.string (St8 s)] ∧ s.length ≤ maxLen := by
  obtain ⟨H, enc, fuel, x, h⟩ := h
  obtain ⟨s, h1, _, h2⟩ := DataW.trod_string ht h
  refine ⟨s.data.toList, h1, ?_⟩
  have : s.data.toList.length = s.size := Array.length_toList
  exact Nat.le_trans (Nat.le_of_eq this) h2
theorem va_of {w : World} {cs : List Value} (h : Reads Tryd.prog w 48 cs) : ∃ v : Va, cs = v.cells ∧ v.ok := by
  obtain ⟨hlen, hf⟩ := h.cells Tryd.underlying48 (by kernel_rfl) (by kernel_rfl)
  match cs, hlen with
  | [c0, c1, c2], _ =>
    obtain ⟨_, e0, f0⟩ := hf 0 _ rfl
    obtain ⟨_, e1, f1⟩ := hf 1 _ rfl
    obtain ⟨_, e2, f2⟩ := hf 2 _ rfl
    cases e0; cases e1; cases e2
    obtain ⟨k, h0, w0⟩ := f0.int Tryd.underlying5
    obtain ⟨n, h1, w1⟩ := f1.int Tryd.underlying3
    obtain ⟨s, h2, w2⟩ := f2.str Tryd.underlying9
    cases h0; cases h1; cases h2
    unfold maxLen at w2
    refine ⟨⟨k, n, s⟩, rfl, wf_u8_bounds w0, wf_i64_bounds w1, by omega⟩

theorem addr_add_add (a : Addr) (i j : Nat) : (a.add i).add j = a.add (i + j) := by
  by_cases hi : i = 0
  · subst hi; simp [Addr.add]
  · by_cases hj : j = 0
    · subst hj; simp [Addr.add]
    · simp [Addr.add, hi, hj, Nat.add_assoc]

set_option maxRecDepth 100000 in
theorem row_of {w : World} {X : Option Addr} {n c : Nat} {t : TypeId} (ht : Tryd.prog.underlying t = some (.slice 48)) (h : Reads Tryd.prog w t [.slice X n c]) : ∃ r : RowM, r.length = n ∧ Rd w X (rcells r) ∧ (∀ v ∈ r, v.ok) ∧ n ≤ c ∧ c ≤ maxLen := by
  obtain ⟨X', n', c', hcs, hnc, hcm, hX, hel⟩ := h.slice ht
  cases hcs
  have h3 : Tryd.prog.cellsOf 48 = 3 := by kernel_rfl
  rw [h3] at hel
  have key : ∀ m, m ≤ n → ∃ r : RowM, r.length = m ∧ (∀ v ∈ r, v.ok) ∧ ∀ i v, r[i]? = some v → ∃ ad, X = some ad ∧ ∀ t, t < 3 → w.cell? (ad.add (i * 3 + t)) = v.cells[t]? := by
    intro m
    induction m with
    | zero => intro _; exact ⟨[], rfl, by simp, by simp⟩
    | succ m ih =>
      intro hm
      obtain ⟨r, h1, h2, h4⟩ := ih (by omega)
      obtain ⟨ad, cs, hx, _, hc, hr⟩ := hel m (by omega)
      obtain ⟨v, rfl, hv⟩ := va_of hr
      refine ⟨r ++ [v], by simp [h1], fun y hy => ?_, fun i y hy => ?_⟩
      · rcases List.mem_append.1 hy with hy | hy
        · exact h2 y hy
        · rw [List.mem_singleton.1 hy]; exact hv
      · rw [List.getElem?_append] at hy
        split at hy
        · exact h4 i y hy
        · have hi : i = m := by
            have := (List.getElem?_eq_some_iff.1 hy).1
            simp at this
            omega
          subst hi
          simp [h1] at hy
          subst hy
          refine ⟨ad, hx, fun t ht => ?_⟩
          have := hc t ht
          rwa [addr_add_add] at this
  obtain ⟨r, h1, h2, h4⟩ := key n (Nat.le_refl _)
  refine ⟨r, h1, ?_, h2, hnc, hcm⟩
  cases X with
  | none =>
    have : r = [] := List.eq_nil_of_length_eq_zero (by have := (hX rfl).1; omega)
    subst this
    exact Rd.nil _ _
  | some ad =>
    refine rd_of_cells fun i u hu => ?_
    have hlt : i / 3 < r.length := by
      have := (List.getElem?_eq_some_iff.1 hu).1
      have hla := rcells_len r
      omega
    obtain ⟨ad', e, hc⟩ := h4 (i / 3) _ (List.getElem?_eq_getElem hlt)
    injection e with e
    subst e
    have h := hc (i % 3) (Nat.mod_lt _ (by omega))
    rw [show i / 3 * 3 + i % 3 = i from by omega] at h
    rw [h]
    have := rcells_get r (i / 3) _ (i % 3) (List.getElem?_eq_getElem hlt) (Nat.mod_lt _ (by omega))
    rw [show i / 3 * 3 + i % 3 = i from by omega, hu] at this
    exact this.symm

end Go.Proofs.YtheafcfbahdcfaaDoor
namespace Go.Proofs.YtheafcfbahdcfaaDoor
set_option linter.unusedVariables false
set_option linter.unusedSimpArgs false
open Go.RowKit

theorem nd_of {w : World} {cs : List Value} (h : Reads Tryd.prog w 50 cs) : ∃ n : Nd, cs = n.cells ∧ n.ok := by
  have hlen := (h.struct Tryd.underlying50).1
  have h6 : Tryd.prog.cellsOf 50 = 6 := by kernel_rfl
  have hu8 : Tryd.prog.cellsOf 5 = 1 := by kernel_rfl
  have hin : Tryd.prog.cellsOf 3 = 1 := by kernel_rfl
  have hva : Tryd.prog.cellsOf 48 = 3 := by kernel_rfl
  rw [h6] at hlen
  match cs, hlen with
  | [c0, c1, c2, c3, c4, c5], _ =>
    have f0 : Reads Tryd.prog w 5 [c0] := h.field Tryd.underlying50 0 (off := 0) (k := 1) rfl rfl rfl hu8
    have f1 : Reads Tryd.prog w 3 [c1] := h.field Tryd.underlying50 1 (off := 1) (k := 1) rfl rfl rfl hin
    have f2 : Reads Tryd.prog w 3 [c2] := h.field Tryd.underlying50 2 (off := 2) (k := 1) rfl rfl rfl hin
    have f3 : Reads Tryd.prog w 48 [c3, c4, c5] := h.field Tryd.underlying50 3 (off := 3) (k := 3) rfl rfl rfl hva
    obtain ⟨op, h0, w0⟩ := f0.int Tryd.underlying5
    obtain ⟨col, h1, w1⟩ := f1.int Tryd.underlying3
    obtain ⟨kids, h2, w2⟩ := f2.int Tryd.underlying3
    obtain ⟨v, h3, w3⟩ := va_of f3
    cases h0; cases h1; cases h2
    unfold Va.cells at h3
    cases h3
    exact ⟨⟨op, col, kids, v⟩, rfl, wf_u8_bounds w0, wf_i64_bounds w1, wf_i64_bounds w2, w3⟩

theorem nodes_of {w : World} {X : Option Addr} {n c : Nat} (h : Reads Tryd.prog w 24 [.slice X n c]) : ∃ l : List Nd, l.length = n ∧ Rd w X (ncells l) ∧ (∀ x ∈ l, x.ok) ∧ n ≤ c ∧ c ≤ maxLen :=
  Reads.list Nd.cells Nd.ok 6 (by omega) (fun _ => rfl) Tryd.underlying24 (by kernel_rfl) (fun _ => nd_of) h
end Go.Proofs.YtheafcfbahdcfaaDoor
namespace Go.Proofs.YtheafcfbahdcfaaDoor
set_option linter.unusedVariables false
set_option linter.unusedSimpArgs false
open Go.RowKit

theorem jn_of {w : World} {cs : List Value} (h : Reads Tryd.prog w 46 cs) : ∃ x : Jn, cs = x.cells ∧ True := by
  obtain ⟨hlen, hf⟩ := h.cells Tryd.underlying46 (by kernel_rfl) (by kernel_rfl)
  match cs, hlen with
  | [c0, c1, c2], _ =>
    obtain ⟨_, e0, f0⟩ := hf 0 _ rfl
    obtain ⟨_, e1, f1⟩ := hf 1 _ rfl
    obtain ⟨_, e2, f2⟩ := hf 2 _ rfl
    cases e0; cases e1; cases e2
    obtain ⟨s, h0, w0⟩ := f0.str Tryd.underlying9
    obtain ⟨a, h1, w1⟩ := f1.int Tryd.underlying3
    obtain ⟨b, h2, w2⟩ := f2.int Tryd.underlying3
    cases h0; cases h1; cases h2
    exact ⟨⟨s, a, b⟩, rfl, trivial⟩
theorem ag_of {w : World} {cs : List Value} (h : Reads Tryd.prog w 65 cs) : ∃ x : Ag, cs = x.cells ∧ True := by
  obtain ⟨hlen, hf⟩ := h.cells Tryd.underlying65 (by kernel_rfl) (by kernel_rfl)
  match cs, hlen with
  | [c0, c1], _ =>
    obtain ⟨_, e0, f0⟩ := hf 0 _ rfl
    obtain ⟨_, e1, f1⟩ := hf 1 _ rfl
    cases e0; cases e1
    obtain ⟨a, h0, w0⟩ := f0.int Tryd.underlying5
    obtain ⟨b, h1, w1⟩ := f1.int Tryd.underlying3
    cases h0; cases h1
    exact ⟨⟨a, b⟩, rfl, trivial⟩
theorem ky_of {w : World} {cs : List Value} (h : Reads Tryd.prog w 79 cs) : ∃ x : Ky, cs = x.cells ∧ True := by
  obtain ⟨hlen, hf⟩ := h.cells Tryd.underlying79 (by kernel_rfl) (by kernel_rfl)
  match cs, hlen with
  | [c0, c1], _ =>
    obtain ⟨_, e0, f0⟩ := hf 0 _ rfl
    obtain ⟨_, e1, f1⟩ := hf 1 _ rfl
    cases e0; cases e1
    obtain ⟨a, h0, w0⟩ := f0.int Tryd.underlying3
    obtain ⟨b, h1⟩ := f1.bool Tryd.underlying4
    cases h0; cases h1
    exact ⟨⟨a, b⟩, rfl, trivial⟩
theorem th_of {w : World} {cs : List Value} (h : Reads Tryd.prog w 44 cs) : ∃ x : Th, cs = x.cells ∧ Rd w x.a (kcells x.t.kinds) := by
  obtain ⟨hlen, hf⟩ := h.cells Tryd.underlying44 (by kernel_rfl) (by kernel_rfl)
  match cs, hlen with
  | [c0, c1], _ =>
    obtain ⟨_, e0, f0⟩ := hf 0 _ rfl
    obtain ⟨_, e1, f1⟩ := hf 1 _ rfl
    cases e0; cases e1
    obtain ⟨s, h0, w0⟩ := f0.str Tryd.underlying9
    obtain ⟨A, len, cap, l, h1, h2, h3, _, _, _⟩ := f1.ints Tryd.underlying35 Tryd.underlying5 (by kernel_rfl)
    cases h0; cases h1
    subst h2
    exact ⟨⟨⟨s, l⟩, A, cap⟩, rfl, h3⟩
theorem tables_of {w : World} {X : Option Addr} {n c : Nat} (h : Reads Tryd.prog w 22 [.slice X n c]) : ∃ l : List Th, l.length = n ∧ Tin w X l ∧ n ≤ c ∧ c ≤ maxLen := by
  obtain ⟨l, h1, h2, h3, h4, h5⟩ := Reads.list Th.cells (fun x => Rd w x.a (kcells x.t.kinds)) 2 (by omega) (fun _ => rfl) Tryd.underlying22 (by kernel_rfl) (fun _ => th_of) h
  exact ⟨l, h1, ⟨h2, h3⟩, h4, h5⟩
set_option maxRecDepth 100000 in
theorem query_of {w : World} {v : Value} (h : Arg Tryd.prog w 29 v) : ∃ (q : Qy) (a1 : Option Addr) (n1 c1 : Nat) (a2 : Option Addr) (n2 c2 : Nat) (a3 : Option Addr) (n3 c3 : Nat) (a4 : Option Addr) (n4 c4 : Nat) (a5 : Option Addr) (n5 c5 : Nat) (a6 : Option Addr) (n6 c6 : Nat),
    v = .agg #[.string (St8 q.frm), .slice a1 n1 c1, .slice a2 n2 c2, .slice a3 n3 c3, .slice a4 n4 c4, .slice a5 n5 c5, .slice a6 n6 c6] ∧ Qi w q a1 n1 a2 n2 a3 n3 a4 n4 a5 n5 a6 n6 ∧ n3 ≤ c3 ∧ c3 ≤ maxLen := by
  obtain ⟨cs, rfl, hq⟩ := h.struct Tryd.underlying29
  obtain ⟨hlen, hf⟩ := hq.cells Tryd.underlying29 (by kernel_rfl) (by kernel_rfl)
  match cs, hlen with
  | [d0, d1, d2, d3, d4, d5, d6], _ =>
    obtain ⟨_, e0, f0⟩ := hf 0 _ rfl
    obtain ⟨_, e1, f1⟩ := hf 1 _ rfl
    obtain ⟨_, e2, f2⟩ := hf 2 _ rfl
    obtain ⟨_, e3, f3⟩ := hf 3 _ rfl
    obtain ⟨_, e4, f4⟩ := hf 4 _ rfl
    obtain ⟨_, e5, f5⟩ := hf 5 _ rfl
    obtain ⟨_, e6, f6⟩ := hf 6 _ rfl
    cases e0; cases e1; cases e2; cases e3; cases e4; cases e5; cases e6
    obtain ⟨s, h0, _⟩ := f0.str Tryd.underlying9
    obtain ⟨a1, n1, c1, h1, _⟩ := f1.slice Tryd.underlying23
    obtain ⟨a2, n2, c2, h2, _⟩ := f2.slice Tryd.underlying24
    obtain ⟨a3, n3, c3, l3, h3, h31, h32, h33, h34, _⟩ := f3.ints Tryd.underlying25 Tryd.underlying3 (by kernel_rfl)
    obtain ⟨a4, n4, c4, h4, _⟩ := f4.slice Tryd.underlying26
    obtain ⟨a5, n5, c5, l5, h5, h51, h52, _, _, _⟩ := f5.ints Tryd.underlying25 Tryd.underlying3 (by kernel_rfl)
    obtain ⟨a6, n6, c6, h6, _⟩ := f6.slice Tryd.underlying27
    cases h0; cases h1; cases h2; cases h3; cases h4; cases h5; cases h6
    obtain ⟨l1, h11, h12, _, _, _⟩ := Reads.list Jn.cells (fun _ => True) 3 (by omega) (fun _ => rfl) Tryd.underlying23 (by kernel_rfl) (fun _ => jn_of) f1
    obtain ⟨l2, h21, h22, _, _, _⟩ := nodes_of f2
    obtain ⟨l4, h41, h42, _, _, _⟩ := Reads.list Ag.cells (fun _ => True) 2 (by omega) (fun _ => rfl) Tryd.underlying26 (by kernel_rfl) (fun _ => ag_of) f4
    obtain ⟨l6, h61, h62, _, _, _⟩ := Reads.list Ky.cells (fun _ => True) 2 (by omega) (fun _ => rfl) Tryd.underlying27 (by kernel_rfl) (fun _ => ky_of) f6
    exact ⟨⟨s, l1, l2, l3, l4, l5, l6⟩, a1, n1, c1, a2, n2, c2, a3, n3, c3, a4, n4, c4, a5, n5, c5, a6, n6, c6, rfl, ⟨h11, h21, h31, h41, h51, h61, h12, h22, h32, h42, h52, h62⟩, h33, h34⟩
end Go.Proofs.YtheafcfbahdcfaaDoor
