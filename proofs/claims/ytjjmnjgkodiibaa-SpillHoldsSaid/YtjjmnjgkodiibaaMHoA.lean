/- Acts that came in as an argument, as plain data. -/
import Derived.Test.YtjjmnjgkodiibaaMJoA
import Derived.Test.YtjjmnjgkodiibaaMHoT
namespace Go.Proofs.Ytjjmnjgkodiibaa
open Go.RowKit

/-- An act: its kind, which writer or file, a row. -/
structure ActH where
  kind : Nat
  which : Nat
  row : RowM
  A : Option Addr
  n : Nat
  c : Nat
namespace ActH
def cells (a : ActH) : List Value := [.int .u8 (a.kind : Int), .int .u8 (a.which : Int), .slice a.A a.n a.c]
structure ok (a : ActH) (w : World) : Prop where
  kind : a.kind < 256
  which : a.which < 256
  len : a.row.length = a.n
  rd : Rd w a.A (rcells a.row)
  vals : ∀ v ∈ a.row, v.ok
  cap : a.n ≤ a.c
  most : a.c ≤ 9223372036854775807
end ActH
def actsH (ys : List ActH) : List Value := ys.flatMap ActH.cells
theorem length_actsH : ∀ ys : List ActH, (actsH ys).length = ys.length * 3
  | [] => rfl
  | y :: ys => by
    have := length_actsH ys
    unfold actsH at *
    rw [List.flatMap_cons, List.length_append, this, List.length_cons]
    show 3 + _ = _
    omega
theorem actsH_get : ∀ (ys : List ActH) (j : Nat) (a : ActH) (t : Nat), ys[j]? = some a → t < 3 → (actsH ys)[j * 3 + t]? = a.cells[t]?
  | [], j, a, t, h, _ => by simp at h
  | x :: l, 0, a, t, h, ht => by
    simp at h
    subst h
    unfold actsH
    rw [List.flatMap_cons, List.getElem?_append_left (by show _ < 3; omega), show 0 * 3 + t = t from by omega]
  | x :: l, j + 1, a, t, h, ht => by
    have ih := actsH_get l j a t (by simpa using h) ht
    unfold actsH at *
    rw [List.flatMap_cons, List.getElem?_append_right (by show 3 ≤ _; omega)]
    have : (j + 1) * 3 + t - x.cells.length = j * 3 + t := by show (j + 1) * 3 + t - 3 = _; omega
    rw [this]
    exact ih

theorem act17_of {w : World} {cs : List Value} (h : Reads Try.prog w 35 cs) : ∃ a : ActH, cs = a.cells ∧ a.ok w := by
  obtain ⟨hlen, hf⟩ := h.cells Try.underlying35 (by kernel_rfl) (by kernel_rfl)
  match cs, hlen with
  | [c0, c1, c2], _ =>
    obtain ⟨_, e0, f0⟩ := hf 0 _ rfl
    obtain ⟨_, e1, f1⟩ := hf 1 _ rfl
    obtain ⟨_, e2, f2⟩ := hf 2 _ rfl
    cases e0; cases e1; cases e2
    obtain ⟨kind, h0, w0⟩ := f0.int Try.underlying5
    obtain ⟨which, h1, w1⟩ := f1.int Try.underlying5
    obtain ⟨A, n, c, h2, _⟩ := f2.slice Try.underlying33
    cases h0; cases h1; cases h2
    obtain ⟨r, hrl, hrd, hok, hrc, hrm⟩ := row_of Try.underlying33 f2
    have b0 := wf_u8_bounds w0
    have b1 := wf_u8_bounds w1
    obtain ⟨kind, rfl⟩ := Int.eq_ofNat_of_zero_le b0.1
    obtain ⟨which, rfl⟩ := Int.eq_ofNat_of_zero_le b1.1
    unfold maxLen at hrm
    exact ⟨⟨kind, which, r, A, n, c⟩, rfl, ⟨by show kind < 256; omega, by show which < 256; omega, hrl, hrd, hok, hrc, by show c ≤ _; omega⟩⟩

set_option maxRecDepth 100000 in
theorem acts17_of {w : World} {X : Option Addr} {n c : Nat} (h : Reads Try.prog w 22 [.slice X n c]) : ∃ ys : List ActH, ys.length = n ∧ Rd w X (actsH ys) ∧ (∀ a ∈ ys, a.ok w) ∧ n ≤ c ∧ c ≤ maxLen := by
  obtain ⟨X', n', c', hcs, hnc, hcm, hX, hel⟩ := h.slice Try.underlying22
  cases hcs
  have h3c : Try.prog.cellsOf 35 = 3 := by kernel_rfl
  rw [h3c] at hel
  have key : ∀ m, m ≤ n → ∃ ys : List ActH, ys.length = m ∧ (∀ a ∈ ys, a.ok w) ∧ ∀ i a, ys[i]? = some a → ∃ ad, X = some ad ∧ ∀ t, t < 3 → w.cell? (ad.add (i * 3 + t)) = a.cells[t]? := by
    intro m
    induction m with
    | zero => intro _; exact ⟨[], rfl, by simp, by simp⟩
    | succ m ih =>
      intro hm
      obtain ⟨ys, h1, h2, h3⟩ := ih (by omega)
      obtain ⟨ad, cs, hx, _, hc, hr⟩ := hel m (by omega)
      obtain ⟨a, rfl, ha⟩ := act17_of hr
      refine ⟨ys ++ [a], by simp [h1], fun y hy => ?_, fun i y hy => ?_⟩
      · rcases List.mem_append.1 hy with hy | hy
        · exact h2 y hy
        · rw [List.mem_singleton.1 hy]; exact ha
      · rw [List.getElem?_append] at hy
        split at hy
        · exact h3 i y hy
        · have hi : i = m := by
            have := (List.getElem?_eq_some_iff.1 hy).1
            simp at this
            omega
          subst hi
          simp [h1] at hy
          subst hy
          refine ⟨ad, hx, fun t ht => ?_⟩
          have := hc t ht
          rwa [addr_add_add] at this
  obtain ⟨ys, h1, h2, h3⟩ := key n (Nat.le_refl _)
  refine ⟨ys, h1, ?_, h2, hnc, hcm⟩
  cases X with
  | none =>
    have : ys = [] := List.eq_nil_of_length_eq_zero (by have := (hX rfl).1; omega)
    subst this
    exact Rd.nil _ _
  | some ad =>
    refine rd_of_cells fun i u hu => ?_
    have hlt : i / 3 < ys.length := by
      have := (List.getElem?_eq_some_iff.1 hu).1
      have hla := length_actsH ys
      omega
    obtain ⟨ad', e, hc⟩ := h3 (i / 3) _ (List.getElem?_eq_getElem hlt)
    injection e with e
    subst e
    have h := hc (i % 3) (Nat.mod_lt _ (by omega))
    rw [show i / 3 * 3 + i % 3 = i from by omega] at h
    rw [h]
    have := actsH_get ys (i / 3) _ (i % 3) (List.getElem?_eq_getElem hlt) (Nat.mod_lt _ (by omega))
    rw [show i / 3 * 3 + i % 3 = i from by omega, hu] at this
    exact this.symm
end Go.Proofs.Ytjjmnjgkodiibaa
