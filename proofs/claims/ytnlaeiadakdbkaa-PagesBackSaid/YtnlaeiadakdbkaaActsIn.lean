/- Acts that came in as an argument, as plain data. -/
import Derived.Test.YtnlaeiadakdbkaaFew
import Derived.Test.YtnlaeiadakdbkaaIn
namespace Go.Proofs.Ytnlaeiadakdbkaa
open Go.RowKit

theorem act_of {w : World} {cs : List Value} (h : Reads Try.prog w 43 cs) : ∃ a : ActM, cs = a.cells ∧ a.ok w := by
  obtain ⟨hlen, hf⟩ := h.cells Try.underlying43 (by kernel_rfl) (by kernel_rfl)
  match cs, hlen with
  | [c0, c1, c2, c3, c4, c5], _ =>
    obtain ⟨_, e0, f0⟩ := hf 0 _ rfl
    obtain ⟨_, e1, f1⟩ := hf 1 _ rfl
    obtain ⟨_, e2, f2⟩ := hf 2 _ rfl
    obtain ⟨_, e3, f3⟩ := hf 3 _ rfl
    obtain ⟨_, e4, f4⟩ := hf 4 _ rfl
    obtain ⟨_, e5, f5⟩ := hf 5 _ rfl
    cases e0; cases e1; cases e2; cases e3; cases e4; cases e5
    obtain ⟨kind, h0, w0⟩ := f0.int Try.underlying5
    obtain ⟨at', h1, w1⟩ := f1.int Try.underlying3
    obtain ⟨nn, h2, w2⟩ := f2.int Try.underlying3
    obtain ⟨A, bn, bc, b, h3, hb, rb, hbc, hbm⟩ := f3.bytes Try.underlying22 Try.underlying5 (by kernel_rfl)
    obtain ⟨L, ln, lc, l, h4, hl, hrl, hlc, hlm, hlw⟩ := f4.ints Try.underlying29 Try.underlying3 (by kernel_rfl)
    obtain ⟨mask, h5, w5⟩ := f5.int Try.underlying5
    cases h0; cases h1; cases h2; cases h3; cases h4; cases h5
    have b5 := wf_u8_bounds w5
    have hm : ((UInt8.ofNat mask.toNat).toNat : Int) = mask := by
      rw [UInt8.toNat_ofNat']
      omega
    unfold maxLen at hbm hlm
    refine ⟨⟨kind, at', nn, b, l, UInt8.ofNat mask.toNat, A, L, bn, bc, ln, lc⟩, ?_, ⟨hb, hl, rb, hrl, hbc, by show bc ≤ _; omega, by show ln ≤ _; omega, wf_u8_bounds w0, wf_i64_bounds w1, wf_i64_bounds w2, fun i hi => wf_i64_bounds (hlw i hi)⟩⟩
    unfold ActM.cells
    rw [hm]

theorem addr_add_add (a : Addr) (i j : Nat) : (a.add i).add j = a.add (i + j) := by
  by_cases hi : i = 0
  · subst hi; simp [Addr.add]
  · by_cases hj : j = 0
    · subst hj; simp [Addr.add]
    · simp [Addr.add, hi, hj, Nat.add_assoc]
theorem length_acts : ∀ ys : List ActM, (acts ys).length = ys.length * 6
  | [] => rfl
  | y :: ys => by
    have := length_acts ys
    unfold acts at *
    rw [List.flatMap_cons, List.length_append, this, List.length_cons]
    show 6 + _ = _
    omega

theorem acts_of {w : World} {X : Option Addr} {n c : Nat} (h : Reads Try.prog w 35 [.slice X n c]) : ∃ ys : List ActM, ys.length = n ∧ Rd w X (acts ys) ∧ (∀ a ∈ ys, a.ok w) ∧ n ≤ c ∧ c ≤ maxLen := by
  obtain ⟨X', n', c', hcs, hnc, hcm, hX, hel⟩ := h.slice Try.underlying35
  cases hcs
  have h6 : Try.prog.cellsOf 43 = 6 := by kernel_rfl
  rw [h6] at hel
  have key : ∀ m, m ≤ n → ∃ ys : List ActM, ys.length = m ∧ (∀ a ∈ ys, a.ok w) ∧ ∀ i a, ys[i]? = some a → ∃ ad, X = some ad ∧ ∀ t, t < 6 → w.cell? (ad.add (i * 6 + t)) = a.cells[t]? := by
    intro m
    induction m with
    | zero => intro _; exact ⟨[], rfl, by simp, by simp⟩
    | succ m ih =>
      intro hm
      obtain ⟨ys, h1, h2, h3⟩ := ih (by omega)
      obtain ⟨ad, cs, hx, _, hc, hr⟩ := hel m (by omega)
      obtain ⟨a, rfl, ha⟩ := act_of hr
      refine ⟨ys ++ [a], by simp [h1], fun y hy => ?_, fun i y hy => ?_⟩
      · rcases List.mem_append.1 hy with hy | hy
        · exact h2 y hy
        · rw [List.mem_singleton.1 hy]; exact ha
      · rw [List.getElem?_append] at hy
        split at hy
        · exact h3 i y hy
        · have hi : i = m := by
            have := (List.getElem?_eq_some_iff.1 hy).1
            simp at this
            omega
          subst hi
          simp [h1] at hy
          subst hy
          refine ⟨ad, hx, fun t ht => ?_⟩
          have := hc t ht
          rwa [addr_add_add] at this
  obtain ⟨ys, h1, h2, h3⟩ := key n (Nat.le_refl _)
  refine ⟨ys, h1, ?_, h2, hnc, hcm⟩
  cases X with
  | none =>
    have : ys = [] := List.eq_nil_of_length_eq_zero (by have := (hX rfl).1; omega)
    subst this
    exact Rd.nil _ _
  | some ad =>
    refine rd_of_cells fun i u hu => ?_
    have hlt : i / 6 < ys.length := by
      have := (List.getElem?_eq_some_iff.1 hu).1
      have hla := length_acts ys
      omega
    obtain ⟨ad', e, hc⟩ := h3 (i / 6) _ (List.getElem?_eq_getElem hlt)
    injection e with e
    subst e
    have h := hc (i % 6) (Nat.mod_lt _ (by omega))
    rw [show i / 6 * 6 + i % 6 = i from by omega] at h
    rw [h]
    have := acts_get ys (i / 6) _ (i % 6) (List.getElem?_eq_getElem hlt) (Nat.mod_lt _ (by omega))
    rw [show i / 6 * 6 + i % 6 = i from by omega, hu] at this
    exact this.symm
end Go.Proofs.Ytnlaeiadakdbkaa
