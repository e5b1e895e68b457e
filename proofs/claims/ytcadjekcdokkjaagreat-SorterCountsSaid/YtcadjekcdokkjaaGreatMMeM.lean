/- Values in order, and rows in order joined: a plain law, with no program in sight. -/
import Derived.Test.YtcadjekcdokkjaaGreatMJoCO
import Derived.Test.YtcadjekcdokkjaaGreatMJoF
namespace Go.Proofs.YtcadjekcdokkjaaGreat
set_option linter.unusedVariables false
set_option linter.unusedSimpArgs false
open Go.RowKit
theorem bl_irrefl : ∀ a : List UInt8, Op.bytesLess a a = false
 | [] => rfl
 | x :: a => by
  unfold Op.bytesLess
  rw [bl_irrefl a]
  simp
theorem bl_trans : ∀ {a b c : List UInt8}, Op.bytesLess a b = true → Op.bytesLess b c = true → Op.bytesLess a c = true
 | _, [], _, h, _ => by unfold Op.bytesLess at h; cases h
 | _, _ :: _, [], _, h => by unfold Op.bytesLess at h; cases h
 | [], _ :: _, _ :: _, _, _ => rfl
 | x :: a, y :: b, z :: c, h1, h2 => by
  unfold Op.bytesLess at h1 h2 ⊢
  simp only [Bool.or_eq_true, Bool.and_eq_true, decide_eq_true_eq, beq_iff_eq] at h1 h2 ⊢
  rcases h1 with h1 | ⟨rfl, h1⟩
  ·rcases h2 with h2 | ⟨rfl, h2⟩
   ·exact .inl (UInt8.lt_trans h1 h2)
   ·exact .inl h1
  ·rcases h2 with h2 | ⟨rfl, h2⟩
   ·exact .inl h2
   ·exact .inr ⟨rfl, bl_trans h1 h2⟩
theorem bl_tri : ∀ {a b : List UInt8}, a ≠ b → Op.bytesLess a b = true ∨ Op.bytesLess b a = true
 | [], [], h => absurd rfl h
 | [], _ :: _, _ => .inl rfl
 | _ :: _, [], _ => .inr rfl
 | x :: a, y :: b, h => by
  unfold Op.bytesLess
  simp only [Bool.or_eq_true, Bool.and_eq_true, decide_eq_true_eq, beq_iff_eq]
  by_cases e : x = y
  ·subst e
   rcases bl_tri (a := a) (b := b) (fun e2 => h (by rw [e2])) with h1 | h1
   ·exact .inl (.inr ⟨rfl, h1⟩)
   ·exact .inr (.inr ⟨rfl, h1⟩)
  ·have hn : x.toNat ≠ y.toNat := fun e2 => e (UInt8.toNat_inj.1 e2)
   rcases Nat.lt_or_gt_of_ne hn with h1 | h1
   ·exact .inl (.inl (UInt8.lt_iff_toNat_lt.2 h1))
   ·exact .inr (.inl (UInt8.lt_iff_toNat_lt.2 h1))
theorem cmpI_neg (a b : Int) : cmpI a b < 0 ↔ a < b := by unfold cmpI; split <;> (try split) <;> omega
theorem cmpI_zero (a b : Int) : cmpI a b = 0 ↔ a = b := by unfold cmpI; split <;> (try split) <;> omega
theorem cmpS_neg (a b : List UInt8) : cmpS a b < 0 ↔ Op.bytesLess a b = true := by
 unfold cmpS
 split
 ·rename_i h; simp [h]
 ·rename_i h; split <;> simp [h]
theorem cmpS_zero (a b : List UInt8) : cmpS a b = 0 ↔ a = b := by
 unfold cmpS
 split
 ·rename_i h
  constructor
  ·intro h2; omega
  ·rintro rfl
   rw [bl_irrefl] at h
   cases h
 ·split
  ·rename_i h; simp [h]
  ·rename_i h; simp [h]
def ltV (x y : Va) : Prop := x.k < y.k ∨ (x.k = y.k ∧ (x.n < y.n ∨ (x.n = y.n ∧ Op.bytesLess x.s y.s = true)))
theorem cmpVa_neg (x y : Va) : cmpVa x y < 0 ↔ ltV x y := by
 unfold cmpVa or3 ltV
 have h1 := cmpI_neg x.k y.k
 have h2 := cmpI_zero x.k y.k
 have h3 := cmpI_neg x.n y.n
 have h4 := cmpI_zero x.n y.n
 have h5 := cmpS_neg x.s y.s
 split
 ·rename_i h
  constructor
  ·intro h6; exact .inl (h1.1 h6)
  ·rintro (h6 | ⟨h6, _⟩)
   ·exact h1.2 h6
   ·exact absurd (h2.2 h6) h
 ·rename_i h
  have hk : x.k = y.k := h2.1 (by omega)
  split
  ·rename_i h'
   constructor
   ·intro h6; exact .inr ⟨hk, .inl (h3.1 h6)⟩
   ·rintro (h6 | ⟨_, h6 | ⟨h6, _⟩⟩)
    ·omega
    ·exact h3.2 h6
    ·exact absurd (h4.2 h6) h'
  ·rename_i h'
   have hn : x.n = y.n := h4.1 (by omega)
   constructor
   ·intro h6; exact .inr ⟨hk, .inr ⟨hn, h5.1 h6⟩⟩
   ·rintro (h6 | ⟨_, h6 | ⟨_, h6⟩⟩)
    ·omega
    ·omega
    ·exact h5.2 h6
theorem cmpVa_zero (x y : Va) : cmpVa x y = 0 ↔ x = y := by
 unfold cmpVa or3
 have h2 := cmpI_zero x.k y.k
 have h4 := cmpI_zero x.n y.n
 have h6 := cmpS_zero x.s y.s
 obtain ⟨k, n, s⟩ := x
 obtain ⟨k', n', s'⟩ := y
 dsimp only at *
 split
 ·rename_i h
  constructor
  ·intro h7; exact absurd h7 h
  ·intro h7
   injection h7 with h7
   exact absurd (h2.2 h7) h
 ·split
  ·rename_i h
   constructor
   ·intro h7; exact absurd h7 h
   ·intro h7
    injection h7 with _ h7
    exact absurd (h4.2 h7) h
  ·rename_i h h'
   have hk : k = k' := h2.1 (by omega)
   have hn : n = n' := h4.1 (by omega)
   rw [h6]
   constructor
   ·intro h7; rw [hk, hn, h7]
   ·intro h7
    injection h7
theorem ltV_trans {x y z : Va} (h1 : ltV x y) (h2 : ltV y z) : ltV x z := by
 unfold ltV at *
 rcases h1 with h1 | ⟨e1, h1 | ⟨f1, h1⟩⟩
 ·rcases h2 with h2 | ⟨e2, _⟩
  ·exact .inl (by omega)
  ·exact .inl (by omega)
 ·rcases h2 with h2 | ⟨e2, h2 | ⟨f2, h2⟩⟩
  ·exact .inl (by omega)
  ·exact .inr ⟨by omega, .inl (by omega)⟩
  ·exact .inr ⟨by omega, .inl (by omega)⟩
 ·rcases h2 with h2 | ⟨e2, h2 | ⟨f2, h2⟩⟩
  ·exact .inl (by omega)
  ·exact .inr ⟨by omega, .inl (by omega)⟩
  ·exact .inr ⟨by omega, .inr ⟨by omega, bl_trans h1 h2⟩⟩
theorem ltV_irrefl (x : Va) : ¬ ltV x x := by
 unfold ltV
 rw [bl_irrefl]
 rintro (h | ⟨_, h | ⟨_, h⟩⟩)
 ·omega
 ·omega
 ·cases h
theorem ltV_tri {x y : Va} (h : x ≠ y) : ltV x y ∨ ltV y x := by
 obtain ⟨k, n, s⟩ := x
 obtain ⟨k', n', s'⟩ := y
 unfold ltV
 dsimp only
 by_cases hk : k = k'
 ·by_cases hn : n = n'
  ·rcases bl_tri (a := s) (b := s') (fun e => h (by rw [hk, hn, e])) with h1 | h1
   ·exact .inl (.inr ⟨hk, .inr ⟨hn, h1⟩⟩)
   ·exact .inr (.inr ⟨hk.symm, .inr ⟨hn.symm, h1⟩⟩)
  ·by_cases h1 : n < n'
   ·exact .inl (.inr ⟨hk, .inl h1⟩)
   ·exact .inr (.inr ⟨hk.symm, .inl (by omega)⟩)
 ·by_cases h1 : k < k'
  ·exact .inl (.inl h1)
  ·exact .inr (.inl (by omega))
def ltO (x y : Va) : Prop := (x.k = 0 ∧ y.k ≠ 0) ∨ (x.k ≠ 0 ∧ y.k ≠ 0 ∧ ltV x y)
def leO (x y : Va) : Prop := ¬ ltO y x
def Ord (rs : List RowM) (col : Int) : Prop := rs.Pairwise fun x y => leO (colAt x col) (colAt y col)
section
variable {x y : RowM} {a b : List RowM} {l r : Int} (ha : Ord (x :: a) l) (hb : Ord (y :: b) r) (hra : ∀ z ∈ x :: a, ∀ v ∈ z, rightV v = true) (hrb : ∀ z ∈ y :: b, ∀ v ∈ z, rightV v = true)
include hb in
end
end Go.Proofs.YtcadjekcdokkjaaGreat
