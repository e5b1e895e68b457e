/- Numbers and texts that bytes begin with: plain laws, with no program in sight. -/
import Derived.Test.YtojppmnmhdgnnaaMOcM
namespace Go.Proofs.Ytojppmnmhdgnnaa
set_option linter.unusedVariables false
set_option linter.unusedSimpArgs false
open Go.RowKit

/-- The number that bytes are, the highest first. -/
def valB (l : List UInt8) : Nat := l.foldl (fun n c => n * 256 + c.toNat) 0
theorem valB_acc : ∀ (l : List UInt8) (a : Nat), l.foldl (fun n c => n * 256 + c.toNat) a = a * 256 ^ l.length + valB l
  | [], a => by simp [valB]
  | c :: l, a => by
    have h1 := valB_acc l (a * 256 + c.toNat)
    have h2 := valB_acc l (0 * 256 + c.toNat)
    unfold valB at *
    rw [List.foldl_cons, List.foldl_cons, h1, h2, List.length_cons, Nat.pow_succ, Nat.add_mul, Nat.zero_mul, Nat.zero_add, Nat.mul_assoc, Nat.mul_comm 256, Nat.add_assoc]
theorem valB_cons (c : UInt8) (l : List UInt8) : valB (c :: l) = c.toNat * 256 ^ l.length + valB l := by
  have h := valB_acc l (0 * 256 + c.toNat)
  rw [Nat.zero_mul, Nat.zero_add] at h
  rw [← h]
  unfold valB
  rw [List.foldl_cons, Nat.zero_mul, Nat.zero_add]
theorem valB_snoc (l : List UInt8) (c : UInt8) : valB (l ++ [c]) = valB l * 256 + c.toNat := by simp [valB]
theorem valB_lt : ∀ l : List UInt8, valB l < 256 ^ l.length
  | [] => by simp [valB]
  | c :: l => by
    have h1 := valB_lt l
    have h2 := c.toNat_lt
    rw [valB_cons, List.length_cons, Nat.pow_succ]
    have : (c.toNat + 1) * 256 ^ l.length ≤ 256 * 256 ^ l.length := Nat.mul_le_mul_right _ (by omega)
    rw [Nat.add_mul, Nat.one_mul] at this
    rw [Nat.mul_comm (256 ^ l.length) 256]
    omega
theorem valB_big (n : Nat) : ∀ t : Nat, valB (big n t t) = n % 256 ^ t
  | 0 => by rw [big_zero, Nat.pow_zero, Nat.mod_one]; rfl
  | t + 1 => by
    rw [big_cons, valB_cons, big_len, byteN_toNat, valB_big n t, Nat.pow_succ, Nat.mod_mul, Nat.mul_comm, Nat.add_comm]
theorem lt_lenB : ∀ (f n : Nat), n ≤ f → n < 18446744073709551616 → n < 256 ^ lenB n
  | f, n, hf, hn => by
    by_cases h0 : n = 0
    · subst h0
      rw [lenB_zero]
      decide
    · rw [lenB_next h0 hn, Nat.pow_succ]
      cases f with
      | zero => omega
      | succ f =>
        have := lt_lenB f (n / 256) (by omega) (by omega)
        omega
theorem lenB_bits {n : Nat} (h0 : n ≠ 0) (hn : n < 18446744073709551616) : 8 * (lenB n - 1) < Lib.bitLen n := by
  have h1 : lenB n = lenB (n / 256) + 1 := lenB_next h0 hn
  unfold lenB at h1 ⊢
  omega

/-- The number that bytes begin with, and the bytes behind. -/
def takeNum : List UInt8 → Option (Nat × List UInt8)
  | [] => none
  | f :: t =>
    if f.toNat < 248 then some (f.toNat, t)
    else if t.length < f.toNat - 247 then none
    else if valB (t.take (f.toNat - 247)) < 248 ∨ Lib.bitLen (valB (t.take (f.toNat - 247))) ≤ 8 * (f.toNat - 248) then none
    else some (valB (t.take (f.toNat - 247)), t.drop (f.toNat - 247))
theorem takeNum_lt {l u : List UInt8} {m : Nat} (h : takeNum l = some (m, u)) : m < 18446744073709551616 ∧ u.length < l.length := by
  cases l with
  | nil => cases h
  | cons f t =>
    rw [takeNum] at h
    have hf := f.toNat_lt
    split at h
    · obtain ⟨h1, h2⟩ := Prod.mk.inj (Option.some.inj h)
      subst h1; subst h2
      exact ⟨by omega, by simp⟩
    · split at h
      · cases h
      · split at h
        · cases h
        · obtain ⟨h1, h2⟩ := Prod.mk.inj (Option.some.inj h)
          subst h1; subst h2
          refine ⟨?_, by rw [List.length_drop, List.length_cons]; omega⟩
          have := valB_lt (t.take (f.toNat - 247))
          have h8 : (t.take (f.toNat - 247)).length ≤ 8 := by rw [List.length_take]; omega
          exact Nat.lt_of_lt_of_le this (Nat.le_trans (Nat.pow_le_pow_right (by decide) h8) (by decide +kernel))
theorem takeNum_suf {l u : List UInt8} {m : Nat} (h : takeNum l = some (m, u)) : ∃ k, u = l.drop k ∧ k ≤ l.length := by
  cases l with
  | nil => cases h
  | cons f t =>
    rw [takeNum] at h
    split at h
    · obtain ⟨h1, h2⟩ := Prod.mk.inj (Option.some.inj h)
      exact ⟨1, h2.symm, by simp⟩
    · split at h
      · cases h
      · split at h
        · cases h
        · obtain ⟨h1, h2⟩ := Prod.mk.inj (Option.some.inj h)
          exact ⟨f.toNat - 247 + 1, by rw [List.drop_succ_cons]; exact h2.symm, by rw [List.length_cons]; omega⟩
theorem takeNum_put {n : Nat} (hn : n < 18446744073709551616) (U : List UInt8) : takeNum (numB n ++ U) = some (n, U) := by
  unfold numB
  split
  · rename_i h
    rw [List.cons_append, List.nil_append, takeNum, byteN_toNat, Nat.mod_eq_of_lt (by omega), if_pos h]
  · rename_i h
    have h8 := lenB_le hn
    have h1 := lenB_pos (by omega) hn
    have e1 : (byteN (247 + lenB n)).toNat = 247 + lenB n := by rw [byteN_toNat, Nat.mod_eq_of_lt (by omega)]
    have e2 : (big n (lenB n) (lenB n) ++ U).take (lenB n) = big n (lenB n) (lenB n) := List.take_left' (big_len ..)
    have e3 : (big n (lenB n) (lenB n) ++ U).drop (lenB n) = U := List.drop_left' (big_len ..)
    have e4 : valB (big n (lenB n) (lenB n)) = n := by rw [valB_big, Nat.mod_eq_of_lt (lt_lenB n n (Nat.le_refl _) hn)]
    have h2 := lenB_bits (n := n) (by omega) hn
    rw [List.cons_append, takeNum, e1, if_neg (by omega), if_neg (by rw [List.length_append, big_len]; omega), show 247 + lenB n - 247 = lenB n from by omega, e2, e3, e4, if_neg]
    omega
theorem takeNum_short {n : Nat} (hn : n < 18446744073709551616) {j : Nat} (hj : j < (numB n).length) : takeNum ((numB n).take j) = none := by
  cases j with
  | zero => rfl
  | succ j =>
    unfold numB at hj ⊢
    split at hj
    · simp at hj
    · rename_i h
      have h8 := lenB_le hn
      rw [if_neg h]
      rw [List.length_cons, big_len] at hj
      have e1 : (byteN (247 + lenB n)).toNat = 247 + lenB n := by rw [byteN_toNat, Nat.mod_eq_of_lt (by omega)]
      have h1 := lenB_pos (by omega) hn
      rw [List.take_succ_cons, takeNum, e1, if_neg (by omega), if_pos (by rw [List.length_take, big_len]; omega)]

/-- The number that may be below nothing. -/
def unzig (m : Nat) : Int := if m % 2 = 0 then ((m / 2 : Nat) : Int) else -((m / 2 : Nat) : Int) - 1
theorem unzig_zig (n : Int) : unzig (zigN n) = n := by
  unfold unzig zigN
  split <;> split <;> omega
theorem unzig_in {m : Nat} (h : m < 18446744073709551616) : -9223372036854775808 ≤ unzig m ∧ unzig m ≤ 9223372036854775807 := by
  unfold unzig
  split <;> omega

/-- The text that bytes begin with. -/
def takeText (l : List UInt8) : Option (List UInt8 × List UInt8) :=
  match takeNum l with
  | none => none
  | some (m, u) => if 1024 < m ∨ u.length < m then none else some (u.take m, u.drop m)
theorem takeText_put {s : List UInt8} (hs : s.length ≤ 1024) (U : List UInt8) : takeText (numB s.length ++ s ++ U) = some (s, U) := by
  unfold takeText
  rw [List.append_assoc, takeNum_put (by omega)]
  dsimp only
  rw [if_neg (by rw [List.length_append]; omega), List.take_left, List.drop_left]
theorem take_le {α : Type} (l m : List α) {j : Nat} (h : j ≤ l.length) : (l ++ m).take j = l.take j := List.take_append_of_le_length h
theorem take_more {α : Type} (l m : List α) {j : Nat} (h : l.length ≤ j) : (l ++ m).take j = l ++ m.take (j - l.length) := by
  rw [List.take_append, List.take_of_length_le h]
theorem takeText_short {s : List UInt8} (hs : s.length ≤ 1024) {j : Nat} (hj : j < (numB s.length ++ s).length) : takeText ((numB s.length ++ s).take j) = none := by
  unfold takeText
  by_cases h : j < (numB s.length).length
  · rw [take_le _ _ (by omega), takeNum_short (by omega) h]
  · rw [List.length_append] at hj
    rw [take_more _ _ (by omega), takeNum_put (by omega)]
    dsimp only
    rw [if_pos (by rw [List.length_take]; omega)]

theorem takeText_suf {l s u : List UInt8} (h : takeText l = some (s, u)) : s.length ≤ 1024 ∧ ∃ k, u = l.drop k ∧ k ≤ l.length := by
  unfold takeText at h
  cases e : takeNum l with
  | none => rw [e] at h; cases h
  | some x =>
    obtain ⟨m, t⟩ := x
    rw [e] at h
    dsimp only at h
    split at h
    · cases h
    · obtain ⟨h1, h2⟩ := Prod.mk.inj (Option.some.inj h)
      obtain ⟨k, rfl, hk⟩ := takeNum_suf e
      refine ⟨by rw [← h1, List.length_take]; omega, k + m, ?_, ?_⟩
      · rw [← h2, List.drop_drop]
      · rw [List.length_drop] at *
        omega
end Go.Proofs.Ytojppmnmhdgnnaa
