/- Numbers and values as bytes: plain data. -/
import Derived.Test.YtcadjekcdokkjaaGreatMJoF
import Derived.Lib.BitFns
namespace Go.Proofs.YtcadjekcdokkjaaGreat
set_option linter.unusedVariables false
set_option linter.unusedSimpArgs false
open Go.RowKit
def byteN (m : Nat) : UInt8 := UInt8.ofNat m
theorem byteN_toNat (m : Nat) : (byteN m).toNat = m % 256 := by simp [byteN]
def lenB (n : Nat) : Nat := (Lib.bitLen n + 7) / 8
theorem lenB_zero : lenB 0 = 0 := by decide
theorem bit_small : ∀ n : Fin 256, n.val ≠ 0 → 1 ≤ Lib.bitLen n.val ∧ Lib.bitLen n.val ≤ 8 := by decide +kernel
theorem lenB_small {n : Nat} (h : n < 256) (h0 : n ≠ 0) : lenB n = 1 := by
 have := bit_small ⟨n, h⟩ h0
 unfold lenB
 dsimp only at this
 omega
theorem lenB_step {n : Nat} (h : 256 ≤ n) (hn : n < 18446744073709551616) : lenB n = lenB (n / 256) + 1 := by
 unfold lenB
 rw [Lib.bitLen_shift8 n h hn]
 omega
theorem lenB_next {n : Nat} (h : n ≠ 0) (hn : n < 18446744073709551616) : lenB n = lenB (n / 256) + 1 := by
 by_cases h2 : 256 ≤ n
 ·exact lenB_step h2 hn
 ·rw [lenB_small (by omega) h, show n / 256 = 0 from by omega, lenB_zero]
theorem lenB_le {n : Nat} (hn : n < 18446744073709551616) : lenB n ≤ 8 := by
 unfold lenB
 have := Lib.bitLen_le n 64 (Nat.le_refl _) hn
 omega
theorem lenB_pos {n : Nat} (h : 248 ≤ n) (hn : n < 18446744073709551616) : 1 ≤ lenB n := by
 rw [lenB_next (by omega) hn]
 omega
def big (n k t : Nat) : List UInt8 := (List.range t).map fun i => byteN (n / 256 ^ (k - 1 - i))
theorem big_zero (n k : Nat) : big n k 0 = [] := rfl
theorem big_snoc (n k t : Nat) : big n k (t + 1) = big n k t ++ [byteN (n / 256 ^ (k - 1 - t))] := by
 unfold big
 rw [List.range_succ, List.map_append]
 rfl
theorem big_len (n k t : Nat) : (big n k t).length = t := by simp [big]
theorem big_cons (n t : Nat) : big n (t + 1) (t + 1) = byteN (n / 256 ^ t) :: big n t t := by
 unfold big
 rw [List.range_succ_eq_map, List.map_cons, List.map_map]
 congr 1
 apply List.map_congr_left
 intro i hi
 have := List.mem_range.1 hi
 show byteN (n / 256 ^ (t + 1 - 1 - (i + 1))) = byteN (n / 256 ^ (t - 1 - i))
 rw [show t + 1 - 1 - (i + 1) = t - 1 - i from by omega]
def numB (n : Nat) : List UInt8 := if n < 248 then [byteN n] else byteN (247 + lenB n) :: big n (lenB n) (lenB n)
theorem numB_len {n : Nat} (hn : n < 18446744073709551616) : (numB n).length ≤ 9 := by
 unfold numB
 split
 ·simp
 ·have := lenB_le hn
  rw [List.length_cons, big_len]
  omega
def zigN (n : Int) : Nat := if 0 ≤ n then (2 * n).toNat else (2 * (-(n + 1)) + 1).toNat
theorem zigN_lt {n : Int} (h : -9223372036854775808 ≤ n ∧ n ≤ 9223372036854775807) : zigN n < 18446744073709551616 := by
 unfold zigN
 split <;> omega
def vput (v : Va) : List UInt8 := byteN v.k.toNat :: (if v.k = 1 ∨ v.k = 2 then numB (zigN v.n) else if v.k = 3 then numB v.s.length ++ v.s else [])
end Go.Proofs.YtcadjekcdokkjaaGreat
