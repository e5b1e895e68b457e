/- Walks: numbers as bytes. -/
import Derived.Test.YtheafcfbahdcfaaOcM
import Derived.Test.YtheafcfbahdcfaaJoY
import Derived.Test.YtheafcfbahdcfaaOcL
import Derived.Lib.BitFns
import Derived.Laws.Bits64
namespace Go.Proofs.Ytheafcfbahdcfaa
open Go.RowKit

attribute [local go_sem ↓] Go.wp_at_zero Go.wp_at_succ


theorem xor_ones (a : Nat) (h : a < 18446744073709551616) : a ^^^ 18446744073709551615 = 18446744073709551615 - a := by
  have h1 : (BitVec.ofNat 64 a ^^^ BitVec.allOnes 64).toNat = (~~~ (BitVec.ofNat 64 a)).toNat := by rw [BitVec.xor_allOnes]
  rw [BitVec.toNat_xor, BitVec.toNat_not, BitVec.toNat_allOnes, BitVec.toNat_ofNat, Nat.mod_eq_of_lt h] at h1
  exact h1
theorem zig_eq {n : Int} (h : -9223372036854775808 ≤ n ∧ n ≤ 9223372036854775807) : bits .xor .u64 (IntKind.u64.wrap (IntKind.u64.wrap n * 2)) (IntKind.u64.wrap (n / 9223372036854775808)) = ((zigN n : Nat) : Int) := by
  unfold zigN
  by_cases h0 : 0 ≤ n
  · obtain ⟨m, rfl⟩ := Int.eq_ofNat_of_zero_le h0
    rw [if_pos h0, show IntKind.u64.wrap (IntKind.u64.wrap (m : Int) * 2) = ((2 * m : Nat) : Int) from by rw [IntKind.wrap_u64, IntKind.wrap_u64]; omega, show IntKind.u64.wrap ((m : Int) / 9223372036854775808) = ((0 : Nat) : Int) from by rw [IntKind.wrap_u64]; omega, bits_xor_u64_nat _ _ (by omega) (by omega), Nat.xor_zero]
    omega
  · obtain ⟨m, hm⟩ := Int.eq_ofNat_of_zero_le (show 0 ≤ -(n + 1) by omega)
    rw [if_neg h0, show IntKind.u64.wrap (IntKind.u64.wrap n * 2) = ((18446744073709551614 - 2 * m : Nat) : Int) from by rw [IntKind.wrap_u64, IntKind.wrap_u64]; omega, show IntKind.u64.wrap (n / 9223372036854775808) = ((18446744073709551615 : Nat) : Int) from by rw [IntKind.wrap_u64]; omega, bits_xor_u64_nat _ _ (by omega) (by omega), xor_ones _ (by omega)]
    omega
theorem Own.far2 {w w' : World} {base : Nat} {e : TypeId} {size : Nat} {A : Option Addr} {n c : Nat} {xs : List Value} {row : Option Nat} (h : Own w base e size A n c xs) (hg : w.grownBy w' row) (hne : ∀ k, (Value.slice A n c).ownBlock = some k → row = some k → False) : Own w' base e size A n c xs := by
  refine ⟨h.1, ?_⟩
  rcases h.2 with hn | ⟨g, cap, cur, hv, hb, hh, rest⟩
  · exact .inl hn
  · refine .inr ⟨g, cap, cur, hv, hb, ?_, rest⟩
    rw [hg.block g (Array.getElem?_eq_some_iff.1 hh).1 (fun e => hne g (by rw [hv]; rfl) e.symm)]
    exact hh
theorem byteN_mod (m : Nat) : byteN (m % 256) = byteN m := by
  apply UInt8.toNat_inj.1
  rw [byteN_toNat, byteN_toNat, Nat.mod_mod]
theorem shr_val (n p : Nat) : (n : Int) / 2 ^ (8 * p) % 256 = ((n / 256 ^ p % 256 : Nat) : Int) := by
  have h : (2 : Int) ^ (8 * p) = ((256 ^ p : Nat) : Int) := by
    rw [show (256 : Nat) = 2 ^ 8 from rfl, ← Nat.pow_mul, Int.natCast_pow]
    rfl
  rw [h]
  rfl
theorem bs_byte {b : List UInt8} {m : Nat} (h : m < 256) : Bs b ++ [.int .u8 (m : Int)] = Bs (b ++ [byteN m]) := by
  show Bs b ++ _ = List.map Ytheafcfbahdcfaa.B (b ++ [byteN m])
  rw [List.map_append]
  show _ = Bs b ++ [Ytheafcfbahdcfaa.B (byteN m)]
  unfold Ytheafcfbahdcfaa.B
  rw [byteN_toNat, Nat.mod_eq_of_lt h]

theorem low_snoc (n t : Nat) : [byteN (n / 256 ^ t % 256)] ++ big n t t = big n (t + 1) (t + 1) := by
  rw [big_cons, byteN_mod]
  rfl
end Go.Proofs.Ytheafcfbahdcfaa
