/- Numbers and values as bytes: plain data. A walk: how many bits a number has (math/bits.Len64). Walks: numbers as bytes. Walks: a value that may be, boxed and unboxed; numbers and texts as bytes. Walks: a value that may not be, boxed; which values may be. -/
import Derived.Test.YtipnglidepfkbaaDoorMGrB
import Derived.Lib.BitFns
import Derived.Laws.Bits64
import Derived.Lib.AppendStr
import Derived.Lib.AppendZeros
import Derived.Deep.RegionLaw
namespace Go.Proofs.YtipnglidepfkbaaDoor
set_option linter.unusedVariables false
set_option linter.unusedSimpArgs false
open Go.RowKit

def byteN (m : Nat) : UInt8 := UInt8.ofNat m
theorem byteN_toNat (m : Nat) : (byteN m).toNat = m % 256 := by simp [byteN]
/-- How many bytes a number has. -/
def lenB (n : Nat) : Nat := (Lib.bitLen n + 7) / 8
theorem lenB_zero : lenB 0 = 0 := by decide
theorem bit_small : ∀ n : Fin 256, n.val ≠ 0 → 1 ≤ Lib.bitLen n.val ∧ Lib.bitLen n.val ≤ 8 := by decide +kernel
theorem lenB_small {n : Nat} (h : n < 256) (h0 : n ≠ 0) : lenB n = 1 := by
  have := bit_small ⟨n, h⟩ h0
  unfold lenB
  dsimp only at this
  omega
theorem lenB_step {n : Nat} (h : 256 ≤ n) (hn : n < 18446744073709551616) : lenB n = lenB (n / 256) + 1 := by
  unfold lenB
  rw [Lib.bitLen_shift8 n h hn]
  omega
theorem lenB_next {n : Nat} (h : n ≠ 0) (hn : n < 18446744073709551616) : lenB n = lenB (n / 256) + 1 := by
  by_cases h2 : 256 ≤ n
  · exact lenB_step h2 hn
  · rw [lenB_small (by omega) h, show n / 256 = 0 from by omega, lenB_zero]
theorem lenB_le {n : Nat} (hn : n < 18446744073709551616) : lenB n ≤ 8 := by
  unfold lenB
  have := Lib.bitLen_le n 64 (Nat.le_refl _) hn
  omega
theorem lenB_pos {n : Nat} (h : 248 ≤ n) (hn : n < 18446744073709551616) : 1 ≤ lenB n := by
  rw [lenB_next (by omega) hn]
  omega

/-- The first t of a number's k bytes, the highest first. -/
def big (n k t : Nat) : List UInt8 := (List.range t).map fun i => byteN (n / 256 ^ (k - 1 - i))
theorem big_zero (n k : Nat) : big n k 0 = [] := rfl
theorem big_snoc (n k t : Nat) : big n k (t + 1) = big n k t ++ [byteN (n / 256 ^ (k - 1 - t))] := by
  unfold big
  rw [List.range_succ, List.map_append]
  rfl
theorem big_len (n k t : Nat) : (big n k t).length = t := by simp [big]
theorem big_cons (n t : Nat) : big n (t + 1) (t + 1) = byteN (n / 256 ^ t) :: big n t t := by
  unfold big
  rw [List.range_succ_eq_map, List.map_cons, List.map_map]
  congr 1
  apply List.map_congr_left
  intro i hi
  have := List.mem_range.1 hi
  show byteN (n / 256 ^ (t + 1 - 1 - (i + 1))) = byteN (n / 256 ^ (t - 1 - i))
  rw [show t + 1 - 1 - (i + 1) = t - 1 - i from by omega]
/-- A number's bytes. -/
def numB (n : Nat) : List UInt8 := if n < 248 then [byteN n] else byteN (247 + lenB n) :: big n (lenB n) (lenB n)
theorem numB_len {n : Nat} (hn : n < 18446744073709551616) : (numB n).length ≤ 9 := by
  unfold numB
  split
  · simp
  · have := lenB_le hn
    rw [List.length_cons, big_len]
    omega
/-- A number that may be below nothing, as one that is not. -/
def zigN (n : Int) : Nat := if 0 ≤ n then (2 * n).toNat else (2 * (-(n + 1)) + 1).toNat
theorem zigN_lt {n : Int} (h : -9223372036854775808 ≤ n ∧ n ≤ 9223372036854775807) : zigN n < 18446744073709551616 := by
  unfold zigN
  split <;> omega
/-- A value's bytes. -/
def vput (v : Va) : List UInt8 := byteN v.k.toNat :: (if v.k = 1 ∨ v.k = 2 then numB (zigN v.n) else if v.k = 3 then numB v.s.length ++ v.s else [])
end Go.Proofs.YtipnglidepfkbaaDoor
namespace Go.Proofs.YtipnglidepfkbaaDoor
set_option linter.unusedVariables false
set_option linter.unusedSimpArgs false
open Go.RowKit

attribute [local go_sem ↓] Go.wp_at_zero Go.wp_at_succ

set_option maxHeartbeats 4000000 in
set_option maxRecDepth 100000 in
theorem len64_any (x : Int) (w : World) (h0 : 0 ≤ x) (h1 : x ≤ 18446744073709551615) :
    Calls Tryd.prog 102 #[.int .u64 x] w fun e w' => e = .returned (.int .i64 (Lib.bitLen x.toNat)) ∧ w' = w := by
  by_cases ha : 4294967296 ≤ x
  · by_cases hb : 65536 ≤ x / 4294967296
    · by_cases hc : 256 ≤ x / 4294967296 / 65536
      · have y0 : (0 : Int) ≤ x / 4294967296 / 65536 / 256 := by omega
        have y1 : x / 4294967296 / 65536 / 256 ≤ 255 := by omega
        have l := Lib.bitLen_le8' (x / 4294967296 / 65536 / 256) y0 y1
        have t := Lib.len8_of (x / 4294967296 / 65536 / 256) y0 y1
        have s := Lib.bitLen_shift56 x.toNat (by omega) (by omega)
        rw [show (x / 4294967296 / 65536 / 256).toNat = x.toNat / 72057594037927936 from by omega] at l t
        generalize Lib.bitLen (x.toNat / 72057594037927936) = q at *
        have S := Lib.hid s
        have T := Lib.hid t
        clear s t
        go_enter Tryd.func102, Tryd.ntmps102
        go_wp2_with fail
        go_ret
        refine ⟨congrArg Ending.returned (congrArg (Value.int IntKind.i64) ?_), rfl⟩
        rw [T.out, S.out]
        simp only [wrap64]
        omega
      · have hc' : x / 4294967296 / 65536 < 256 := by omega
        have y0 : (0 : Int) ≤ x / 4294967296 / 65536 := by omega
        have y1 : x / 4294967296 / 65536 ≤ 255 := by omega
        have l := Lib.bitLen_le8' (x / 4294967296 / 65536) y0 y1
        have t := Lib.len8_of (x / 4294967296 / 65536) y0 y1
        have s := Lib.bitLen_shift48 x.toNat (by omega) (by omega)
        rw [show (x / 4294967296 / 65536).toNat = x.toNat / 281474976710656 from by omega] at l t
        generalize Lib.bitLen (x.toNat / 281474976710656) = q at *
        have S := Lib.hid s
        have T := Lib.hid t
        clear s t
        go_enter Tryd.func102, Tryd.ntmps102
        go_wp2_with fail
        go_ret
        refine ⟨congrArg Ending.returned (congrArg (Value.int IntKind.i64) ?_), rfl⟩
        rw [T.out, S.out]
        simp only [wrap64]
        omega
    · have hb' : x / 4294967296 < 65536 := by omega
      by_cases hc : 256 ≤ x / 4294967296
      · have y0 : (0 : Int) ≤ x / 4294967296 / 256 := by omega
        have y1 : x / 4294967296 / 256 ≤ 255 := by omega
        have l := Lib.bitLen_le8' (x / 4294967296 / 256) y0 y1
        have t := Lib.len8_of (x / 4294967296 / 256) y0 y1
        have s := Lib.bitLen_shift40 x.toNat (by omega) (by omega)
        rw [show (x / 4294967296 / 256).toNat = x.toNat / 1099511627776 from by omega] at l t
        generalize Lib.bitLen (x.toNat / 1099511627776) = q at *
        have S := Lib.hid s
        have T := Lib.hid t
        clear s t
        go_enter Tryd.func102, Tryd.ntmps102
        go_wp2_with fail
        go_ret
        refine ⟨congrArg Ending.returned (congrArg (Value.int IntKind.i64) ?_), rfl⟩
        rw [T.out, S.out]
        simp only [wrap64]
        omega
      · have hc' : x / 4294967296 < 256 := by omega
        have y0 : (0 : Int) ≤ x / 4294967296 := by omega
        have y1 : x / 4294967296 ≤ 255 := by omega
        have l := Lib.bitLen_le8' (x / 4294967296) y0 y1
        have t := Lib.len8_of (x / 4294967296) y0 y1
        have s := Lib.bitLen_shift32 x.toNat (by omega) (by omega)
        rw [show (x / 4294967296).toNat = x.toNat / 4294967296 from by omega] at l t
        generalize Lib.bitLen (x.toNat / 4294967296) = q at *
        have S := Lib.hid s
        have T := Lib.hid t
        clear s t
        go_enter Tryd.func102, Tryd.ntmps102
        go_wp2_with fail
        go_ret
        refine ⟨congrArg Ending.returned (congrArg (Value.int IntKind.i64) ?_), rfl⟩
        rw [T.out, S.out]
        simp only [wrap64]
        omega
  · have ha' : x < 4294967296 := by omega
    by_cases hb : 65536 ≤ x
    · by_cases hc : 256 ≤ x / 65536
      · have y0 : (0 : Int) ≤ x / 65536 / 256 := by omega
        have y1 : x / 65536 / 256 ≤ 255 := by omega
        have l := Lib.bitLen_le8' (x / 65536 / 256) y0 y1
        have t := Lib.len8_of (x / 65536 / 256) y0 y1
        have s := Lib.bitLen_shift24 x.toNat (by omega) (by omega)
        rw [show (x / 65536 / 256).toNat = x.toNat / 16777216 from by omega] at l t
        generalize Lib.bitLen (x.toNat / 16777216) = q at *
        have S := Lib.hid s
        have T := Lib.hid t
        clear s t
        go_enter Tryd.func102, Tryd.ntmps102
        go_wp2_with fail
        go_ret
        refine ⟨congrArg Ending.returned (congrArg (Value.int IntKind.i64) ?_), rfl⟩
        rw [T.out, S.out]
        simp only [wrap64]
        omega
      · have hc' : x / 65536 < 256 := by omega
        have y0 : (0 : Int) ≤ x / 65536 := by omega
        have y1 : x / 65536 ≤ 255 := by omega
        have l := Lib.bitLen_le8' (x / 65536) y0 y1
        have t := Lib.len8_of (x / 65536) y0 y1
        have s := Lib.bitLen_shift16 x.toNat (by omega) (by omega)
        rw [show (x / 65536).toNat = x.toNat / 65536 from by omega] at l t
        generalize Lib.bitLen (x.toNat / 65536) = q at *
        have S := Lib.hid s
        have T := Lib.hid t
        clear s t
        go_enter Tryd.func102, Tryd.ntmps102
        go_wp2_with fail
        go_ret
        refine ⟨congrArg Ending.returned (congrArg (Value.int IntKind.i64) ?_), rfl⟩
        rw [T.out, S.out]
        simp only [wrap64]
        omega
    · have hb' : x < 65536 := by omega
      by_cases hc : 256 ≤ x
      · have y0 : (0 : Int) ≤ x / 256 := by omega
        have y1 : x / 256 ≤ 255 := by omega
        have l := Lib.bitLen_le8' (x / 256) y0 y1
        have t := Lib.len8_of (x / 256) y0 y1
        have s := Lib.bitLen_shift8 x.toNat (by omega) (by omega)
        rw [show (x / 256).toNat = x.toNat / 256 from by omega] at l t
        generalize Lib.bitLen (x.toNat / 256) = q at *
        have S := Lib.hid s
        have T := Lib.hid t
        clear s t
        go_enter Tryd.func102, Tryd.ntmps102
        go_wp2_with fail
        go_ret
        refine ⟨congrArg Ending.returned (congrArg (Value.int IntKind.i64) ?_), rfl⟩
        rw [T.out, S.out]
        simp only [wrap64]
        omega
      · have hc' : x < 256 := by omega
        have y0 : (0 : Int) ≤ x := by omega
        have y1 : x ≤ 255 := by omega
        have l := Lib.bitLen_le8' (x) y0 y1
        have t := Lib.len8_of (x) y0 y1
        generalize Lib.bitLen x.toNat = q at *
        have T := Lib.hid t
        clear t
        go_enter Tryd.func102, Tryd.ntmps102
        go_wp2_with fail
        go_ret
        refine ⟨congrArg Ending.returned (congrArg (Value.int IntKind.i64) ?_), rfl⟩
        rw [T.out]
        simp only [wrap64]
        omega
end Go.Proofs.YtipnglidepfkbaaDoor
namespace Go.Proofs.YtipnglidepfkbaaDoor
set_option linter.unusedVariables false
set_option linter.unusedSimpArgs false
open Go.RowKit

attribute [local go_sem ↓] Go.wp_at_zero Go.wp_at_succ


theorem xor_ones (a : Nat) (h : a < 18446744073709551616) : a ^^^ 18446744073709551615 = 18446744073709551615 - a := by
  have h1 : (BitVec.ofNat 64 a ^^^ BitVec.allOnes 64).toNat = (~~~ (BitVec.ofNat 64 a)).toNat := by rw [BitVec.xor_allOnes]
  rw [BitVec.toNat_xor, BitVec.toNat_not, BitVec.toNat_allOnes, BitVec.toNat_ofNat, Nat.mod_eq_of_lt h] at h1
  exact h1
theorem zig_eq {n : Int} (h : -9223372036854775808 ≤ n ∧ n ≤ 9223372036854775807) : bits .xor .u64 (IntKind.u64.wrap (IntKind.u64.wrap n * 2)) (IntKind.u64.wrap (n / 9223372036854775808)) = ((zigN n : Nat) : Int) := by
  unfold zigN
  by_cases h0 : 0 ≤ n
  · obtain ⟨m, rfl⟩ := Int.eq_ofNat_of_zero_le h0
    rw [if_pos h0, show IntKind.u64.wrap (IntKind.u64.wrap (m : Int) * 2) = ((2 * m : Nat) : Int) from by rw [IntKind.wrap_u64, IntKind.wrap_u64]; omega, show IntKind.u64.wrap ((m : Int) / 9223372036854775808) = ((0 : Nat) : Int) from by rw [IntKind.wrap_u64]; omega, bits_xor_u64_nat _ _ (by omega) (by omega), Nat.xor_zero]
    omega
  · obtain ⟨m, hm⟩ := Int.eq_ofNat_of_zero_le (show 0 ≤ -(n + 1) by omega)
    rw [if_neg h0, show IntKind.u64.wrap (IntKind.u64.wrap n * 2) = ((18446744073709551614 - 2 * m : Nat) : Int) from by rw [IntKind.wrap_u64, IntKind.wrap_u64]; omega, show IntKind.u64.wrap (n / 9223372036854775808) = ((18446744073709551615 : Nat) : Int) from by rw [IntKind.wrap_u64]; omega, bits_xor_u64_nat _ _ (by omega) (by omega), xor_ones _ (by omega)]
    omega
theorem Own.far2 {w w' : World} {base : Nat} {e : TypeId} {size : Nat} {A : Option Addr} {n c : Nat} {xs : List Value} {row : Option Nat} (h : Own w base e size A n c xs) (hg : w.grownBy w' row) (hne : ∀ k, (Value.slice A n c).ownBlock = some k → row = some k → False) : Own w' base e size A n c xs := by
  refine ⟨h.1, ?_⟩
  rcases h.2 with hn | ⟨g, cap, cur, hv, hb, hh, rest⟩
  · exact .inl hn
  · refine .inr ⟨g, cap, cur, hv, hb, ?_, rest⟩
    rw [hg.block g (Array.getElem?_eq_some_iff.1 hh).1 (fun e => hne g (by rw [hv]; rfl) e.symm)]
    exact hh
theorem byteN_mod (m : Nat) : byteN (m % 256) = byteN m := by
  apply UInt8.toNat_inj.1
  rw [byteN_toNat, byteN_toNat, Nat.mod_mod]
theorem shr_val (n p : Nat) : (n : Int) / 2 ^ (8 * p) % 256 = ((n / 256 ^ p % 256 : Nat) : Int) := by
  have h : (2 : Int) ^ (8 * p) = ((256 ^ p : Nat) : Int) := by
    rw [show (256 : Nat) = 2 ^ 8 from rfl, ← Nat.pow_mul, Int.natCast_pow]
    rfl
  rw [h]
  rfl
theorem bs_byte {b : List UInt8} {m : Nat} (h : m < 256) : Bs b ++ [.int .u8 (m : Int)] = Bs (b ++ [byteN m]) := by
  show Bs b ++ _ = List.map YtipnglidepfkbaaDoor.B (b ++ [byteN m])
  rw [List.map_append]
  show _ = Bs b ++ [YtipnglidepfkbaaDoor.B (byteN m)]
  unfold YtipnglidepfkbaaDoor.B
  rw [byteN_toNat, Nat.mod_eq_of_lt h]

theorem low_snoc (n t : Nat) : [byteN (n / 256 ^ t % 256)] ++ big n t t = big n (t + 1) (t + 1) := by
  rw [big_cons, byteN_mod]
  rfl
end Go.Proofs.YtipnglidepfkbaaDoor
namespace Go.Proofs.YtipnglidepfkbaaDoor
set_option linter.unusedVariables false
set_option linter.unusedSimpArgs false
open Go.RowKit

attribute [local go_sem ↓] Go.wp_at_zero Go.wp_at_succ

/-- What a value that may be is. -/
theorem right_kinds {v : Va} (h : rightV v = true) : (v = ⟨0, 0, []⟩) ∨ (∃ t : Bool, v = ⟨1, if t then 1 else 0, []⟩) ∨ (∃ n, v = ⟨2, n, []⟩) ∨ (∃ s : List UInt8, v = ⟨3, 0, s⟩ ∧ s.length ≤ 1024) := by
  obtain ⟨k, n, s⟩ := v
  unfold rightV at h
  dsimp only at h
  split at h
  · rename_i hk
    obtain ⟨h1, h2⟩ := of_decide_eq_true h
    exact .inl (by rw [hk, h1, h2])
  · split at h
    · rename_i hk
      obtain ⟨h1, h2⟩ := of_decide_eq_true h
      rcases h1 with h1 | h1
      · exact .inr (.inl ⟨false, by rw [hk, h1, h2]; rfl⟩)
      · exact .inr (.inl ⟨true, by rw [hk, h1, h2]; rfl⟩)
    · split at h
      · rename_i hk
        exact .inr (.inr (.inl ⟨n, by rw [hk, of_decide_eq_true h]⟩))
      · split at h
        · rename_i hk
          obtain ⟨h1, h2⟩ := of_decide_eq_true h
          exact .inr (.inr (.inr ⟨s, by rw [hk, h1], h2⟩))
        · cases h

theorem ta_hit_bool (v : Value) (w : World) : (Instr.typeAssert (.iface 4 v) 20 4 true).run Tryd.prog w = .ok (.tuple #[v, .bool true]) w := by
  simp [Instr.typeAssert, run_underlying Tryd.underlying4, Result.andThen]
theorem ta_hit_int (v : Value) (w : World) : (Instr.typeAssert (.iface 3 v) 20 3 true).run Tryd.prog w = .ok (.tuple #[v, .bool true]) w := by
  simp [Instr.typeAssert, run_underlying Tryd.underlying3, Result.andThen]
theorem ta_hit_str (v : Value) (w : World) : (Instr.typeAssert (.iface 9 v) 20 9 true).run Tryd.prog w = .ok (.tuple #[v, .bool true]) w := by
  simp [Instr.typeAssert, run_underlying Tryd.underlying9, Result.andThen]
theorem ta_one_str (v : Value) (w : World) : (Instr.typeAssert (.iface 9 v) 20 9 false).run Tryd.prog w = .ok v w := by
  simp [Instr.typeAssert, run_underlying Tryd.underlying9, Result.andThen]
theorem ta_miss_bool {t : TypeId} (h : t ≠ 4) (v : Value) (w : World) : (Instr.typeAssert (.iface t v) 20 4 true).run Tryd.prog w = .ok (.tuple #[.bool false, .bool false]) w := by
  have hz : (zeroValue 4).run Tryd.prog w = .ok (.bool false) w := by kernel_rfl
  simp [Instr.typeAssert, run_underlying Tryd.underlying4, Result.andThen, h, hz]
theorem ta_miss_int {t : TypeId} (h : t ≠ 3) (v : Value) (w : World) : (Instr.typeAssert (.iface t v) 20 3 true).run Tryd.prog w = .ok (.tuple #[.int .i64 0, .bool false]) w := by
  have hz : (zeroValue 3).run Tryd.prog w = .ok (.int .i64 0) w := by kernel_rfl
  simp [Instr.typeAssert, run_underlying Tryd.underlying3, Result.andThen, h, hz]

set_option maxHeartbeats 4000000 in
set_option maxRecDepth 100000 in
theorem box_nil (w : World) : Calls Tryd.prog 54 #[.agg #[.int .u8 0, .int .i64 0, .string (St8 [])]] w fun e w' => e = .returned (.nilIface) ∧ Below w.heap.size w w' := by
  have e5 := St8_empty []
  rw [decide_eq_true rfl] at e5
  go_enter Tryd.func54, Tryd.ntmps54
  go_wp2_with fail
  go_ret
  exact ⟨rfl, by go_grown⟩

set_option maxHeartbeats 4000000 in
set_option maxRecDepth 100000 in
theorem unbox_nil (w : World) : Calls Tryd.prog 53 #[.nilIface] w fun e w' => e = .returned (.tuple #[.agg #[.int .u8 0, .int .i64 0, .string ⟨#[]⟩], .bool true]) ∧ Below w.heap.size w w' := by
  have t1 := ta_hit_bool
  have t2 := ta_hit_int
  have t3 := ta_hit_str
  have m1 := ta_miss_bool (t := 3) (by decide)
  have m2 := ta_miss_bool (t := 9) (by decide)
  have m3 := ta_miss_int (t := 9) (by decide)
  go_enter Tryd.func53, Tryd.ntmps53
  go_wp2_with fail
  go_returns
  exact ⟨rfl, by go_grown⟩

set_option maxHeartbeats 4000000 in
set_option maxRecDepth 100000 in
theorem box_no (w : World) : Calls Tryd.prog 54 #[.agg #[.int .u8 1, .int .i64 0, .string (St8 [])]] w fun e w' => e = .returned (.iface 4 (.bool false)) ∧ Below w.heap.size w w' := by
  have e5 := St8_empty []
  rw [decide_eq_true rfl] at e5
  go_enter Tryd.func54, Tryd.ntmps54
  go_wp2_with fail
  go_ret
  exact ⟨rfl, by go_grown⟩

set_option maxHeartbeats 4000000 in
set_option maxRecDepth 100000 in
theorem unbox_no (w : World) : Calls Tryd.prog 53 #[.iface 4 (.bool false)] w fun e w' => e = .returned (.tuple #[.agg #[.int .u8 1, .int .i64 0, .string ⟨#[]⟩], .bool true]) ∧ Below w.heap.size w w' := by
  have t1 := ta_hit_bool
  have t2 := ta_hit_int
  have t3 := ta_hit_str
  have m1 := ta_miss_bool (t := 3) (by decide)
  have m2 := ta_miss_bool (t := 9) (by decide)
  have m3 := ta_miss_int (t := 9) (by decide)
  go_enter Tryd.func53, Tryd.ntmps53
  go_wp2_with fail
  go_returns
  exact ⟨rfl, by go_grown⟩

set_option maxHeartbeats 4000000 in
set_option maxRecDepth 100000 in
theorem box_yes (w : World) : Calls Tryd.prog 54 #[.agg #[.int .u8 1, .int .i64 1, .string (St8 [])]] w fun e w' => e = .returned (.iface 4 (.bool true)) ∧ Below w.heap.size w w' := by
  have e5 := St8_empty []
  rw [decide_eq_true rfl] at e5
  go_enter Tryd.func54, Tryd.ntmps54
  go_wp2_with fail
  go_ret
  exact ⟨rfl, by go_grown⟩

set_option maxHeartbeats 4000000 in
set_option maxRecDepth 100000 in
theorem unbox_yes (w : World) : Calls Tryd.prog 53 #[.iface 4 (.bool true)] w fun e w' => e = .returned (.tuple #[.agg #[.int .u8 1, .int .i64 1, .string ⟨#[]⟩], .bool true]) ∧ Below w.heap.size w w' := by
  have t1 := ta_hit_bool
  have t2 := ta_hit_int
  have t3 := ta_hit_str
  have m1 := ta_miss_bool (t := 3) (by decide)
  have m2 := ta_miss_bool (t := 9) (by decide)
  have m3 := ta_miss_int (t := 9) (by decide)
  go_enter Tryd.func53, Tryd.ntmps53
  go_wp2_with fail
  go_returns
  exact ⟨rfl, by go_grown⟩

set_option maxHeartbeats 4000000 in
set_option maxRecDepth 100000 in
theorem box_int (n : Int) (w : World) : Calls Tryd.prog 54 #[.agg #[.int .u8 2, .int .i64 n, .string (St8 [])]] w fun e w' => e = .returned (.iface 3 (.int .i64 n)) ∧ Below w.heap.size w w' := by
  have e5 := St8_empty []
  rw [decide_eq_true rfl] at e5
  go_enter Tryd.func54, Tryd.ntmps54
  go_wp2_with fail
  go_ret
  exact ⟨rfl, by go_grown⟩

set_option maxHeartbeats 4000000 in
set_option maxRecDepth 100000 in
theorem unbox_int (n : Int) (w : World) : Calls Tryd.prog 53 #[.iface 3 (.int .i64 n)] w fun e w' => e = .returned (.tuple #[.agg #[.int .u8 2, .int .i64 n, .string ⟨#[]⟩], .bool true]) ∧ Below w.heap.size w w' := by
  have t1 := ta_hit_bool
  have t2 := ta_hit_int
  have t3 := ta_hit_str
  have m1 := ta_miss_bool (t := 3) (by decide)
  have m2 := ta_miss_bool (t := 9) (by decide)
  have m3 := ta_miss_int (t := 9) (by decide)
  go_enter Tryd.func53, Tryd.ntmps53
  go_wp2_with fail
  go_returns
  exact ⟨rfl, by go_grown⟩

set_option maxHeartbeats 4000000 in
set_option maxRecDepth 100000 in
theorem box_txt (s : List UInt8) (hl : s.length ≤ 1024) (w : World) : Calls Tryd.prog 54 #[.agg #[.int .u8 3, .int .i64 0, .string (St8 s)]] w fun e w' => e = .returned (.iface 9 (.string (St8 s))) ∧ Below w.heap.size w w' := by
  have e5 := St8_empty []
  rw [decide_eq_true rfl] at e5
  have hsz := St8_size s
  go_enter Tryd.func54, Tryd.ntmps54
  go_wp2_with fail
  go_ret
  exact ⟨rfl, by go_grown⟩

set_option maxHeartbeats 4000000 in
set_option maxRecDepth 100000 in
theorem unbox_txt (s : List UInt8) (hl : s.length ≤ 1024) (w : World) : Calls Tryd.prog 53 #[.iface 9 (.string (St8 s))] w fun e w' => e = .returned (.tuple #[.agg #[.int .u8 3, .int .i64 0, .string (St8 s)], .bool true]) ∧ Below w.heap.size w w' := by
  have hsz := St8_size s
  have t1 := ta_hit_bool
  have t2 := ta_hit_int
  have t3 := ta_hit_str
  have m1 := ta_miss_bool (t := 3) (by decide)
  have m2 := ta_miss_bool (t := 9) (by decide)
  have m3 := ta_miss_int (t := 9) (by decide)
  go_enter Tryd.func53, Tryd.ntmps53
  go_wp2_with fail
  go_returns
  exact ⟨rfl, by go_grown⟩

set_option maxHeartbeats 4000000 in
set_option maxRecDepth 100000 in
theorem cright_nil (w : World) : Calls Tryd.prog 26 #[.agg #[.int .u8 0, .int .i64 0, .string (St8 [])]] w fun e w' => e = .returned (.bool true) ∧ Below w.heap.size w w' := by
  have hS : St8 [] = ⟨#[]⟩ := rfl
  have hbx := Lib.hid (fun w' => box_nil w')
  have hub := Lib.hid (fun w' => unbox_nil w')
  go_enter Tryd.func26, Tryd.ntmps26
  go_wp2_with fail
  refine (hbx.out _).mono ?_
  rintro e w1 ⟨rfl, hb1⟩
  have h01 : Below w.heap.size w w1 := by
    have h0 : Below w.heap.size w (w.alloc (.cells #[.int .u8 0, .int .i64 0, .string (St8 [])] 44)) := by go_grown
    exact h0.trans (hb1.mono h0.size)
  have hk := (Blk.new w 44 #[.int .u8 0, .int .i64 0, .string (St8 [])]).below hb1
  have Hk := Lib.hid hk
  clear hb1 hk
  go_wp2_with fail
  refine (hub.out _).mono ?_
  rintro e w2 ⟨rfl, hb2⟩
  have h02 := h01.trans (hb2.mono h01.size)
  have hk2 := (Hk.out.below hb2).alloc (.cells #[.int .u8 0, .int .i64 0, .string ⟨#[]⟩] 44)
  have k0 := hk2.cell 0
  have k1 := hk2.cell 1
  have k2 := hk2.cell 2
  simp only [List.getElem?_cons_zero, List.getElem?_cons_succ] at k0 k1 k2
  clear hb2 h01 hk2
  go_wp2_with fail
  go_ret
  exact ⟨rfl, h02.alloc (by have := h02.size; omega) _⟩

set_option maxHeartbeats 4000000 in
set_option maxRecDepth 100000 in
theorem cright_no (w : World) : Calls Tryd.prog 26 #[.agg #[.int .u8 1, .int .i64 0, .string (St8 [])]] w fun e w' => e = .returned (.bool true) ∧ Below w.heap.size w w' := by
  have hS : St8 [] = ⟨#[]⟩ := rfl
  have hbx := Lib.hid (fun w' => box_no w')
  have hub := Lib.hid (fun w' => unbox_no w')
  go_enter Tryd.func26, Tryd.ntmps26
  go_wp2_with fail
  refine (hbx.out _).mono ?_
  rintro e w1 ⟨rfl, hb1⟩
  have h01 : Below w.heap.size w w1 := by
    have h0 : Below w.heap.size w (w.alloc (.cells #[.int .u8 1, .int .i64 0, .string (St8 [])] 44)) := by go_grown
    exact h0.trans (hb1.mono h0.size)
  have hk := (Blk.new w 44 #[.int .u8 1, .int .i64 0, .string (St8 [])]).below hb1
  have Hk := Lib.hid hk
  clear hb1 hk
  go_wp2_with fail
  refine (hub.out _).mono ?_
  rintro e w2 ⟨rfl, hb2⟩
  have h02 := h01.trans (hb2.mono h01.size)
  have hk2 := (Hk.out.below hb2).alloc (.cells #[.int .u8 1, .int .i64 0, .string ⟨#[]⟩] 44)
  have k0 := hk2.cell 0
  have k1 := hk2.cell 1
  have k2 := hk2.cell 2
  simp only [List.getElem?_cons_zero, List.getElem?_cons_succ] at k0 k1 k2
  clear hb2 h01 hk2
  go_wp2_with fail
  go_ret
  exact ⟨rfl, h02.alloc (by have := h02.size; omega) _⟩

set_option maxHeartbeats 4000000 in
set_option maxRecDepth 100000 in
theorem cright_yes (w : World) : Calls Tryd.prog 26 #[.agg #[.int .u8 1, .int .i64 1, .string (St8 [])]] w fun e w' => e = .returned (.bool true) ∧ Below w.heap.size w w' := by
  have hS : St8 [] = ⟨#[]⟩ := rfl
  have hbx := Lib.hid (fun w' => box_yes w')
  have hub := Lib.hid (fun w' => unbox_yes w')
  go_enter Tryd.func26, Tryd.ntmps26
  go_wp2_with fail
  refine (hbx.out _).mono ?_
  rintro e w1 ⟨rfl, hb1⟩
  have h01 : Below w.heap.size w w1 := by
    have h0 : Below w.heap.size w (w.alloc (.cells #[.int .u8 1, .int .i64 1, .string (St8 [])] 44)) := by go_grown
    exact h0.trans (hb1.mono h0.size)
  have hk := (Blk.new w 44 #[.int .u8 1, .int .i64 1, .string (St8 [])]).below hb1
  have Hk := Lib.hid hk
  clear hb1 hk
  go_wp2_with fail
  refine (hub.out _).mono ?_
  rintro e w2 ⟨rfl, hb2⟩
  have h02 := h01.trans (hb2.mono h01.size)
  have hk2 := (Hk.out.below hb2).alloc (.cells #[.int .u8 1, .int .i64 1, .string ⟨#[]⟩] 44)
  have k0 := hk2.cell 0
  have k1 := hk2.cell 1
  have k2 := hk2.cell 2
  simp only [List.getElem?_cons_zero, List.getElem?_cons_succ] at k0 k1 k2
  clear hb2 h01 hk2
  go_wp2_with fail
  go_ret
  exact ⟨rfl, h02.alloc (by have := h02.size; omega) _⟩

set_option maxHeartbeats 4000000 in
set_option maxRecDepth 100000 in
theorem cright_int (n : Int) (w : World) : Calls Tryd.prog 26 #[.agg #[.int .u8 2, .int .i64 n, .string (St8 [])]] w fun e w' => e = .returned (.bool true) ∧ Below w.heap.size w w' := by
  have hS : St8 [] = ⟨#[]⟩ := rfl
  have hbx := Lib.hid (fun w' => box_int n w')
  have hub := Lib.hid (fun w' => unbox_int n w')
  go_enter Tryd.func26, Tryd.ntmps26
  go_wp2_with fail
  refine (hbx.out _).mono ?_
  rintro e w1 ⟨rfl, hb1⟩
  have h01 : Below w.heap.size w w1 := by
    have h0 : Below w.heap.size w (w.alloc (.cells #[.int .u8 2, .int .i64 n, .string (St8 [])] 44)) := by go_grown
    exact h0.trans (hb1.mono h0.size)
  have hk := (Blk.new w 44 #[.int .u8 2, .int .i64 n, .string (St8 [])]).below hb1
  have Hk := Lib.hid hk
  clear hb1 hk
  go_wp2_with fail
  refine (hub.out _).mono ?_
  rintro e w2 ⟨rfl, hb2⟩
  have h02 := h01.trans (hb2.mono h01.size)
  have hk2 := (Hk.out.below hb2).alloc (.cells #[.int .u8 2, .int .i64 n, .string ⟨#[]⟩] 44)
  have k0 := hk2.cell 0
  have k1 := hk2.cell 1
  have k2 := hk2.cell 2
  simp only [List.getElem?_cons_zero, List.getElem?_cons_succ] at k0 k1 k2
  clear hb2 h01 hk2
  go_wp2_with fail
  go_ret
  exact ⟨rfl, h02.alloc (by have := h02.size; omega) _⟩

set_option maxHeartbeats 4000000 in
set_option maxRecDepth 100000 in
theorem cright_txt (s : List UInt8) (hl : s.length ≤ 1024) (w : World) : Calls Tryd.prog 26 #[.agg #[.int .u8 3, .int .i64 0, .string (St8 s)]] w fun e w' => e = .returned (.bool true) ∧ Below w.heap.size w w' := by
  have hS : St8 [] = ⟨#[]⟩ := rfl
  have hbx := Lib.hid (fun w' => box_txt s hl w')
  have hub := Lib.hid (fun w' => unbox_txt s hl w')
  go_enter Tryd.func26, Tryd.ntmps26
  go_wp2_with fail
  refine (hbx.out _).mono ?_
  rintro e w1 ⟨rfl, hb1⟩
  have h01 : Below w.heap.size w w1 := by
    have h0 : Below w.heap.size w (w.alloc (.cells #[.int .u8 3, .int .i64 0, .string (St8 s)] 44)) := by go_grown
    exact h0.trans (hb1.mono h0.size)
  have hk := (Blk.new w 44 #[.int .u8 3, .int .i64 0, .string (St8 s)]).below hb1
  have Hk := Lib.hid hk
  clear hb1 hk
  go_wp2_with fail
  refine (hub.out _).mono ?_
  rintro e w2 ⟨rfl, hb2⟩
  have h02 := h01.trans (hb2.mono h01.size)
  have hk2 := (Hk.out.below hb2).alloc (.cells #[.int .u8 3, .int .i64 0, .string (St8 s)] 44)
  have k0 := hk2.cell 0
  have k1 := hk2.cell 1
  have k2 := hk2.cell 2
  simp only [List.getElem?_cons_zero, List.getElem?_cons_succ] at k0 k1 k2
  clear hb2 h01 hk2
  go_wp2_with fail
  go_ret
  exact ⟨rfl, h02.alloc (by have := h02.size; omega) _⟩
end Go.Proofs.YtipnglidepfkbaaDoor
namespace Go.Proofs.YtipnglidepfkbaaDoor
set_option linter.unusedVariables false
set_option linter.unusedSimpArgs false
open Go.RowKit

attribute [local go_sem ↓] Go.wp_at_zero Go.wp_at_succ

set_option maxHeartbeats 4000000 in
set_option maxRecDepth 100000 in
theorem box_bad (v : Va) (h : rightV v = false) (w : World) : Calls Tryd.prog 54 #[v.agg] w fun e w' => e = .returned (.nilIface) ∧ Below w.heap.size w w' := by
  have e1 := St8_nil_cmp v.s
  have e2 := St8_nil_eq v.s
  have e3 := St8_nil_iff v.s
  have e4 := St8_size v.s
  have e5 := St8_empty v.s
  obtain ⟨k, n, s⟩ := v
  unfold Va.agg
  dsimp only at *
  by_cases h1 : k = 1
  · subst h1
    by_cases hs : s = []
    · have hn0 : n ≠ 0 := fun e => by subst e; subst hs; simp [rightV] at h
      have hn1 : n ≠ 1 := fun e => by subst e; subst hs; simp [rightV] at h
      rw [decide_eq_true hs] at e1 e2 e5
      subst hs
      clear e1 e2 e3
      have z0 : (n == 0) = false := beq_eq_false_iff_ne.2 hn0
      have z1 : (n == 1) = false := beq_eq_false_iff_ne.2 hn1
      clear h
      go_enter Tryd.func54, Tryd.ntmps54
      go_wp2_with fail
      go_ret
      exact ⟨rfl, by go_grown⟩
    · rw [decide_eq_false hs] at e1 e2 e5
      have e3 := fun h => hs (e3.1 h)
      clear h
      go_enter Tryd.func54, Tryd.ntmps54
      go_wp2_with fail
      go_ret
      exact ⟨rfl, by go_grown⟩
  · by_cases h2 : k = 2
    · subst h2
      by_cases hs : s = []
      · exfalso; subst hs; simp [rightV] at h
      · rw [decide_eq_false hs] at e1 e2 e5
        have e3 := fun h => hs (e3.1 h)
        clear h
        go_enter Tryd.func54, Tryd.ntmps54
        go_wp2_with fail
        go_ret
        exact ⟨rfl, by go_grown⟩
    · by_cases h3 : k = 3
      · subst h3
        by_cases hn : n = 0
        · have hl : ¬ s.length ≤ 1024 := fun e => by subst hn; simp [rightV, e] at h
          subst hn
          have e6 : decide ((s.length : Int) ≤ 1024) = false := decide_eq_false (by omega)
          clear h
          go_enter Tryd.func54, Tryd.ntmps54
          go_wp2_with fail
          go_ret
          exact ⟨rfl, by go_grown⟩
        · have z0 : (n == 0) = false := beq_eq_false_iff_ne.2 hn
          clear h
          go_enter Tryd.func54, Tryd.ntmps54
          go_wp2_with fail
          go_ret
          exact ⟨rfl, by go_grown⟩
      · have z1 : (k == 1) = false := beq_eq_false_iff_ne.2 h1
        have z2 : (k == 2) = false := beq_eq_false_iff_ne.2 h2
        have z3 : (k == 3) = false := beq_eq_false_iff_ne.2 h3
        clear h
        go_enter Tryd.func54, Tryd.ntmps54
        go_wp2_with fail
        go_ret
        exact ⟨rfl, by go_grown⟩

set_option maxHeartbeats 4000000 in
set_option maxRecDepth 100000 in
theorem cright_bad (v : Va) (h : rightV v = false) (w : World) : Calls Tryd.prog 26 #[v.agg] w fun e w' => e = .returned (.bool false) ∧ Below w.heap.size w w' := by
  have hbx := Lib.hid (fun w' => box_bad v h w')
  have hub := Lib.hid (fun w' => unbox_nil w')
  have e1 := St8_nil_cmp v.s
  have e2 := St8_nil_eq v.s
  have e3 := St8_nil_iff v.s
  have e5 := St8_empty v.s
  obtain ⟨k, n, s⟩ := v
  unfold Va.agg at *
  dsimp only at *
  have hne : ¬ (k = 0 ∧ n = 0 ∧ s = []) := fun ⟨h1, h2, h3⟩ => by subst h1; subst h2; subst h3; simp [rightV] at h
  clear h
  go_enter Tryd.func26, Tryd.ntmps26
  go_wp2_with fail
  refine (hbx.out _).mono ?_
  rintro e w1 ⟨rfl, hb1⟩
  have h01 : Below w.heap.size w w1 := by
    have h0 : Below w.heap.size w (w.alloc (.cells #[.int .u8 k, .int .i64 n, .string (St8 s)] 44)) := by go_grown
    exact h0.trans (hb1.mono h0.size)
  have hk := (Blk.new w 44 #[.int .u8 k, .int .i64 n, .string (St8 s)]).below hb1
  have Hk := Lib.hid hk
  clear hb1 hk
  go_wp2_with fail
  refine (hub.out _).mono ?_
  rintro e w2 ⟨rfl, hb2⟩
  have h02 := h01.trans (hb2.mono h01.size)
  have hk2 := (Hk.out.below hb2).alloc (.cells #[.int .u8 0, .int .i64 0, .string ⟨#[]⟩] 44)
  have k0 := hk2.cell 0
  have k1 := hk2.cell 1
  have k2 := hk2.cell 2
  simp only [List.getElem?_cons_zero, List.getElem?_cons_succ] at k0 k1 k2
  clear hb2 h01 hk2
  by_cases hk : k = 0
  · subst hk
    by_cases hn : n = 0
    · subst hn
      have hs : s ≠ [] := fun e => hne ⟨rfl, rfl, e⟩
      rw [decide_eq_false hs] at e1 e2 e5
      have e3 := fun h => hs (e3.1 h)
      have e4 := fun (h : (⟨#[]⟩ : ByteArray) = St8 s) => e3 h.symm
      clear hne
      go_wp2_with fail
      go_ret
      exact ⟨rfl, h02.alloc (by have := h02.size; omega) _⟩
    · have z0 : (n == 0) = false := beq_eq_false_iff_ne.2 hn
      have z1 : ((0 : Int) == n) = false := beq_eq_false_iff_ne.2 (fun e => hn e.symm)
      clear hne
      go_wp2_with fail
      go_ret
      exact ⟨rfl, h02.alloc (by have := h02.size; omega) _⟩
  · have z0 : (k == 0) = false := beq_eq_false_iff_ne.2 hk
    have z1 : ((0 : Int) == k) = false := beq_eq_false_iff_ne.2 (fun e => hk e.symm)
    clear hne
    go_wp2_with fail
    go_ret
    exact ⟨rfl, h02.alloc (by have := h02.size; omega) _⟩

theorem cright_any (v : Va) (w : World) : Calls Tryd.prog 26 #[v.agg] w fun e w' => e = .returned (.bool (rightV v)) ∧ Below w.heap.size w w' := by
  cases h : rightV v
  · exact cright_bad v h w
  · rcases right_kinds h with rfl | ⟨t, rfl⟩ | ⟨n, rfl⟩ | ⟨s, rfl, hs⟩
    · exact cright_nil w
    · cases t
      · exact cright_no w
      · exact cright_yes w
    · exact cright_int n w
    · exact cright_txt s hs w
end Go.Proofs.YtipnglidepfkbaaDoor
