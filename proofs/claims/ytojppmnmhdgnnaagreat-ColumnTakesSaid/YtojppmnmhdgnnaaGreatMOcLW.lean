/- Numbers and values as bytes: plain data. A walk: how many bits a number has (math/bits.Len64). Walks: numbers as bytes. -/
import Derived.Test.YtojppmnmhdgnnaaGreatMJoMW
import Derived.Lib.BitFns
import Derived.Laws.Bits64
namespace Go.Proofs.YtojppmnmhdgnnaaGreat
set_option linter.unusedVariables false
set_option linter.unusedSimpArgs false
open Go.RowKit

def byteN (m : Nat) : UInt8 := UInt8.ofNat m
theorem byteN_toNat (m : Nat) : (byteN m).toNat = m % 256 := by simp [byteN]
/-- How many bytes a number has. -/
def lenB (n : Nat) : Nat := (Lib.bitLen n + 7) / 8
theorem lenB_zero : lenB 0 = 0 := by decide
theorem bit_small : ∀ n : Fin 256, n.val ≠ 0 → 1 ≤ Lib.bitLen n.val ∧ Lib.bitLen n.val ≤ 8 := by decide +kernel
theorem lenB_small {n : Nat} (h : n < 256) (h0 : n ≠ 0) : lenB n = 1 := by
  have := bit_small ⟨n, h⟩ h0
  unfold lenB
  dsimp only at this
  omega
theorem lenB_step {n : Nat} (h : 256 ≤ n) (hn : n < 18446744073709551616) : lenB n = lenB (n / 256) + 1 := by
  unfold lenB
  rw [Lib.bitLen_shift8 n h hn]
  omega
theorem lenB_next {n : Nat} (h : n ≠ 0) (hn : n < 18446744073709551616) : lenB n = lenB (n / 256) + 1 := by
  by_cases h2 : 256 ≤ n
  · exact lenB_step h2 hn
  · rw [lenB_small (by omega) h, show n / 256 = 0 from by omega, lenB_zero]
theorem lenB_le {n : Nat} (hn : n < 18446744073709551616) : lenB n ≤ 8 := by
  unfold lenB
  have := Lib.bitLen_le n 64 (Nat.le_refl _) hn
  omega
theorem lenB_pos {n : Nat} (h : 248 ≤ n) (hn : n < 18446744073709551616) : 1 ≤ lenB n := by
  rw [lenB_next (by omega) hn]
  omega

/-- The first t of a number's k bytes, the highest first. -/
def big (n k t : Nat) : List UInt8 := (List.range t).map fun i => byteN (n / 256 ^ (k - 1 - i))
theorem big_zero (n k : Nat) : big n k 0 = [] := rfl
theorem big_snoc (n k t : Nat) : big n k (t + 1) = big n k t ++ [byteN (n / 256 ^ (k - 1 - t))] := by
  unfold big
  rw [List.range_succ, List.map_append]
  rfl
theorem big_len (n k t : Nat) : (big n k t).length = t := by simp [big]
theorem big_cons (n t : Nat) : big n (t + 1) (t + 1) = byteN (n / 256 ^ t) :: big n t t := by
  unfold big
  rw [List.range_succ_eq_map, List.map_cons, List.map_map]
  congr 1
  apply List.map_congr_left
  intro i hi
  have := List.mem_range.1 hi
  show byteN (n / 256 ^ (t + 1 - 1 - (i + 1))) = byteN (n / 256 ^ (t - 1 - i))
  rw [show t + 1 - 1 - (i + 1) = t - 1 - i from by omega]
/-- A number's bytes. -/
def numB (n : Nat) : List UInt8 := if n < 248 then [byteN n] else byteN (247 + lenB n) :: big n (lenB n) (lenB n)
theorem numB_len {n : Nat} (hn : n < 18446744073709551616) : (numB n).length ≤ 9 := by
  unfold numB
  split
  · simp
  · have := lenB_le hn
    rw [List.length_cons, big_len]
    omega
/-- A number that may be below nothing, as one that is not. -/
def zigN (n : Int) : Nat := if 0 ≤ n then (2 * n).toNat else (2 * (-(n + 1)) + 1).toNat
theorem zigN_lt {n : Int} (h : -9223372036854775808 ≤ n ∧ n ≤ 9223372036854775807) : zigN n < 18446744073709551616 := by
  unfold zigN
  split <;> omega
/-- A value's bytes. -/
def vput (v : Va) : List UInt8 := byteN v.k.toNat :: (if v.k = 1 ∨ v.k = 2 then numB (zigN v.n) else if v.k = 3 then numB v.s.length ++ v.s else [])
end Go.Proofs.YtojppmnmhdgnnaaGreat
namespace Go.Proofs.YtojppmnmhdgnnaaGreat
set_option linter.unusedVariables false
set_option linter.unusedSimpArgs false
open Go.RowKit

attribute [local go_sem ↓] Go.wp_at_zero Go.wp_at_succ

set_option maxHeartbeats 4000000 in
set_option maxRecDepth 100000 in
theorem len64_any (x : Int) (w : World) (h0 : 0 ≤ x) (h1 : x ≤ 18446744073709551615) :
    Calls Tryz.prog 62 #[.int .u64 x] w fun e w' => e = .returned (.int .i64 (Lib.bitLen x.toNat)) ∧ w' = w := by
  by_cases ha : 4294967296 ≤ x
  · by_cases hb : 65536 ≤ x / 4294967296
    · by_cases hc : 256 ≤ x / 4294967296 / 65536
      · have y0 : (0 : Int) ≤ x / 4294967296 / 65536 / 256 := by omega
        have y1 : x / 4294967296 / 65536 / 256 ≤ 255 := by omega
        have l := Lib.bitLen_le8' (x / 4294967296 / 65536 / 256) y0 y1
        have t := Lib.len8_of (x / 4294967296 / 65536 / 256) y0 y1
        have s := Lib.bitLen_shift56 x.toNat (by omega) (by omega)
        rw [show (x / 4294967296 / 65536 / 256).toNat = x.toNat / 72057594037927936 from by omega] at l t
        generalize Lib.bitLen (x.toNat / 72057594037927936) = q at *
        have S := Lib.hid s
        have T := Lib.hid t
        clear s t
        go_enter Tryz.func62, Tryz.ntmps62
        go_wp2_with fail
        go_ret
        refine ⟨congrArg Ending.returned (congrArg (Value.int IntKind.i64) ?_), rfl⟩
        rw [T.out, S.out]
        simp only [wrap64]
        omega
      · have hc' : x / 4294967296 / 65536 < 256 := by omega
        have y0 : (0 : Int) ≤ x / 4294967296 / 65536 := by omega
        have y1 : x / 4294967296 / 65536 ≤ 255 := by omega
        have l := Lib.bitLen_le8' (x / 4294967296 / 65536) y0 y1
        have t := Lib.len8_of (x / 4294967296 / 65536) y0 y1
        have s := Lib.bitLen_shift48 x.toNat (by omega) (by omega)
        rw [show (x / 4294967296 / 65536).toNat = x.toNat / 281474976710656 from by omega] at l t
        generalize Lib.bitLen (x.toNat / 281474976710656) = q at *
        have S := Lib.hid s
        have T := Lib.hid t
        clear s t
        go_enter Tryz.func62, Tryz.ntmps62
        go_wp2_with fail
        go_ret
        refine ⟨congrArg Ending.returned (congrArg (Value.int IntKind.i64) ?_), rfl⟩
        rw [T.out, S.out]
        simp only [wrap64]
        omega
    · have hb' : x / 4294967296 < 65536 := by omega
      by_cases hc : 256 ≤ x / 4294967296
      · have y0 : (0 : Int) ≤ x / 4294967296 / 256 := by omega
        have y1 : x / 4294967296 / 256 ≤ 255 := by omega
        have l := Lib.bitLen_le8' (x / 4294967296 / 256) y0 y1
        have t := Lib.len8_of (x / 4294967296 / 256) y0 y1
        have s := Lib.bitLen_shift40 x.toNat (by omega) (by omega)
        rw [show (x / 4294967296 / 256).toNat = x.toNat / 1099511627776 from by omega] at l t
        generalize Lib.bitLen (x.toNat / 1099511627776) = q at *
        have S := Lib.hid s
        have T := Lib.hid t
        clear s t
        go_enter Tryz.func62, Tryz.ntmps62
        go_wp2_with fail
        go_ret
        refine ⟨congrArg Ending.returned (congrArg (Value.int IntKind.i64) ?_), rfl⟩
        rw [T.out, S.out]
        simp only [wrap64]
        omega
      · have hc' : x / 4294967296 < 256 := by omega
        have y0 : (0 : Int) ≤ x / 4294967296 := by omega
        have y1 : x / 4294967296 ≤ 255 := by omega
        have l := Lib.bitLen_le8' (x / 4294967296) y0 y1
        have t := Lib.len8_of (x / 4294967296) y0 y1
        have s := Lib.bitLen_shift32 x.toNat (by omega) (by omega)
        rw [show (x / 4294967296).toNat = x.toNat / 4294967296 from by omega] at l t
        generalize Lib.bitLen (x.toNat / 4294967296) = q at *
        have S := Lib.hid s
        have T := Lib.hid t
        clear s t
        go_enter Tryz.func62, Tryz.ntmps62
        go_wp2_with fail
        go_ret
        refine ⟨congrArg Ending.returned (congrArg (Value.int IntKind.i64) ?_), rfl⟩
        rw [T.out, S.out]
        simp only [wrap64]
        omega
  · have ha' : x < 4294967296 := by omega
    by_cases hb : 65536 ≤ x
    · by_cases hc : 256 ≤ x / 65536
      · have y0 : (0 : Int) ≤ x / 65536 / 256 := by omega
        have y1 : x / 65536 / 256 ≤ 255 := by omega
        have l := Lib.bitLen_le8' (x / 65536 / 256) y0 y1
        have t := Lib.len8_of (x / 65536 / 256) y0 y1
        have s := Lib.bitLen_shift24 x.toNat (by omega) (by omega)
        rw [show (x / 65536 / 256).toNat = x.toNat / 16777216 from by omega] at l t
        generalize Lib.bitLen (x.toNat / 16777216) = q at *
        have S := Lib.hid s
        have T := Lib.hid t
        clear s t
        go_enter Tryz.func62, Tryz.ntmps62
        go_wp2_with fail
        go_ret
        refine ⟨congrArg Ending.returned (congrArg (Value.int IntKind.i64) ?_), rfl⟩
        rw [T.out, S.out]
        simp only [wrap64]
        omega
      · have hc' : x / 65536 < 256 := by omega
        have y0 : (0 : Int) ≤ x / 65536 := by omega
        have y1 : x / 65536 ≤ 255 := by omega
        have l := Lib.bitLen_le8' (x / 65536) y0 y1
        have t := Lib.len8_of (x / 65536) y0 y1
        have s := Lib.bitLen_shift16 x.toNat (by omega) (by omega)
        rw [show (x / 65536).toNat = x.toNat / 65536 from by omega] at l t
        generalize Lib.bitLen (x.toNat / 65536) = q at *
        have S := Lib.hid s
        have T := Lib.hid t
        clear s t
        go_enter Tryz.func62, Tryz.ntmps62
        go_wp2_with fail
        go_ret
        refine ⟨congrArg Ending.returned (congrArg (Value.int IntKind.i64) ?_), rfl⟩
        rw [T.out, S.out]
        simp only [wrap64]
        omega
    · have hb' : x < 65536 := by omega
      by_cases hc : 256 ≤ x
      · have y0 : (0 : Int) ≤ x / 256 := by omega
        have y1 : x / 256 ≤ 255 := by omega
        have l := Lib.bitLen_le8' (x / 256) y0 y1
        have t := Lib.len8_of (x / 256) y0 y1
        have s := Lib.bitLen_shift8 x.toNat (by omega) (by omega)
        rw [show (x / 256).toNat = x.toNat / 256 from by omega] at l t
        generalize Lib.bitLen (x.toNat / 256) = q at *
        have S := Lib.hid s
        have T := Lib.hid t
        clear s t
        go_enter Tryz.func62, Tryz.ntmps62
        go_wp2_with fail
        go_ret
        refine ⟨congrArg Ending.returned (congrArg (Value.int IntKind.i64) ?_), rfl⟩
        rw [T.out, S.out]
        simp only [wrap64]
        omega
      · have hc' : x < 256 := by omega
        have y0 : (0 : Int) ≤ x := by omega
        have y1 : x ≤ 255 := by omega
        have l := Lib.bitLen_le8' (x) y0 y1
        have t := Lib.len8_of (x) y0 y1
        generalize Lib.bitLen x.toNat = q at *
        have T := Lib.hid t
        clear t
        go_enter Tryz.func62, Tryz.ntmps62
        go_wp2_with fail
        go_ret
        refine ⟨congrArg Ending.returned (congrArg (Value.int IntKind.i64) ?_), rfl⟩
        rw [T.out]
        simp only [wrap64]
        omega
end Go.Proofs.YtojppmnmhdgnnaaGreat
namespace Go.Proofs.YtojppmnmhdgnnaaGreat
set_option linter.unusedVariables false
set_option linter.unusedSimpArgs false
open Go.RowKit

attribute [local go_sem ↓] Go.wp_at_zero Go.wp_at_succ


theorem zig_ref (n : Int) (w : World) (h : -9223372036854775808 ≤ n ∧ n ≤ 9223372036854775807) :
    Calls Tryz.prog 95 #[.int .i64 n] w fun e w' => e = .returned (.int .u64 (zigN n : Nat)) ∧ w = w' := by
  by_cases h0 : 0 ≤ n
  · have hv : Hid (((zigN n : Nat) : Int) = 2 * n) := by show _ = _; unfold zigN; rw [if_pos h0]; omega
    go_enter Tryz.func95, Tryz.ntmps95
    go_wp2_with fail
    go_ret
    rw [hv.out]
    exact ⟨by simp, rfl⟩
  · have hv : Hid (((zigN n : Nat) : Int) = 2 * (-(n + 1)) + 1) := by show _ = _; unfold zigN; rw [if_neg h0]; omega
    go_enter Tryz.func95, Tryz.ntmps95
    go_wp2_with fail
    go_ret
    rw [hv.out]
    exact ⟨by simp, rfl⟩
theorem xor_ones (a : Nat) (h : a < 18446744073709551616) : a ^^^ 18446744073709551615 = 18446744073709551615 - a := by
  have h1 : (BitVec.ofNat 64 a ^^^ BitVec.allOnes 64).toNat = (~~~ (BitVec.ofNat 64 a)).toNat := by rw [BitVec.xor_allOnes]
  rw [BitVec.toNat_xor, BitVec.toNat_not, BitVec.toNat_allOnes, BitVec.toNat_ofNat, Nat.mod_eq_of_lt h] at h1
  exact h1
theorem zig_eq {n : Int} (h : -9223372036854775808 ≤ n ∧ n ≤ 9223372036854775807) : bits .xor .u64 (IntKind.u64.wrap (IntKind.u64.wrap n * 2)) (IntKind.u64.wrap (n / 9223372036854775808)) = ((zigN n : Nat) : Int) := by
  unfold zigN
  by_cases h0 : 0 ≤ n
  · obtain ⟨m, rfl⟩ := Int.eq_ofNat_of_zero_le h0
    rw [if_pos h0, show IntKind.u64.wrap (IntKind.u64.wrap (m : Int) * 2) = ((2 * m : Nat) : Int) from by rw [IntKind.wrap_u64, IntKind.wrap_u64]; omega, show IntKind.u64.wrap ((m : Int) / 9223372036854775808) = ((0 : Nat) : Int) from by rw [IntKind.wrap_u64]; omega, bits_xor_u64_nat _ _ (by omega) (by omega), Nat.xor_zero]
    omega
  · obtain ⟨m, hm⟩ := Int.eq_ofNat_of_zero_le (show 0 ≤ -(n + 1) by omega)
    rw [if_neg h0, show IntKind.u64.wrap (IntKind.u64.wrap n * 2) = ((18446744073709551614 - 2 * m : Nat) : Int) from by rw [IntKind.wrap_u64, IntKind.wrap_u64]; omega, show IntKind.u64.wrap (n / 9223372036854775808) = ((18446744073709551615 : Nat) : Int) from by rw [IntKind.wrap_u64]; omega, bits_xor_u64_nat _ _ (by omega) (by omega), xor_ones _ (by omega)]
    omega
theorem zig_any (n : Int) (w : World) (h : -9223372036854775808 ≤ n ∧ n ≤ 9223372036854775807) :
    Calls Tryz.prog 94 #[.int .i64 n] w fun e w' => e = .returned (.int .u64 (zigN n : Nat)) ∧ w = w' := by
  have hz := Lib.hid (zig_eq h)
  go_enter Tryz.func94, Tryz.ntmps94
  go_wp2_with fail
  go_ret
  exact ⟨by simp [hz.out], rfl⟩

theorem Own.far2 {w w' : World} {base : Nat} {e : TypeId} {size : Nat} {A : Option Addr} {n c : Nat} {xs : List Value} {row : Option Nat} (h : Own w base e size A n c xs) (hg : w.grownBy w' row) (hne : ∀ k, (Value.slice A n c).ownBlock = some k → row = some k → False) : Own w' base e size A n c xs := by
  refine ⟨h.1, ?_⟩
  rcases h.2 with hn | ⟨g, cap, cur, hv, hb, hh, rest⟩
  · exact .inl hn
  · refine .inr ⟨g, cap, cur, hv, hb, ?_, rest⟩
    rw [hg.block g (Array.getElem?_eq_some_iff.1 hh).1 (fun e => hne g (by rw [hv]; rfl) e.symm)]
    exact hh
theorem byteN_mod (m : Nat) : byteN (m % 256) = byteN m := by
  apply UInt8.toNat_inj.1
  rw [byteN_toNat, byteN_toNat, Nat.mod_mod]
theorem shr_val (n p : Nat) : (n : Int) / 2 ^ (8 * p) % 256 = ((n / 256 ^ p % 256 : Nat) : Int) := by
  have h : (2 : Int) ^ (8 * p) = ((256 ^ p : Nat) : Int) := by
    rw [show (256 : Nat) = 2 ^ 8 from rfl, ← Nat.pow_mul, Int.natCast_pow]
    rfl
  rw [h]
  rfl
theorem bs_byte {b : List UInt8} {m : Nat} (h : m < 256) : Bs b ++ [.int .u8 (m : Int)] = Bs (b ++ [byteN m]) := by
  show Bs b ++ _ = List.map YtojppmnmhdgnnaaGreat.B (b ++ [byteN m])
  rw [List.map_append]
  show _ = Bs b ++ [YtojppmnmhdgnnaaGreat.B (byteN m)]
  unfold YtojppmnmhdgnnaaGreat.B
  rw [byteN_toNat, Nat.mod_eq_of_lt h]

set_option maxHeartbeats 4000000 in
set_option maxRecDepth 100000 in
theorem onum_any (b : List UInt8) (bl bc n : Nat) (A : Option Addr) (w : World) (hb : b.length = bl) (hr : Rd w A (Bs b)) (hbl : bl ≤ 100000000) (hn : n < 18446744073709551616) :
    Calls Tryz.prog 44 #[.slice A bl bc, .int .u64 (n : Int)] w fun e w' => ∃ A' c', e = .returned (.slice A' (bl + (numB n).length) c') ∧ Own w' w.heap.size 5 1 A' (bl + (numB n).length) c' (Bs (b ++ numB n)) ∧ Below w.heap.size w w' := by
  have Hb := Lib.hid hb
  clear hb
  by_cases h248 : n < 248
  · have hv : numB n = [byteN n] := by unfold numB; rw [if_pos h248]
    have hvl : (numB n).length = 1 := by rw [hv]; rfl
    rw [hvl, hv]
    clear hv hvl
    have hw : IntKind.u8.wrap (n : Int) = (n : Int) := by rw [IntKind.wrap_u8]; omega
    have hmod : (n : Int) % 256 = (n : Int) := by omega
    go_enter Tryz.func44, Tryz.ntmps44
    go_wp2_with (first | (at_builtin; refine hold ?_) | (at_make; refine hold ?_))
    (with_reducible refine unhold ?_)
    refine wpList_mk0 rfl _ _ _ rfl E8 w.heap.size _ _ _ (bl + 9) rfl rfl (by omega) (by omega) (by unfold maxLen; omega) (Nat.le_refl _) ?_
    intro w1 ho1 hb1 hlt1
    go_wp2_with (first | (at_builtin; refine hold ?_) | (at_make; refine hold ?_))
    (with_reducible refine unhold ?_)
    refine wpList_apd rfl _ _ _ rfl E8 w.heap.size _ 0 _ [] rfl ho1 _ bl _ (Bs b) rfl (by rw [List.length_map, Hb.out, Nat.mul_one]) (hr.below hb1) (Bs_one b) bl (Nat.zero_add _) (Bs b) rfl (by omega) (by omega) hb1.size ?_
    intro A2 c2 w2 ho2 hg2 _
    have hb2 : Below w.heap.size w w2 := hb1.grown hg2 hb1.size ho1.row_ge
    clear ho1 hg2 hb1 hr
    have hbA3 : Below w2.heap.size w2 (w2.alloc (.cells #[.int .u8 (n : Int)] 5)) := (Below.refl _ _).alloc (Nat.le_refl _) _
    have hnew3 := (Blk.new w2 5 #[.int .u8 (n : Int)]).range
    have hoA3 := Own.below ho2 hbA3
    have hbB3 := hb2.trans (hbA3.mono hb2.size)
    clear ho2 hbA3 hb2
    go_wp2_with (first | (at_builtin; refine hold ?_) | (at_make; refine hold ?_))
    (with_reducible refine unhold ?_)
    refine wpList_apd rfl _ _ _ rfl E8 w.heap.size _ (bl) _ (Bs (b)) rfl hoA3 _ 1 _ [.int .u8 (n : Int)] rfl rfl (fun _ => ⟨_, _, rfl, hnew3⟩) (by simp [Value.oneCell']) (bl + 1) (by omega) (Bs ((b) ++ [byteN (n)])) (bs_byte (by omega)) (by omega) (by omega) hbB3.size ?_
    intro A3 c3 w3 ho3 hg3 _
    have hb3 : Below w.heap.size w w3 := hbB3.grown hg3 hbB3.size hoA3.row_ge
    clear hoA3 hg3 hbB3 hnew3
    go_wp2_with fail
    go_ret
    exact ⟨_, _, rfl, ho3, hb3⟩
  · obtain ⟨K, hK⟩ : ∃ K, K = lenB n := ⟨_, rfl⟩
    have hK8 := lenB_le hn
    have hK1 := lenB_pos (by omega) hn
    rw [← hK] at hK8 hK1
    have hv : numB n = byteN (247 + K) :: big n K K := by unfold numB; rw [if_neg h248, ← hK]
    have hvl : (numB n).length = 1 + K := by rw [hv, List.length_cons, big_len]; omega
    rw [hvl, hv]
    have hq : ((Lib.bitLen n : Int) + 7) / 8 = (K : Int) := by rw [hK]; unfold lenB; omega
    have hbl64 := Lib.bitLen_le n 64 (Nat.le_refl _) hn
    have hKe := Lib.hid hK
    clear hv hvl hK
    have h248' : ¬ (n : Int) < 248 := by omega
    generalize hBL : Lib.bitLen n = BL at *
    have HBL := Lib.hid hBL
    clear hBL
    go_enter Tryz.func44, Tryz.ntmps44
    go_wp2_with (first | (at_builtin; refine hold ?_) | (at_make; refine hold ?_))
    (with_reducible refine unhold ?_)
    refine wpList_mk0 rfl _ _ _ rfl E8 w.heap.size _ _ _ (bl + 9) rfl rfl (by omega) (by omega) (by unfold maxLen; omega) (Nat.le_refl _) ?_
    intro w1 ho1 hb1 hlt1
    go_wp2_with (first | (at_builtin; refine hold ?_) | (at_make; refine hold ?_))
    (with_reducible refine unhold ?_)
    refine wpList_apd rfl _ _ _ rfl E8 w.heap.size _ 0 _ [] rfl ho1 _ bl _ (Bs b) rfl (by rw [List.length_map, Hb.out, Nat.mul_one]) (hr.below hb1) (Bs_one b) bl (Nat.zero_add _) (Bs b) rfl (by omega) (by omega) hb1.size ?_
    intro A2 c2 w2 ho2 hg2 _
    have hb2 : Below w.heap.size w w2 := hb1.grown hg2 hb1.size ho1.row_ge
    clear ho1 hg2 hb1 hr
    go_wp2_with fail
    refine (len64_any (n : Int) w2 (by omega) (by omega)).mono ?_
    rw [Int.toNat_natCast, HBL.out]
    rintro e w2' ⟨rfl, rfl⟩
    have hbA3 : Below w2'.heap.size w2' (w2'.alloc (.cells #[.int .u8 ((247 + K : Nat) : Int)] 5)) := (Below.refl _ _).alloc (Nat.le_refl _) _
    have hnew3 := (Blk.new w2' 5 #[.int .u8 ((247 + K : Nat) : Int)]).range
    have hoA3 := Own.below ho2 hbA3
    have hbB3 := hb2.trans (hbA3.mono hb2.size)
    clear ho2 hbA3 hb2
    go_wp2_with (first | (at_builtin; refine hold ?_) | (at_make; refine hold ?_))
    (with_reducible refine unhold ?_)
    refine wpList_apd rfl _ _ _ rfl E8 w.heap.size _ (bl) _ (Bs (b)) rfl hoA3 _ 1 _ [.int .u8 ((247 + K : Nat) : Int)] rfl rfl (fun _ => ⟨_, _, rfl, hnew3⟩) (by simp [Value.oneCell']) (bl + 1) (by omega) (Bs ((b) ++ [byteN (247 + K)])) (bs_byte (by omega)) (by omega) (by omega) hbB3.size ?_
    intro A3 c3 w3 ho3 hg3 _
    have hb3 : Below w.heap.size w w3 := hbB3.grown hg3 hbB3.size hoA3.row_ge
    clear hoA3 hg3 hbB3 hnew3
    go_wp2_with fail
    go_loopw [5, 6] (fun s i wr => ∃ (t : Nat) (A' : Option Addr) (c' : Nat), t ≤ K ∧ i = .int .i64 ((K : Int) - 1 - t) ∧ s = .slice A' (bl + 1 + t) c' ∧ Own wr w.heap.size 5 1 A' (bl + 1 + t) c' (Bs (b ++ byteN (247 + K) :: big n K t)) ∧ Below w.heap.size w wr) (fun _ i _ => (intOf i + 1).toNat)
    case atStart => exact ⟨0, A3, c3, by omega, by go_num, rfl, by rw [big_zero]; exact ho3, hb3⟩
    case round =>
      clear ho3 hb3
      obtain ⟨t, A', c', ht, rfl, rfl, ho, hbr⟩ := hrel
      by_cases hlt : t < K
      · obtain ⟨p, hp⟩ : ∃ p, p = K - 1 - t := ⟨_, rfl⟩
        have hpi : (K : Int) - 1 - (t : Int) = (p : Int) := by omega
        have hp8 : p ≤ 7 := by omega
        have Hp := Lib.hid hp
        rw [hpi]
        clear hp
        obtain ⟨m, hm⟩ : ∃ m, m = n / 256 ^ p % 256 := ⟨_, rfl⟩
        have hm256 : m < 256 := by rw [hm]; exact Nat.mod_lt _ (by omega)
        have hval : (n : Int) / 2 ^ (8 * p) % 256 = (m : Int) := by rw [hm]; exact shr_val n p
        have hls : Hid ((b ++ byteN (247 + K) :: big n K t) ++ [byteN m] = b ++ byteN (247 + K) :: big n K (t + 1)) := by
          show _ = _
          rw [big_snoc, ← Hp.out, hm, byteN_mod]
          simp
        clear hm
        have hbA4 : Below wr.heap.size wr (wr.alloc (.cells #[.int .u8 (m : Int)] 5)) := (Below.refl _ _).alloc (Nat.le_refl _) _
        have hnew4 := (Blk.new wr 5 #[.int .u8 (m : Int)]).range
        have hoA4 := Own.below ho hbA4
        have hbB4 := hbr.trans (hbA4.mono hbr.size)
        clear ho hbA4 hbr
        go_wp2_with (first | (at_builtin; refine hold ?_) | (at_make; refine hold ?_))
        (with_reducible refine unhold ?_)
        refine wpList_apd rfl _ _ _ rfl E8 w.heap.size _ (bl + 1 + t) _ (Bs (b ++ byteN (247 + K) :: big n K t)) rfl hoA4 _ 1 _ [.int .u8 (m : Int)] rfl rfl (fun _ => ⟨_, _, rfl, hnew4⟩) (by simp [Value.oneCell']) (bl + 1 + (t + 1)) (by omega) (Bs (b ++ byteN (247 + K) :: big n K (t + 1))) (by rw [← hls.out]; exact bs_byte hm256) (by omega) (by omega) hbB4.size ?_
        intro A4 c4 w4 ho4 hg4 _
        have hb4 : Below w.heap.size w w4 := hbB4.grown hg4 hbB4.size hoA4.row_ge
        clear hoA4 hg4 hbB4 hnew4
        go_wp2_with fail
        go_roundw
        case rel => exact ⟨t + 1, A4, c4, by omega, by go_num, rfl, ho4, hb4⟩
        case measure => first | (simp [intOf]; done) | (simp [intOf]; omega)
      · obtain rfl : t = K := by omega
        have hneg : (t : Int) - 1 - (t : Int) = -1 := by omega
        rw [hneg]
        go_wp2_with fail
        go_ret
        rw [show bl + (1 + t) = bl + 1 + t from by omega]
        exact ⟨_, _, rfl, ho, hbr⟩


theorem low_snoc (n t : Nat) : [byteN (n / 256 ^ t % 256)] ++ big n t t = big n (t + 1) (t + 1) := by
  rw [big_cons, byteN_mod]
  rfl
set_option maxHeartbeats 4000000 in
set_option maxRecDepth 100000 in
theorem rnum_any (b : List UInt8) (bl bc n : Nat) (A : Option Addr) (w : World) (hb : b.length = bl) (hr : Rd w A (Bs b)) (hbl : bl ≤ 100000000) (hn : n < 18446744073709551616) :
    Calls Tryz.prog 46 #[.slice A bl bc, .int .u64 (n : Int)] w fun e w' => ∃ A' c', e = .returned (.slice A' (bl + (numB n).length) c') ∧ Own w' w.heap.size 5 1 A' (bl + (numB n).length) c' (Bs (b ++ numB n)) ∧ Below w.heap.size w w' := by
  have Hb := Lib.hid hb
  clear hb
  have ho1 : Own (w.alloc (.cells #[] 5)) w.heap.size 5 1 (some ⟨w.heap.size, 0, none⟩) 0 0 [] := World.ownsRow_made w #[] 0 (Nat.le_refl _) (by unfold maxLen; omega) rfl
  have hb1 : Below w.heap.size w (w.alloc (.cells #[] 5)) := (Below.refl _ _).alloc (Nat.le_refl _) _
  by_cases h248 : n < 248
  · have hv : numB n = [byteN n] := by unfold numB; rw [if_pos h248]
    have hvl : (numB n).length = 1 := by rw [hv]; rfl
    rw [hvl, hv]
    clear hv hvl
    have hw : IntKind.u8.wrap (n : Int) = (n : Int) := by rw [IntKind.wrap_u8]; omega
    have hmod : (n : Int) % 256 = (n : Int) := by omega
    go_enter Tryz.func46, Tryz.ntmps46
    go_wp2_with (first | (at_builtin; refine hold ?_) | (at_make; refine hold ?_))
    (with_reducible refine unhold ?_)
    refine wpList_apd rfl _ _ _ rfl E8 w.heap.size _ 0 _ [] rfl ho1 _ bl _ (Bs b) rfl (by rw [List.length_map, Hb.out, Nat.mul_one]) (hr.below hb1) (Bs_one b) bl (Nat.zero_add _) (Bs b) rfl (by omega) (by omega) hb1.size ?_
    intro A2 c2 w2 ho2 hg2 _
    have hb2 : Below w.heap.size w w2 := hb1.grown hg2 hb1.size ho1.row_ge
    clear ho1 hg2 hb1 hr
    have hbA3 : Below w2.heap.size w2 (w2.alloc (.cells #[.int .u8 (n : Int)] 5)) := (Below.refl _ _).alloc (Nat.le_refl _) _
    have hnew3 := (Blk.new w2 5 #[.int .u8 (n : Int)]).range
    have hoA3 := Own.below ho2 hbA3
    have hbB3 := hb2.trans (hbA3.mono hb2.size)
    clear ho2 hbA3 hb2
    go_wp2_with (first | (at_builtin; refine hold ?_) | (at_make; refine hold ?_))
    (with_reducible refine unhold ?_)
    refine wpList_apd rfl _ _ _ rfl E8 w.heap.size _ (bl) _ (Bs (b)) rfl hoA3 _ 1 _ [.int .u8 (n : Int)] rfl rfl (fun _ => ⟨_, _, rfl, hnew3⟩) (by simp [Value.oneCell']) (bl + 1) (by omega) (Bs ((b) ++ [byteN (n)])) (bs_byte (by omega)) (by omega) (by omega) hbB3.size ?_
    intro A3 c3 w3 ho3 hg3 _
    have hb3 : Below w.heap.size w w3 := hbB3.grown hg3 hbB3.size hoA3.row_ge
    clear hoA3 hg3 hbB3 hnew3
    go_wp2_with fail
    go_ret
    exact ⟨_, _, rfl, ho3, hb3⟩
  · have h248' : ¬ (n : Int) < 248 := by omega
    obtain ⟨K, hK⟩ : ∃ K, K = lenB n := ⟨_, rfl⟩
    have hK8 := lenB_le hn
    rw [← hK] at hK8
    have hv : numB n = byteN (247 + K) :: big n K K := by unfold numB; rw [if_neg h248, ← hK]
    have hvl : (numB n).length = 1 + K := by rw [hv, List.length_cons, big_len]; omega
    rw [hvl, hv]
    have HK := Lib.hid hK
    clear hv hvl hK
    go_enter Tryz.func46, Tryz.ntmps46
    go_wp2_with (first | (at_builtin; refine hold ?_) | (at_make; refine hold ?_))
    (with_reducible refine unhold ?_)
    refine wpList_apd rfl _ _ _ rfl E8 w.heap.size _ 0 _ [] rfl ho1 _ bl _ (Bs b) rfl (by rw [List.length_map, Hb.out, Nat.mul_one]) (hr.below hb1) (Bs_one b) bl (Nat.zero_add _) (Bs b) rfl (by omega) (by omega) hb1.size ?_
    intro A2 c2 w2 ho2 hg2 _
    have hb2 : Below w.heap.size w w2 := hb1.grown hg2 hb1.size ho1.row_ge
    clear ho1 hg2 hb1 hr
    have hA2lt : Hid (∀ k, (Value.slice A2 bl c2).ownBlock = some k → k < w2.heap.size) := fun k hk => (ho2.lt k hk).2
    go_wp2_with fail
    go_loopw [1, 6] (fun v s wr => ∃ (t m : Nat) (A' : Option Addr) (c' : Nat), v = .int .u64 (m : Int) ∧ s = .slice A' t c' ∧ m < 18446744073709551616 ∧ t ≤ K ∧ Hid (m = n / 256 ^ t ∧ K = t + lenB m) ∧ w2.heap.size ≤ wr.heap.size ∧ Own wr w2.heap.size 5 1 A' t c' (Bs (big n t t)) ∧ Own wr w.heap.size 5 1 A2 bl c2 (Bs b) ∧ Below w.heap.size w wr) (fun v _ _ => (intOf v).toNat)
    case atStart => exact ⟨0, n, none, 0, rfl, rfl, hn, by omega, ⟨by simp, by rw [HK.out]; omega⟩, Nat.le_refl _, Own.nil _ _ _ _, ho2, hb2⟩
    case round =>
      clear ho2 hb2
      obtain ⟨t, m, A', c', rfl, rfl, hm64, htK, hrelm, hsz2, ho, hob, hbr⟩ := hrel
      have hszr := hbr.size
      by_cases hm0 : 0 < m
      · obtain ⟨d, hd⟩ : ∃ d, d = m % 256 := ⟨_, rfl⟩
        obtain ⟨m', hm'⟩ : ∃ m', m' = m / 256 := ⟨_, rfl⟩
        have hd256 : d < 256 := by omega
        have hval : (m : Int) % 256 = (d : Int) := by omega
        have hdiv : (m : Int) / 256 = (m' : Int) := by omega
        have hmI : (0 : Int) < (m : Int) := by omega
        have hmlt : m' < m := by omega
        have hwd : IntKind.u8.wrap (d : Int) = (d : Int) := by rw [IntKind.wrap_u8]; omega
        have hls : Hid ([byteN d] ++ big n t t = big n (t + 1) (t + 1)) := by
          show _ = _
          rw [hd, hrelm.out.1]
          exact low_snoc n t
        have hrelm' : Hid (m' = n / 256 ^ (t + 1) ∧ K = t + 1 + lenB m') := by
          refine ⟨?_, ?_⟩
          · rw [hm', hrelm.out.1, Nat.div_div_eq_div_mul, Nat.pow_succ]
          · have := hrelm.out.2
            rw [lenB_next (by omega) hm64, ← hm'] at this
            omega
        have htK' : t + 1 ≤ K := by have := hrelm'.out.2; omega
        have hoL : Own (wr.alloc (.cells #[.int .u8 (d : Int)] 5)) wr.heap.size 5 1 (some ⟨wr.heap.size, 0, none⟩) 1 1 [.int .u8 (d : Int)] := World.ownsRow_lit wr #[.int .u8 (d : Int)] 1 (Nat.le_refl _) (by unfold maxLen; omega) rfl
        have hbA : Below wr.heap.size wr (wr.alloc (.cells #[.int .u8 (d : Int)] 5)) := (Below.refl _ _).alloc (Nat.le_refl _) _
        have hlist := bs_byte (b := []) hd256
        clear hd hm' hrelm
        go_wp2_with (first | (at_builtin; refine hold ?_) | (at_make; refine hold ?_))
        (with_reducible refine unhold ?_)
        refine wpList_apd rfl _ _ _ rfl E8 wr.heap.size _ 1 _ [.int .u8 (d : Int)] rfl hoL _ t _ (Bs (big n t t)) rfl (by rw [List.length_map, big_len, Nat.mul_one]) (ho.rd.below hbA) (Bs_one _) (t + 1) (Nat.add_comm ..) (Bs (big n (t + 1) (t + 1))) (by rw [← hls.out]; show _ = List.map YtojppmnmhdgnnaaGreat.B _; rw [List.map_append]; exact congrArg (· ++ _) hlist) (by omega) (by omega) hbA.size ?_
        intro A4 c4 w4 ho4 hg4 _
        have hb4 : Below wr.heap.size wr w4 := hbA.grown hg4 hbA.size hoL.row_ge
        have hob4 := Own.below hob hb4
        have hbr4 := hbr.trans (hb4.mono hszr)
        have ho4' := Own.base ho4 hsz2
        have hsz4 := Nat.le_trans hsz2 hb4.size
        clear ho4 hoL hbA hlist hg4 hb4 ho hob hbr
        go_wp2_with fail
        go_roundw
        case rel => exact ⟨t + 1, m', A4, c4, rfl, by go_num, by omega, htK', hrelm', hsz4, ho4', hob4, hbr4⟩
        case measure => simp [intOf]; omega
      · have hm00 : m = 0 := by omega
        subst hm00
        have htk : t = K := by have := hrelm.out.2; rw [lenB_zero] at this; omega
        subst htk
        have hv : (247 : Int) + (t : Int) = ((247 + t : Nat) : Int) := by omega
        have hwv : IntKind.u8.wrap ((247 + t : Nat) : Int) = ((247 + t : Nat) : Int) := by rw [IntKind.wrap_u8]; omega
        generalize hV : 247 + t = V at *
        have hV256 : V < 256 := by omega
        have HV := Lib.hid hV
        clear hV
        have hol := Lib.hid ho
        have hbA3 : Below wr.heap.size wr (wr.alloc (.cells #[.int .u8 (V : Int)] 5)) := (Below.refl _ _).alloc (Nat.le_refl _) _
        have hnew3 := (Blk.new wr 5 #[.int .u8 (V : Int)]).range
        have holA := Own.below hol.out hbA3
        have hoA3 := Own.below hob hbA3
        have hbB3 := hbr.trans (hbA3.mono hbr.size)
        clear hob hbA3 hbr
        go_wp2_with (first | (at_builtin; refine hold ?_) | (at_make; refine hold ?_))
        (with_reducible refine unhold ?_)
        refine wpList_apd rfl _ _ _ rfl E8 w.heap.size _ (bl) _ (Bs (b)) rfl hoA3 _ 1 _ [.int .u8 (V : Int)] rfl rfl (fun _ => ⟨_, _, rfl, hnew3⟩) (by simp [Value.oneCell']) (bl + 1) (by omega) (Bs ((b) ++ [byteN (V)])) (bs_byte hV256) (by omega) (by omega) hbB3.size ?_
        intro A3 c3 w3 ho3 hg3 _
        have hb3 : Below w.heap.size w w3 := hbB3.grown hg3 hbB3.size hoA3.row_ge
        have hol3 := Own.far2 holA hg3 (fun k hk e => by have h1 := (holA.lt k hk).1; have h2 := hA2lt.out k e; omega)
        clear holA hoA3 hg3 hbB3 hnew3
        have hsz3 := hb3.size
        go_wp2_with (first | (at_builtin; refine hold ?_) | (at_make; refine hold ?_))
        (with_reducible refine unhold ?_)
        refine wpList_apd rfl _ _ _ rfl E8 w.heap.size _ (bl + 1) _ (Bs (b ++ [byteN V])) rfl ho3 _ t _ (Bs (big n t t)) rfl (by rw [List.length_map, big_len, Nat.mul_one]) hol3.rd (Bs_one _) (bl + (1 + t)) (by omega) (Bs (b ++ byteN V :: big n t t)) (by show _ = List.map YtojppmnmhdgnnaaGreat.B _; rw [← List.map_append]; simp) (by omega) (by omega) hsz3 ?_
        intro A5 c5 w5 ho5 hg5 _
        have hb5 : Below w.heap.size w w5 := hb3.grown hg5 hsz3 ho3.row_ge
        go_wp2_with fail
        go_ret
        refine ⟨_, _, rfl, ?_, hb5⟩
        rw [HV.out]
        exact ho5
end Go.Proofs.YtojppmnmhdgnnaaGreat
