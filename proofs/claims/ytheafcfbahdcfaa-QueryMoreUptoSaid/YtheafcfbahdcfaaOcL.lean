/- A walk: how many bits a number has (math/bits.Len64). -/
import Derived.Test.YtheafcfbahdcfaaJoY
import Derived.Lib.BitFns
namespace Go.Proofs.Ytheafcfbahdcfaa
open Go.RowKit

attribute [local go_sem ↓] Go.wp_at_zero Go.wp_at_succ

set_option maxHeartbeats 4000000 in
set_option maxRecDepth 100000 in
theorem len64_any (x : Int) (w : World) (h0 : 0 ≤ x) (h1 : x ≤ 18446744073709551615) :
    Calls Try.prog 57 #[.int .u64 x] w fun e w' => e = .returned (.int .i64 (Lib.bitLen x.toNat)) ∧ w' = w := by
  by_cases ha : 4294967296 ≤ x
  · by_cases hb : 65536 ≤ x / 4294967296
    · by_cases hc : 256 ≤ x / 4294967296 / 65536
      · have y0 : (0 : Int) ≤ x / 4294967296 / 65536 / 256 := by omega
        have y1 : x / 4294967296 / 65536 / 256 ≤ 255 := by omega
        have l := Lib.bitLen_le8' (x / 4294967296 / 65536 / 256) y0 y1
        have t := Lib.len8_of (x / 4294967296 / 65536 / 256) y0 y1
        have s := Lib.bitLen_shift56 x.toNat (by omega) (by omega)
        rw [show (x / 4294967296 / 65536 / 256).toNat = x.toNat / 72057594037927936 from by omega] at l t
        generalize Lib.bitLen (x.toNat / 72057594037927936) = q at *
        have S := Lib.hid s
        have T := Lib.hid t
        clear s t
        go_enter Try.func57, Try.ntmps57
        go_wp2_with fail
        go_ret
        refine ⟨congrArg Ending.returned (congrArg (Value.int IntKind.i64) ?_), rfl⟩
        rw [T.out, S.out]
        simp only [wrap64]
        omega
      · have hc' : x / 4294967296 / 65536 < 256 := by omega
        have y0 : (0 : Int) ≤ x / 4294967296 / 65536 := by omega
        have y1 : x / 4294967296 / 65536 ≤ 255 := by omega
        have l := Lib.bitLen_le8' (x / 4294967296 / 65536) y0 y1
        have t := Lib.len8_of (x / 4294967296 / 65536) y0 y1
        have s := Lib.bitLen_shift48 x.toNat (by omega) (by omega)
        rw [show (x / 4294967296 / 65536).toNat = x.toNat / 281474976710656 from by omega] at l t
        generalize Lib.bitLen (x.toNat / 281474976710656) = q at *
        have S := Lib.hid s
        have T := Lib.hid t
        clear s t
        go_enter Try.func57, Try.ntmps57
        go_wp2_with fail
        go_ret
        refine ⟨congrArg Ending.returned (congrArg (Value.int IntKind.i64) ?_), rfl⟩
        rw [T.out, S.out]
        simp only [wrap64]
        omega
    · have hb' : x / 4294967296 < 65536 := by omega
      by_cases hc : 256 ≤ x / 4294967296
      · have y0 : (0 : Int) ≤ x / 4294967296 / 256 := by omega
        have y1 : x / 4294967296 / 256 ≤ 255 := by omega
        have l := Lib.bitLen_le8' (x / 4294967296 / 256) y0 y1
        have t := Lib.len8_of (x / 4294967296 / 256) y0 y1
        have s := Lib.bitLen_shift40 x.toNat (by omega) (by omega)
        rw [show (x / 4294967296 / 256).toNat = x.toNat / 1099511627776 from by omega] at l t
        generalize Lib.bitLen (x.toNat / 1099511627776) = q at *
        have S := Lib.hid s
        have T := Lib.hid t
        clear s t
        go_enter Try.func57, Try.ntmps57
        go_wp2_with fail
        go_ret
        refine ⟨congrArg Ending.returned (congrArg (Value.int IntKind.i64) ?_), rfl⟩
        rw [T.out, S.out]
        simp only [wrap64]
        omega
      · have hc' : x / 4294967296 < 256 := by omega
        have y0 : (0 : Int) ≤ x / 4294967296 := by omega
        have y1 : x / 4294967296 ≤ 255 := by omega
        have l := Lib.bitLen_le8' (x / 4294967296) y0 y1
        have t := Lib.len8_of (x / 4294967296) y0 y1
        have s := Lib.bitLen_shift32 x.toNat (by omega) (by omega)
        rw [show (x / 4294967296).toNat = x.toNat / 4294967296 from by omega] at l t
        generalize Lib.bitLen (x.toNat / 4294967296) = q at *
        have S := Lib.hid s
        have T := Lib.hid t
        clear s t
        go_enter Try.func57, Try.ntmps57
        go_wp2_with fail
        go_ret
        refine ⟨congrArg Ending.returned (congrArg (Value.int IntKind.i64) ?_), rfl⟩
        rw [T.out, S.out]
        simp only [wrap64]
        omega
  · have ha' : x < 4294967296 := by omega
    by_cases hb : 65536 ≤ x
    · by_cases hc : 256 ≤ x / 65536
      · have y0 : (0 : Int) ≤ x / 65536 / 256 := by omega
        have y1 : x / 65536 / 256 ≤ 255 := by omega
        have l := Lib.bitLen_le8' (x / 65536 / 256) y0 y1
        have t := Lib.len8_of (x / 65536 / 256) y0 y1
        have s := Lib.bitLen_shift24 x.toNat (by omega) (by omega)
        rw [show (x / 65536 / 256).toNat = x.toNat / 16777216 from by omega] at l t
        generalize Lib.bitLen (x.toNat / 16777216) = q at *
        have S := Lib.hid s
        have T := Lib.hid t
        clear s t
        go_enter Try.func57, Try.ntmps57
        go_wp2_with fail
        go_ret
        refine ⟨congrArg Ending.returned (congrArg (Value.int IntKind.i64) ?_), rfl⟩
        rw [T.out, S.out]
        simp only [wrap64]
        omega
      · have hc' : x / 65536 < 256 := by omega
        have y0 : (0 : Int) ≤ x / 65536 := by omega
        have y1 : x / 65536 ≤ 255 := by omega
        have l := Lib.bitLen_le8' (x / 65536) y0 y1
        have t := Lib.len8_of (x / 65536) y0 y1
        have s := Lib.bitLen_shift16 x.toNat (by omega) (by omega)
        rw [show (x / 65536).toNat = x.toNat / 65536 from by omega] at l t
        generalize Lib.bitLen (x.toNat / 65536) = q at *
        have S := Lib.hid s
        have T := Lib.hid t
        clear s t
        go_enter Try.func57, Try.ntmps57
        go_wp2_with fail
        go_ret
        refine ⟨congrArg Ending.returned (congrArg (Value.int IntKind.i64) ?_), rfl⟩
        rw [T.out, S.out]
        simp only [wrap64]
        omega
    · have hb' : x < 65536 := by omega
      by_cases hc : 256 ≤ x
      · have y0 : (0 : Int) ≤ x / 256 := by omega
        have y1 : x / 256 ≤ 255 := by omega
        have l := Lib.bitLen_le8' (x / 256) y0 y1
        have t := Lib.len8_of (x / 256) y0 y1
        have s := Lib.bitLen_shift8 x.toNat (by omega) (by omega)
        rw [show (x / 256).toNat = x.toNat / 256 from by omega] at l t
        generalize Lib.bitLen (x.toNat / 256) = q at *
        have S := Lib.hid s
        have T := Lib.hid t
        clear s t
        go_enter Try.func57, Try.ntmps57
        go_wp2_with fail
        go_ret
        refine ⟨congrArg Ending.returned (congrArg (Value.int IntKind.i64) ?_), rfl⟩
        rw [T.out, S.out]
        simp only [wrap64]
        omega
      · have hc' : x < 256 := by omega
        have y0 : (0 : Int) ≤ x := by omega
        have y1 : x ≤ 255 := by omega
        have l := Lib.bitLen_le8' (x) y0 y1
        have t := Lib.len8_of (x) y0 y1
        generalize Lib.bitLen x.toNat = q at *
        have T := Lib.hid t
        clear t
        go_enter Try.func57, Try.ntmps57
        go_wp2_with fail
        go_ret
        refine ⟨congrArg Ending.returned (congrArg (Value.int IntKind.i64) ?_), rfl⟩
        rw [T.out]
        simp only [wrap64]
        omega
end Go.Proofs.Ytheafcfbahdcfaa
