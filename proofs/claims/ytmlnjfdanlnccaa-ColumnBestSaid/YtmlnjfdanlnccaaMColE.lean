/- Walks: how many bits numbers need, and how many bytes: the program's and the reference's. -/
import Derived.Test.YtmlnjfdanlnccaaMColD
import Derived.Test.YtmlnjfdanlnccaaMCoMP
import Derived.Test.YtmlnjfdanlnccaaMShelf
import Derived.Laws.BitsAllLaws
namespace Go.Proofs.Ytmlnjfdanlnccaa
open Go.RowKit

attribute [local go_sem ↓] Go.wp_at_zero Go.wp_at_succ

def ucl (l : List Nat) : List Value := l.map fun n : Nat => .int .u64 (n : Int)
theorem ucl_len (l : List Nat) : (ucl l).length = l.length := List.length_map _
theorem ucl_append (l m : List Nat) : ucl (l ++ m) = ucl l ++ ucl m := List.map_append
theorem Eu64 : ElemT Try.prog 113 66 1 8 (.int .u64 0) := ElemT.mk' (by kernel_rfl) (by kernel_rfl) rfl (by omega)
theorem ucl_get {w : World} {A : Option Addr} {l : List Nat} (h : Rd w A (ucl l)) {j : Nat} (hj : j < l.length) : ∃ b o, A = some ⟨b, o, none⟩ ∧ w.cell? ⟨b, o + j, none⟩ = some (.int .u64 (l[j] : Int)) := by
  obtain ⟨b, o, e, hr⟩ := h (by intro e; have := congrArg List.length e; rw [ucl_len, List.length_nil] at this; omega)
  refine ⟨b, o, e, hr j _ ?_⟩
  unfold ucl
  rw [List.getElem?_map, List.getElem?_eq_getElem hj]
  rfl

set_option maxHeartbeats 4000000 in
set_option maxRecDepth 100000 in
theorem width_any (l : List Nat) (n c : Nat) (A : Option Addr) (w : World) (hl : l.length = n) (hr : Rd w A (ucl l)) (hn : n ≤ 1000000) (hin : ∀ x ∈ l, x < 18446744073709551616) :
    Calls Try.prog 76 #[.slice A n c] w fun e w' => e = .returned (.int .i64 (widthM l : Int)) ∧ w = w' := by
  have Hl := Lib.hid hl
  have Hr := Lib.hid hr
  have Hin := Lib.hid hin
  obtain ⟨R, hR⟩ : ∃ R, widthM l = R := ⟨_, rfl⟩
  rw [hR]
  have HR := Lib.hid hR
  clear hl hr hin hR
  go_enter Try.func76, Try.ntmps76
  go_wp2_with fail
  go_loop [3, 8] (fun va vi => ∃ i a : Nat, va = .int .u64 (a : Int) ∧ vi = .int .i64 (i : Int) ∧ i ≤ n ∧ a = (l.take i).foldl (fun a n => a ||| n) 0 ∧ a < 18446744073709551616) (fun _ vi => n - (intOf vi).toNat)
  case atStart => exact ⟨0, 0, rfl, rfl, by omega, by simp, by omega⟩
  case round =>
    obtain ⟨i, a, rfl, rfl, hi, ha, ha64⟩ := hrel
    by_cases hin : i < n
    · have hil : i < l.length := by rw [Hl.out]; exact hin
      have hiI : (i : Int) < (n : Int) := by omega
      have hi0 : (0 : Int) ≤ (i : Int) := by omega
      obtain ⟨b, o, rfl, c0⟩ := ucl_get Hr.out hil
      have hx := Hin.out _ (List.getElem_mem hil)
      have Ha : Hid ((l.take (i + 1)).foldl (fun a n => a ||| n) 0 = a ||| l[i]) := by
        show _ = _
        rw [List.take_succ_eq_append_getElem hil, List.foldl_append, ← ha]
        rfl
      generalize l[i] = x at *
      have hor : bits .or .u64 (a : Int) (x : Int) = ((a ||| x : Nat) : Int) := u64_or_nat a x ha64 hx
      have h64 : a ||| x < 18446744073709551616 := Nat.or_lt_two_pow (n := 64) ha64 hx
      generalize a ||| x = y at *
      clear ha ha64 hil hx
      go_wp2_with fail
      go_round
      case rel => exact ⟨i + 1, y, rfl, by go_num, by omega, Ha.out.symm, h64⟩
      case measure => simp only [intOf, Int.toNat_natCast]; omega
    · obtain rfl : i = n := by omega
      have hwd : Hid (widthM l = Lib.bitLen a) := by
        show _ = _
        rw [ha, List.take_of_length_le (by rw [Hl.out]; exact Nat.le_refl _)]
        rfl
      have hb := Try.bits_Len64 (a : Int) w (by omega) (by omega)
      rw [Int.toNat_natCast] at hb
      have Hbb := Lib.hid hb
      clear ha hb
      go_wp2_with fail
      refine Hbb.out.mono ?_
      rintro e w1 ⟨rfl, hw1⟩
      obtain rfl : w = w1 := hw1.symm
      go_wp2_with fail
      go_ret
      exact ⟨by rw [← HR.out, hwd.out]; rfl, rfl⟩

set_option maxHeartbeats 4000000 in
set_option maxRecDepth 100000 in
theorem rbits_any (n : Nat) (w : World) (hn : n < 18446744073709551616) :
    Calls Try.prog 109 #[.int .u64 (n : Int)] w fun e w' => e = .returned (.int .i64 (Lib.bitLen n : Int)) ∧ w = w' := by
  obtain ⟨R, hR⟩ : ∃ R, Lib.bitLen n = R := ⟨_, rfl⟩
  have hR64 : R ≤ 64 := by rw [← hR]; exact (bitLen_lt hn (Nat.le_refl _)).2 hn
  rw [hR]
  have HR := Lib.hid hR
  clear hR
  go_enter Try.func109, Try.ntmps109
  go_wp2_with fail
  go_loop [0, 3] (fun vn vk => ∃ m k : Nat, vn = .int .u64 (m : Int) ∧ vk = .int .i64 (k : Int) ∧ m < 18446744073709551616 ∧ k ≤ 64 ∧ Hid (Lib.bitLen m + k = R)) (fun vn _ => (intOf vn).toNat)
  case atStart => exact ⟨n, 0, rfl, rfl, hn, by omega, HR.out⟩
  case round =>
    obtain ⟨m, k, rfl, rfl, hm, hk, HK⟩ := hrel
    by_cases h0 : 0 < m
    · have hmI : (0 : Int) < (m : Int) := by omega
      have h2 := Lib.bitLen_half m (by omega) hm
      have hk1 : k + 1 ≤ 64 := by have := HK.out; omega
      have HK2 : Hid (Lib.bitLen (m / 2) + (k + 1) = R) := by show _ = _; have := HK.out; omega
      have hq : (m : Int) / 2 = ((m / 2 : Nat) : Int) := by omega
      have hq2 : Int.tdiv (m : Int) 2 = ((m / 2 : Nat) : Int) := by rw [Int.tdiv_eq_ediv_of_nonneg (by omega)]; exact hq
      have hlt : m / 2 < m := by omega
      generalize m / 2 = d at *
      clear h2
      go_wp2_with fail
      go_round
      case rel => exact ⟨d, k + 1, rfl, by go_num, by omega, hk1, HK2⟩
      case measure => simp only [intOf, Int.toNat_natCast]; omega
    · obtain rfl : m = 0 := by omega
      have hkR : k = R := by
        have := HK.out
        rw [show Lib.bitLen 0 = 0 from by decide] at this
        omega
      go_wp2_with fail
      go_ret
      exact ⟨rfl, rfl⟩

set_option maxHeartbeats 4000000 in
set_option maxRecDepth 100000 in
theorem rwidth_any (l : List Nat) (n c : Nat) (A : Option Addr) (w : World) (hl : l.length = n) (hr : Rd w A (ucl l)) (hn : n ≤ 1000000) (hin : ∀ x ∈ l, x < 18446744073709551616) :
    Calls Try.prog 91 #[.slice A n c] w fun e w' => e = .returned (.int .i64 (widthM l : Int)) ∧ w = w' := by
  have Hl := Lib.hid hl
  have Hr := Lib.hid hr
  have Hin := Lib.hid hin
  have hwm := Lib.hid (width_max hin)
  obtain ⟨R, hR⟩ : ∃ R, widthM l = R := ⟨_, rfl⟩
  rw [hR]
  have HR := Lib.hid hR
  clear hl hr hin hR
  go_enter Try.func91, Try.ntmps91
  go_wp2_with fail
  go_loop [3, 4] (fun va vi => ∃ i a : Nat, va = .int .i64 (a : Int) ∧ vi = .int .i64 (i : Int) ∧ i ≤ n ∧ Hid (a = ((l.take i).map Lib.bitLen).foldl max 0) ∧ a ≤ 64) (fun _ vi => n - (intOf vi).toNat)
  case atStart => exact ⟨0, 0, rfl, rfl, by omega, (by show _ = _; simp), by omega⟩
  case round =>
    obtain ⟨i, a, rfl, rfl, hi, Ha, ha64⟩ := hrel
    by_cases hin : i < n
    · have hil : i < l.length := by rw [Hl.out]; exact hin
      have hiI : (i : Int) < (n : Int) := by omega
      have hi0 : (0 : Int) ≤ (i : Int) := by omega
      obtain ⟨b, o, rfl, c0⟩ := ucl_get Hr.out hil
      have hx := Hin.out _ (List.getElem_mem hil)
      have Ha2 : Hid (((l.take (i + 1)).map Lib.bitLen).foldl max 0 = max a (Lib.bitLen l[i])) := by
        show _ = _
        rw [List.take_succ_eq_append_getElem hil, List.map_append, List.foldl_append, ← Ha.out]
        rfl
      have hb := Lib.hid (rbits_any l[i] w hx)
      have hb64 := (bitLen_lt hx (Nat.le_refl _)).2 hx
      generalize l[i] = x at *
      generalize Lib.bitLen x = y at *
      obtain ⟨M, hM⟩ : ∃ M, max a y = M := ⟨_, rfl⟩
      have hMI : max (a : Int) (y : Int) = (M : Int) := by omega
      have HA2 : Hid (M = ((l.take (i + 1)).map Lib.bitLen).foldl max 0) := by show _ = _; rw [Ha2.out, hM]
      have hM64 : M ≤ 64 := by omega
      clear hil hx Ha hM
      go_wp2_with fail
      refine hb.out.mono ?_
      rintro e w1 ⟨rfl, rfl⟩
      go_wp2_with fail
      go_round
      case rel => exact ⟨i + 1, M, rfl, by go_num, by omega, HA2, hM64⟩
      case measure => simp only [intOf, Int.toNat_natCast]; omega
    · obtain rfl : i = n := by omega
      have hwd : Hid (widthM l = a) := by
        show _ = _
        rw [hwm.out, Ha.out, List.take_of_length_le (by rw [Hl.out]; exact Nat.le_refl _)]
      clear Ha
      go_wp2_with fail
      go_ret
      exact ⟨by rw [← HR.out, hwd.out]; rfl, rfl⟩

set_option maxRecDepth 100000 in
theorem bytes_any (m k : Nat) (w : World) (hm : m ≤ 4096) (hk : k ≤ 64) :
    Calls Try.prog 100 #[.int .i64 (m : Int), .int .i64 (k : Int)] w fun e w' => e = .returned (.tuple #[.int .i64 (bytesN m k : Int), .int .i64 0]) ∧ w = w' := by
  obtain ⟨P, hP⟩ : ∃ P, m * k = P := ⟨_, rfl⟩
  have hPl : P ≤ 4096 * 64 := by rw [← hP]; exact Nat.mul_le_mul hm hk
  have hPI : (m : Int) * (k : Int) = (P : Int) := by rw [← hP]; exact (Int.natCast_mul m k).symm
  have hB : bytesN m k = (P + 7) / 8 := by unfold bytesN; rw [hP]
  rw [hB]
  obtain ⟨B, hBB⟩ : ∃ B, (P + 7) / 8 = B := ⟨_, rfl⟩
  rw [hBB]
  have hq : ((P : Int) + 7) / 8 = (B : Int) := by omega
  have hq2 : Int.tdiv ((P : Int) + 7) 8 = (B : Int) := by rw [Int.tdiv_eq_ediv_of_nonneg (by omega)]; exact hq
  have hmI : (m : Int) ≤ 4096 := by omega
  have hkI : (k : Int) ≤ 64 := by omega
  clear hP hB hBB
  go_enter Try.func100, Try.ntmps100
  go_wp2_with fail
  go_ret2
  exact ⟨rfl, rfl⟩
set_option maxRecDepth 100000 in
theorem rbytes_any (m k : Nat) (w : World) (hm : m ≤ 4096) (hk : k ≤ 64) :
    Calls Try.prog 110 #[.int .i64 (m : Int), .int .i64 (k : Int)] w fun e w' => e = .returned (.tuple #[.int .i64 (bytesN m k : Int), .int .i64 0]) ∧ w = w' := by
  obtain ⟨P, hP⟩ : ∃ P, m * k = P := ⟨_, rfl⟩
  have hPl : P ≤ 4096 * 64 := by rw [← hP]; exact Nat.mul_le_mul hm hk
  have hPI : (m : Int) * (k : Int) = (P : Int) := by rw [← hP]; exact (Int.natCast_mul m k).symm
  have hB : bytesN m k = (P + 7) / 8 := by unfold bytesN; rw [hP]
  rw [hB]
  obtain ⟨B, hBB⟩ : ∃ B, (P + 7) / 8 = B := ⟨_, rfl⟩
  rw [hBB]
  have hq : ((P : Int) + 7) / 8 = (B : Int) := by omega
  have hq2 : Int.tdiv ((P : Int) + 7) 8 = (B : Int) := by rw [Int.tdiv_eq_ediv_of_nonneg (by omega)]; exact hq
  have hmI : (m : Int) ≤ 4096 := by omega
  have hkI : (k : Int) ≤ 64 := by omega
  clear hP hB hBB
  go_enter Try.func110, Try.ntmps110
  go_wp2_with fail
  go_ret2
  exact ⟨rfl, rfl⟩
end Go.Proofs.Ytmlnjfdanlnccaa
