/- Walks: with how many bytes texts begin alike; words as bytes; of words their places among others. -/
import Derived.Test.YtojppmnmhdgnnaaMDwCD
import Derived.Test.YtojppmnmhdgnnaaMDwF
import Derived.Test.YtojppmnmhdgnnaaMOcPT
import Derived.Test.YtojppmnmhdgnnaaMJoMW
namespace Go.Proofs.Ytojppmnmhdgnnaa
open Go.RowKit

attribute [local go_sem ↓] Go.wp_at_zero Go.wp_at_succ

theorem St8_at (l : List UInt8) (j : Nat) (hj : j < l.length) (h : j < (St8 l).size) : (St8 l)[j]'h = l[j] := rfl
theorem St8_drop (l : List UInt8) (n m : Nat) (hm : l.length ≤ m) : (St8 l).extract n m = St8 (l.drop n) := by
  unfold St8
  ext1
  simp only [ByteArray.data_extract]
  rw [List.extract_toArray, List.extract_eq_take_drop]
  rw [List.take_of_length_le (by rw [List.length_drop]; omega)]

theorem getB_of {l : List UInt8} {j : Nat} (h : j < l.length) : l.getD j 0 = l[j] := by
  rw [List.getD_eq_getElem?_getD, List.getElem?_eq_getElem h]
  rfl

set_option maxHeartbeats 4000000 in
set_option maxRecDepth 100000 in
theorem dcommon_any (x y : List UInt8) (w : World) (hx : x.length ≤ 1000000) (hy : y.length ≤ 1000000) :
    Calls Try.prog 82 #[.string (St8 x), .string (St8 y)] w fun e w' => e = .returned (.int .i64 ((comM x y : Nat) : Int)) ∧ ∃ q, w' = w.drewN q := by
  obtain ⟨R, hR⟩ : ∃ R, comM x y = R := ⟨_, rfl⟩
  rw [hR]
  have hsx := St8_size x
  have hsy := St8_size y
  have HR := Lib.hid hR
  obtain ⟨X, hX⟩ : ∃ X, x.length = X := ⟨_, rfl⟩
  obtain ⟨Y, hY⟩ : ∃ Y, y.length = Y := ⟨_, rfl⟩
  obtain ⟨N, hN⟩ : ∃ N, min X Y = N := ⟨_, rfl⟩
  have hmin : min (X : Int) (Y : Int) = (N : Int) := by omega
  have hNX : N ≤ X := by omega
  have hNY : N ≤ Y := by omega
  rw [hX] at hsx hx
  rw [hY] at hsy hy
  have HX := Lib.hid hX
  have HY := Lib.hid hY
  have HN := Lib.hid hN
  clear hR hX hY hN
  go_enter Try.func82, Try.ntmps82
  go_wp2_with fail
  go_loopw [13] (fun vi wr => ∃ (j q : Nat), vi = .int .i64 (j : Int) ∧ j ≤ N ∧ wr = w.drewN q ∧ Hid (∀ t, t < j → x.getD t 0 = y.getD t 0)) (fun vi _ => N - (intOf vi).toNat)
  case atStart => exact ⟨0, 0, rfl, by omega, rfl, fun t h => absurd h (Nat.not_lt_zero _)⟩
  case round =>
    obtain ⟨j, q, rfl, hj, hw, Hs⟩ := hrel
    have Hw := Lib.hid hw
    clear hw
    by_cases hjn : j < N
    · have hjx : j < x.length := by rw [HX.out]; omega
      have hjy : j < y.length := by rw [HY.out]; omega
      have hjX : (j : Int) < (X : Int) := by omega
      have hjY : (j : Int) < (Y : Int) := by omega
      have hj0 : (0 : Int) ≤ (j : Int) := by omega
      have hjI : (j : Int) < (N : Int) := by omega
      have ix : ∀ h, (St8 x)[j]'h = x[j] := fun h => St8_at x j hjx h
      have iy : ∀ h, (St8 y)[j]'h = y[j] := fun h => St8_at y j hjy h
      have gx := Lib.hid (getB_of hjx)
      have gy := Lib.hid (getB_of hjy)
      by_cases hab : x[j] = y[j]
      · have Hs2 : Hid (∀ t, t < j + 1 → x.getD t 0 = y.getD t 0) := fun t ht => by
          by_cases e : t = j
          · subst e; rw [gx.out, gy.out, hab]
          · exact Hs.out t (by omega)
        have hne : ((x[j].toNat : Int) != (y[j].toNat : Int)) = false := by rw [hab]; simp
        clear hab gx gy Hs
        go_wp2_with fail
        go_quiet (fail)
        go_wp2_with fail
        go_roundw
        case rel => exact ⟨j + 1, q + nq, by go_num, by omega, by rw [Hw.out, World.drewN_drewN], Hs2⟩
        case measure => simp only [intOf, Int.toNat_natCast]; omega
      · have hf : Hid (R = j) := by
          show _ = _
          rw [← HR.out]
          exact comM_at x y j (by rw [HX.out]; omega) (by rw [HY.out]; omega) Hs.out (.inr (by rw [gx.out, gy.out]; exact hab))
        have hne : ((x[j].toNat : Int) != (y[j].toNat : Int)) = true := by
          rw [bne_iff_ne]
          intro e
          exact hab (UInt8.toNat_inj.1 (by omega))
        clear hab gx gy Hs
        go_wp2_with fail
        go_quiet (fail)
        go_wp2_with fail
        go_ret
        rw [hf.out]
        exact ⟨rfl, q + nq, by rw [Hw.out, World.drewN_drewN]⟩
    · obtain rfl : j = N := by omega
      have hf : Hid (R = j) := by
        show _ = _
        rw [← HR.out]
        exact comM_at x y j (by rw [HX.out]; omega) (by rw [HY.out]; omega) Hs.out (.inl (by rw [HX.out, HY.out]; exact HN.out.symm))
      go_wp2_with fail
      go_ret
      rw [hf.out]
      exact ⟨rfl, q, Hw.out⟩

set_option maxHeartbeats 4000000 in
set_option maxRecDepth 100000 in
theorem drcommon_any (x y : List UInt8) (w : World) (hx : x.length ≤ 1000000) (hy : y.length ≤ 1000000) :
    Calls Try.prog 101 #[.string (St8 x), .string (St8 y)] w fun e w' => e = .returned (.int .i64 ((comM x y : Nat) : Int)) ∧ ∃ q, w' = w.drewN q := by
  obtain ⟨R, hR⟩ : ∃ R, comM x y = R := ⟨_, rfl⟩
  rw [hR]
  have hsx := St8_size x
  have hsy := St8_size y
  have HR := Lib.hid hR
  obtain ⟨X, hX⟩ : ∃ X, x.length = X := ⟨_, rfl⟩
  obtain ⟨Y, hY⟩ : ∃ Y, y.length = Y := ⟨_, rfl⟩
  rw [hX] at hsx hx
  rw [hY] at hsy hy
  have HX := Lib.hid hX
  have HY := Lib.hid hY
  clear hR hX hY
  go_enter Try.func101, Try.ntmps101
  go_wp2_with fail
  go_loopw [5] (fun vi wr => ∃ (j q : Nat), vi = .int .i64 (j : Int) ∧ j ≤ X ∧ j ≤ Y ∧ wr = w.drewN q ∧ Hid (∀ t, t < j → x.getD t 0 = y.getD t 0)) (fun vi _ => X - (intOf vi).toNat)
  case atStart => exact ⟨0, 0, rfl, by omega, by omega, rfl, fun t h => absurd h (Nat.not_lt_zero _)⟩
  case round =>
    obtain ⟨j, q, rfl, hjx0, hjy0, hw, Hs⟩ := hrel
    have Hw := Lib.hid hw
    clear hw
    have hj0 : (0 : Int) ≤ (j : Int) := by omega
    by_cases hjx1 : j < X
    · have hjX : (j : Int) < (X : Int) := by omega
      by_cases hjy1 : j < Y
      · have hjY : (j : Int) < (Y : Int) := by omega
        have hjx : j < x.length := by rw [HX.out]; exact hjx1
        have hjy : j < y.length := by rw [HY.out]; exact hjy1
        have ix : ∀ h, (St8 x)[j]'h = x[j] := fun h => St8_at x j hjx h
        have iy : ∀ h, (St8 y)[j]'h = y[j] := fun h => St8_at y j hjy h
        have gx := Lib.hid (getB_of hjx)
        have gy := Lib.hid (getB_of hjy)
        by_cases hab : x[j] = y[j]
        · have Hs2 : Hid (∀ t, t < j + 1 → x.getD t 0 = y.getD t 0) := fun t ht => by
            by_cases e : t = j
            · subst e; rw [gx.out, gy.out, hab]
            · exact Hs.out t (by omega)
          have hne : ((x[j].toNat : Int) == (y[j].toNat : Int)) = true := by rw [hab]; simp
          clear hab gx gy Hs
          go_wp2_with fail
          go_quiet (fail)
          go_wp2_with fail
          go_roundw
          case rel => exact ⟨j + 1, q + nq, by go_num, by omega, by omega, by rw [Hw.out, World.drewN_drewN], Hs2⟩
          case measure => simp only [intOf, Int.toNat_natCast]; omega
        · have hf : Hid (R = j) := by
            show _ = _
            rw [← HR.out]
            exact comM_at x y j (by rw [HX.out]; omega) (by rw [HY.out]; omega) Hs.out (.inr (by rw [gx.out, gy.out]; exact hab))
          have hne : ((x[j].toNat : Int) == (y[j].toNat : Int)) = false := by
            rw [beq_eq_false_iff_ne]
            intro e
            exact hab (UInt8.toNat_inj.1 (by omega))
          clear hab gx gy Hs
          go_wp2_with fail
          go_quiet (fail)
          go_wp2_with fail
          go_ret
          rw [hf.out]
          exact ⟨rfl, q + nq, by rw [Hw.out, World.drewN_drewN]⟩
      · have hf : Hid (R = j) := by
          show _ = _
          rw [← HR.out]
          exact comM_at x y j (by rw [HX.out]; omega) (by rw [HY.out]; omega) Hs.out (.inl (by rw [HX.out, HY.out]; omega))
        have hjY : decide ((j : Int) < (Y : Int)) = false := decide_eq_false (by omega)
        have hjYn : decide (j < Y) = false := decide_eq_false (by omega)
        go_wp2_with fail
        go_quiet (fail)
        go_wp2_with fail
        go_ret
        rw [hf.out]
        exact ⟨rfl, q + nq, by rw [Hw.out, World.drewN_drewN]⟩
    · have hf : Hid (R = j) := by
        show _ = _
        rw [← HR.out]
        exact comM_at x y j (by rw [HX.out]; omega) (by rw [HY.out]; omega) Hs.out (.inl (by rw [HX.out, HY.out]; omega))
      have hjX : decide ((j : Int) < (X : Int)) = false := decide_eq_false (by omega)
      have hjXn : decide (j < X) = false := decide_eq_false (by omega)
      go_wp2_with fail
      go_quiet (fail)
      go_wp2_with fail
      go_ret
      rw [hf.out]
      exact ⟨rfl, q + nq, by rw [Hw.out, World.drewN_drewN]⟩
end Go.Proofs.Ytojppmnmhdgnnaa
