/- Walks: with how many bytes texts begin alike; words as bytes; of words their places among others. Walks: a reader that is kept; slices.Clone of bytes. -/
import Derived.Test.YtojppmnmhdgnnaaMDwCD
import Derived.Test.YtojppmnmhdgnnaaMDwEF
import Derived.Test.YtojppmnmhdgnnaaMOcPT
import Derived.Test.YtojppmnmhdgnnaaMJoMW
import Derived.Test.YtojppmnmhdgnnaaMCuNT
import Derived.Deep.AppendSrc
namespace Go.Proofs.Ytojppmnmhdgnnaa
set_option linter.unusedVariables false
set_option linter.unusedSimpArgs false
open Go.RowKit

attribute [local go_sem ↓] Go.wp_at_zero Go.wp_at_succ

theorem St8_at (l : List UInt8) (j : Nat) (hj : j < l.length) (h : j < (St8 l).size) : (St8 l)[j]'h = l[j] := rfl
theorem St8_drop (l : List UInt8) (n m : Nat) (hm : l.length ≤ m) : (St8 l).extract n m = St8 (l.drop n) := by
  unfold St8
  ext1
  simp only [ByteArray.data_extract]
  rw [List.extract_toArray, List.extract_eq_take_drop]
  rw [List.take_of_length_le (by rw [List.length_drop]; omega)]

theorem getB_of {l : List UInt8} {j : Nat} (h : j < l.length) : l.getD j 0 = l[j] := by
  rw [List.getD_eq_getElem?_getD, List.getElem?_eq_getElem h]
  rfl

set_option maxHeartbeats 4000000 in
set_option maxRecDepth 100000 in
theorem dcommon_any (x y : List UInt8) (w : World) (hx : x.length ≤ 1000000) (hy : y.length ≤ 1000000) :
    Calls Try.prog 82 #[.string (St8 x), .string (St8 y)] w fun e w' => e = .returned (.int .i64 ((comM x y : Nat) : Int)) ∧ ∃ q, w' = w.drewN q := by
  obtain ⟨R, hR⟩ : ∃ R, comM x y = R := ⟨_, rfl⟩
  rw [hR]
  have hsx := St8_size x
  have hsy := St8_size y
  have HR := Lib.hid hR
  obtain ⟨X, hX⟩ : ∃ X, x.length = X := ⟨_, rfl⟩
  obtain ⟨Y, hY⟩ : ∃ Y, y.length = Y := ⟨_, rfl⟩
  obtain ⟨N, hN⟩ : ∃ N, min X Y = N := ⟨_, rfl⟩
  have hmin : min (X : Int) (Y : Int) = (N : Int) := by omega
  have hNX : N ≤ X := by omega
  have hNY : N ≤ Y := by omega
  rw [hX] at hsx hx
  rw [hY] at hsy hy
  have HX := Lib.hid hX
  have HY := Lib.hid hY
  have HN := Lib.hid hN
  clear hR hX hY hN
  go_enter Try.func82, Try.ntmps82
  go_wp2_with fail
  go_loopw [13] (fun vi wr => ∃ (j q : Nat), vi = .int .i64 (j : Int) ∧ j ≤ N ∧ wr = w.drewN q ∧ Hid (∀ t, t < j → x.getD t 0 = y.getD t 0)) (fun vi _ => N - (intOf vi).toNat)
  case atStart => exact ⟨0, 0, rfl, by omega, rfl, fun t h => absurd h (Nat.not_lt_zero _)⟩
  case round =>
    obtain ⟨j, q, rfl, hj, hw, Hs⟩ := hrel
    have Hw := Lib.hid hw
    clear hw
    by_cases hjn : j < N
    · have hjx : j < x.length := by rw [HX.out]; omega
      have hjy : j < y.length := by rw [HY.out]; omega
      have hjX : (j : Int) < (X : Int) := by omega
      have hjY : (j : Int) < (Y : Int) := by omega
      have hj0 : (0 : Int) ≤ (j : Int) := by omega
      have hjI : (j : Int) < (N : Int) := by omega
      have ix : ∀ h, (St8 x)[j]'h = x[j] := fun h => St8_at x j hjx h
      have iy : ∀ h, (St8 y)[j]'h = y[j] := fun h => St8_at y j hjy h
      have gx := Lib.hid (getB_of hjx)
      have gy := Lib.hid (getB_of hjy)
      by_cases hab : x[j] = y[j]
      · have Hs2 : Hid (∀ t, t < j + 1 → x.getD t 0 = y.getD t 0) := fun t ht => by
          by_cases e : t = j
          · subst e; rw [gx.out, gy.out, hab]
          · exact Hs.out t (by omega)
        have hne : ((x[j].toNat : Int) != (y[j].toNat : Int)) = false := by rw [hab]; simp
        clear hab gx gy Hs
        go_wp2_with fail
        go_quiet (fail)
        go_wp2_with fail
        go_roundw
        case rel => exact ⟨j + 1, q + nq, by go_num, by omega, by rw [Hw.out, World.drewN_drewN], Hs2⟩
        case measure => simp only [intOf, Int.toNat_natCast]; omega
      · have hf : Hid (R = j) := by
          show _ = _
          rw [← HR.out]
          exact comM_at x y j (by rw [HX.out]; omega) (by rw [HY.out]; omega) Hs.out (.inr (by rw [gx.out, gy.out]; exact hab))
        have hne : ((x[j].toNat : Int) != (y[j].toNat : Int)) = true := by
          rw [bne_iff_ne]
          intro e
          exact hab (UInt8.toNat_inj.1 (by omega))
        clear hab gx gy Hs
        go_wp2_with fail
        go_quiet (fail)
        go_wp2_with fail
        go_ret
        rw [hf.out]
        exact ⟨rfl, q + nq, by rw [Hw.out, World.drewN_drewN]⟩
    · obtain rfl : j = N := by omega
      have hf : Hid (R = j) := by
        show _ = _
        rw [← HR.out]
        exact comM_at x y j (by rw [HX.out]; omega) (by rw [HY.out]; omega) Hs.out (.inl (by rw [HX.out, HY.out]; exact HN.out.symm))
      go_wp2_with fail
      go_ret
      rw [hf.out]
      exact ⟨rfl, q, Hw.out⟩

set_option maxHeartbeats 4000000 in
set_option maxRecDepth 100000 in
theorem drcommon_any (x y : List UInt8) (w : World) (hx : x.length ≤ 1000000) (hy : y.length ≤ 1000000) :
    Calls Try.prog 101 #[.string (St8 x), .string (St8 y)] w fun e w' => e = .returned (.int .i64 ((comM x y : Nat) : Int)) ∧ ∃ q, w' = w.drewN q := by
  obtain ⟨R, hR⟩ : ∃ R, comM x y = R := ⟨_, rfl⟩
  rw [hR]
  have hsx := St8_size x
  have hsy := St8_size y
  have HR := Lib.hid hR
  obtain ⟨X, hX⟩ : ∃ X, x.length = X := ⟨_, rfl⟩
  obtain ⟨Y, hY⟩ : ∃ Y, y.length = Y := ⟨_, rfl⟩
  rw [hX] at hsx hx
  rw [hY] at hsy hy
  have HX := Lib.hid hX
  have HY := Lib.hid hY
  clear hR hX hY
  go_enter Try.func101, Try.ntmps101
  go_wp2_with fail
  go_loopw [5] (fun vi wr => ∃ (j q : Nat), vi = .int .i64 (j : Int) ∧ j ≤ X ∧ j ≤ Y ∧ wr = w.drewN q ∧ Hid (∀ t, t < j → x.getD t 0 = y.getD t 0)) (fun vi _ => X - (intOf vi).toNat)
  case atStart => exact ⟨0, 0, rfl, by omega, by omega, rfl, fun t h => absurd h (Nat.not_lt_zero _)⟩
  case round =>
    obtain ⟨j, q, rfl, hjx0, hjy0, hw, Hs⟩ := hrel
    have Hw := Lib.hid hw
    clear hw
    have hj0 : (0 : Int) ≤ (j : Int) := by omega
    by_cases hjx1 : j < X
    · have hjX : (j : Int) < (X : Int) := by omega
      by_cases hjy1 : j < Y
      · have hjY : (j : Int) < (Y : Int) := by omega
        have hjx : j < x.length := by rw [HX.out]; exact hjx1
        have hjy : j < y.length := by rw [HY.out]; exact hjy1
        have ix : ∀ h, (St8 x)[j]'h = x[j] := fun h => St8_at x j hjx h
        have iy : ∀ h, (St8 y)[j]'h = y[j] := fun h => St8_at y j hjy h
        have gx := Lib.hid (getB_of hjx)
        have gy := Lib.hid (getB_of hjy)
        by_cases hab : x[j] = y[j]
        · have Hs2 : Hid (∀ t, t < j + 1 → x.getD t 0 = y.getD t 0) := fun t ht => by
            by_cases e : t = j
            · subst e; rw [gx.out, gy.out, hab]
            · exact Hs.out t (by omega)
          have hne : ((x[j].toNat : Int) == (y[j].toNat : Int)) = true := by rw [hab]; simp
          clear hab gx gy Hs
          go_wp2_with fail
          go_quiet (fail)
          go_wp2_with fail
          go_roundw
          case rel => exact ⟨j + 1, q + nq, by go_num, by omega, by omega, by rw [Hw.out, World.drewN_drewN], Hs2⟩
          case measure => simp only [intOf, Int.toNat_natCast]; omega
        · have hf : Hid (R = j) := by
            show _ = _
            rw [← HR.out]
            exact comM_at x y j (by rw [HX.out]; omega) (by rw [HY.out]; omega) Hs.out (.inr (by rw [gx.out, gy.out]; exact hab))
          have hne : ((x[j].toNat : Int) == (y[j].toNat : Int)) = false := by
            rw [beq_eq_false_iff_ne]
            intro e
            exact hab (UInt8.toNat_inj.1 (by omega))
          clear hab gx gy Hs
          go_wp2_with fail
          go_quiet (fail)
          go_wp2_with fail
          go_ret
          rw [hf.out]
          exact ⟨rfl, q + nq, by rw [Hw.out, World.drewN_drewN]⟩
      · have hf : Hid (R = j) := by
          show _ = _
          rw [← HR.out]
          exact comM_at x y j (by rw [HX.out]; omega) (by rw [HY.out]; omega) Hs.out (.inl (by rw [HX.out, HY.out]; omega))
        have hjY : decide ((j : Int) < (Y : Int)) = false := decide_eq_false (by omega)
        have hjYn : decide (j < Y) = false := decide_eq_false (by omega)
        go_wp2_with fail
        go_quiet (fail)
        go_wp2_with fail
        go_ret
        rw [hf.out]
        exact ⟨rfl, q + nq, by rw [Hw.out, World.drewN_drewN]⟩
    · have hf : Hid (R = j) := by
        show _ = _
        rw [← HR.out]
        exact comM_at x y j (by rw [HX.out]; omega) (by rw [HY.out]; omega) Hs.out (.inl (by rw [HX.out, HY.out]; omega))
      have hjX : decide ((j : Int) < (X : Int)) = false := decide_eq_false (by omega)
      have hjXn : decide (j < X) = false := decide_eq_false (by omega)
      go_wp2_with fail
      go_quiet (fail)
      go_wp2_with fail
      go_ret
      rw [hf.out]
      exact ⟨rfl, q + nq, by rw [Hw.out, World.drewN_drewN]⟩
end Go.Proofs.Ytojppmnmhdgnnaa
namespace Go.Proofs.Ytojppmnmhdgnnaa
set_option linter.unusedVariables false
set_option linter.unusedSimpArgs false
open Go.RowKit

attribute [local go_sem ↓] Go.wp_at_zero Go.wp_at_succ

theorem Rdr.keeps {w w' : World} {p : Nat} {l : List UInt8} {bad : Bool} {T : List TypeId} {B : Nat} (h : Rdr w p l bad) (h1t : 133 ∉ T) (h2t : 5 ∉ T) (hk : Keeps T B w w') : Rdr w' p l bad := by
  obtain ⟨A, n, c, h1, h2, h3⟩ := h
  exact ⟨A, n, c, h1.keeps h1t hk, h2.keeps h2t hk, h3⟩
theorem Rdr.drewN {w : World} {p : Nat} {l : List UInt8} {bad : Bool} (h : Rdr w p l bad) (n : Nat) : Rdr (w.drewN n) p l bad := by
  obtain ⟨A, m, c, h1, h2, h3⟩ := h
  exact ⟨A, m, c, h1.drewN n, h2, h3⟩
theorem Rdr.lt {w : World} {p : Nat} {l : List UInt8} {bad : Bool} (h : Rdr w p l bad) : p < w.heap.size := by
  obtain ⟨A, m, c, h1, _⟩ := h
  exact h1.lt
theorem keeps_below {T : List TypeId} {p M : Nat} {w w' : World} (h : Keeps T p w w') (hM : M ≤ p) (hp : p ≤ w.heap.size) : Below M w w' := (h.below hp).mono hM

/-- Behind slices.Clone of bytes. -/
theorem bclone_any2 (l : List UInt8) (n c : Nat) (A : Option Addr) (w : World) (hl : l.length = n) (hr : Rd w A (Bs l)) (hn : n ≤ 1000000) (hnil : A = none → n = 0 ∧ c = 0) :
    Calls Try.prog 61 #[.slice A n c] w fun e w' => ∃ A' c', e = .returned (.slice A' n c') ∧ (n ≤ c' ∧ c' ≤ 9223372036854775807) ∧ Rd w' A' (Bs l) ∧ Below w.heap.size w w' := by
  have Hl := Lib.hid hl
  cases A with
  | none =>
    obtain ⟨h0, hc0⟩ := hnil rfl
    subst h0
    subst hc0
    have h1 : l = [] := List.eq_nil_of_length_eq_zero hl
    subst h1
    have hq := fun w => Lib.run_eql_slice_nil (P := Try.prog) w 32 5 none 0 0 0 0 Try.underlying32
    go_enter Try.func61, Try.ntmps61
    go_wp2_with fail
    go_ret
    exact ⟨none, 0, rfl, by omega, Rd.nil _ _, Below.refl _ _⟩
  | some ad =>
    have ho1 : Own (w.alloc (.cells #[] 5)) w.heap.size 5 1 (some ⟨w.heap.size, 0, none⟩) 0 0 [] := World.ownsRow_made w #[] 0 (Nat.le_refl _) (by unfold maxLen; omega) rfl
    have hb1 : Below w.heap.size w (w.alloc (.cells #[] 5)) := (Below.refl _ _).alloc (Nat.le_refl _) _
    have hq := fun w => Lib.run_eql_slice_nil (P := Try.prog) w 32 5 (some ad) n c 0 0 Try.underlying32
    clear hl
    go_enter Try.func61, Try.ntmps61
    go_wp2_with (first | (at_builtin; refine hold ?_) | (at_make; refine hold ?_))
    (with_reducible refine unhold ?_)
    refine wpList_apd rfl _ _ _ rfl E8 w.heap.size _ 0 _ [] rfl ho1 _ n _ (Bs l) rfl (by rw [List.length_map, Hl.out, Nat.mul_one]) (hr.below hb1) (Bs_one l) n (Nat.zero_add _) (Bs l) rfl (by omega) (by omega) hb1.size ?_
    intro A2 c2 w2 ho2 hg2 _
    have hb2 : Below w.heap.size w w2 := hb1.grown hg2 hb1.size ho1.row_ge
    have hr2 := ho2.rd
    have hcp : n ≤ c2 ∧ c2 ≤ 9223372036854775807 := by
      have := ho2.cap
      unfold maxLen at this
      omega
    clear ho1 hg2 hb1 hr ho2
    go_wp2_with fail
    go_ret
    exact ⟨A2, c2, rfl, hcp, hr2, hb2⟩
theorem bclone_any (l : List UInt8) (n c : Nat) (A : Option Addr) (w : World) (hl : l.length = n) (hr : Rd w A (Bs l)) (hn : n ≤ 1000000) (hnil : A = none → n = 0 ∧ c = 0) :
    Calls Try.prog 61 #[.slice A n c] w fun e w' => ∃ A' c', e = .returned (.slice A' n c') ∧ Rd w' A' (Bs l) ∧ Below w.heap.size w w' := by
  refine (bclone_any2 l n c A w hl hr hn hnil).mono ?_
  rintro e w' ⟨A', c', rfl, -, hr', hb⟩
  exact ⟨A', c', rfl, hr', hb⟩
end Go.Proofs.Ytojppmnmhdgnnaa
