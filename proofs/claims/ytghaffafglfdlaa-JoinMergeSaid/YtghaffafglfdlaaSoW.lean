/- Walks: a stable sort in place: comparing, exchanging ranges, rotating. -/
import Derived.Test.YtghaffafglfdlaaSoS
import Derived.BigRegion
namespace Go.Proofs.Ytghaffafglfdlaa
open Go.RowKit

attribute [local go_sem ↓] Go.wp_at_zero Go.wp_at_succ

theorem scmp_any (x y : RowM) (xl xc yl yc : Nat) (X Y : Option Addr) (kb g2 kc : Nat) (col : Int) (w : World) (hx : x.length = xl) (hy : y.length = yl) (hX : Rd w X (rcells x)) (hY : Rd w Y (rcells y)) (hK : KeyAt w kb g2 kc col) :
    Calls Try.prog 43 #[.slice X xl xc, .slice Y yl yc, .pointer (some ⟨kb, 0, none⟩)] w fun e w' => e = .returned (.int .i64 (oneV (colAt x col) (colAt y col))) ∧ Below w.heap.size w w' := by
  have k2 := hK.box.cell 0
  have k0 := hK.key.cell 0
  have k1 := hK.key.cell 1
  simp only [List.getElem?_cons_zero, List.getElem?_cons_succ] at k0 k1 k2
  have hc := Lib.hid (ocmp_any x y xl xc yl yc X Y g2 kc col w hx hy hX hY k0 k1)
  clear hK k0 k1
  go_enter Try.func43, Try.ntmps43
  go_wp2_with fail
  refine hc.out.mono ?_
  rintro e w3 ⟨rfl, hb3⟩
  go_wp2_with fail
  go_ret
  exact ⟨rfl, hb3⟩

set_option maxHeartbeats 4000000 in
set_option maxRecDepth 100000 in
theorem swaps_c (F : Value) (B g n c : Nat) (d : Nat → Hr) (a b k : Nat) (w : World) (h : Dat w B g n d) (hn : n ≤ 1000000) (hnc : n ≤ c) (h1 : a + k ≤ b) (h2 : b + k ≤ n) :
    Calls Try.prog 87 #[.slice (some ⟨g, 0, none⟩) n c, .int .i64 a, .int .i64 b, .int .i64 k, F] w fun e w' => e = .returned (.tuple #[]) ∧ Dat w' B g n (So.swps d a b k) ∧ Keeps [28] B w w' := by
  have H := Lib.hid h
  clear h
  go_enter Try.func87, Try.ntmps87
  go_wp2_with fail
  go_loopw [10] (fun vi wr => ∃ i : Nat, i ≤ k ∧ vi = .int .i64 i ∧ Hid (Dat wr B g n (So.swps d a b i)) ∧ Hid (Keeps [28] B w wr)) (fun i _ => k - (intOf i).toNat)
  case atStart => exact ⟨0, by omega, rfl, by rw [So.swps_zero]; exact H.out, Keeps.refl _ _ _⟩
  case round =>
    obtain ⟨i, hi, rfl, Hd, Hk⟩ := hrel
    by_cases hlt : i < k
    · have hpa : a + i < n := by omega
      have hpb : b + i < n := by omega
      have hsw := Hd.out.swap hpa hpb
      rw [So.swps_succ d (show a + (i + 1) ≤ b by omega)] at hsw
      have ca := Hd.out.cell hpa
      have cb := Hd.out.cell hpb
      have fa := Hd.out.blk.frozen (a + i)
      have fb := Hd.out.blk.frozen (b + i)
      obtain ⟨A1, c1, e1, _⟩ := Hd.out.row (a + i) hpa
      obtain ⟨A2, c2, e2, _⟩ := Hd.out.row (b + i) hpb
      rw [e1, e2] at hsw
      rw [e1] at ca
      rw [e2] at cb
      generalize (So.swps d a b i (a + i)).2.length = l1 at *
      generalize (So.swps d a b i (b + i)).2.length = l2 at *
      have Hsw := Lib.hid hsw
      have wa : IntKind.i64.wrap ((a : Int) + (i : Int)) = (a : Int) + (i : Int) := by rw [IntKind.wrap_i64]; omega
      have wb : IntKind.i64.wrap ((b : Int) + (i : Int)) = (b : Int) + (i : Int) := by rw [IntKind.wrap_i64]; omega
      have ta : ((a : Int) + (i : Int)).toNat = a + i := by omega
      have tb : ((b : Int) + (i : Int)).toNat = b + i := by omega
      have ia : (0 : Int) ≤ (a : Int) + (i : Int) := by omega
      have ib : (0 : Int) ≤ (b : Int) + (i : Int) := by omega
      have ja : (a : Int) + (i : Int) < (n : Int) := by omega
      have jb : (b : Int) + (i : Int) < (n : Int) := by omega
      have hne : a + i ≠ b + i := by omega
      clear hsw e1 e2 Hd
      go_wp2_with fail
      go_region
      clear wa wb ta tb ia ib ja jb
      go_wp2_with fail
      go_roundw
      case rel => exact ⟨i + 1, by omega, by go_num, Hsw.out.1.below (Below.refl _ _).drew, (Hk.out.trans Hsw.out.2).then_below (Below.refl _ _).drew⟩
      case measure => simp [intOf]; omega
    · obtain rfl : i = k := by omega
      go_wp2_with fail
      go_end0
      exact ⟨rfl, Hd.out, Hk.out⟩

set_option maxHeartbeats 4000000 in
set_option maxRecDepth 100000 in
theorem rotate_c (F : Value) (B g n c : Nat) (d : Nat → Hr) (a m b : Nat) (w : World) (h : Dat w B g n d) (hn : n ≤ 1000000) (hnc : n ≤ c) (h1 : a < m) (h2 : m < b) (h3 : b ≤ n) :
    Calls Try.prog 79 #[.slice (some ⟨g, 0, none⟩) n c, .int .i64 a, .int .i64 m, .int .i64 b, F] w fun e w' => e = .returned (.tuple #[]) ∧ Dat w' B g n (So.rot d a m b) ∧ Keeps [28] B w w' := by
  have H := Lib.hid h
  clear h
  have w1 : IntKind.i64.wrap ((m : Int) - (a : Int)) = ((m - a : Nat) : Int) := by rw [IntKind.wrap_i64]; omega
  have w2 : IntKind.i64.wrap ((b : Int) - (m : Int)) = ((b - m : Nat) : Int) := by rw [IntKind.wrap_i64]; omega
  go_enter Try.func79, Try.ntmps79
  go_wp2_with fail
  go_loopw [10, 11] (fun vi vj wr => ∃ (i j : Nat) (d' : Nat → Hr), 0 < i ∧ 0 < j ∧ i ≤ m ∧ m + j ≤ n ∧ vi = .int .i64 i ∧ vj = .int .i64 j ∧ Hid (Dat wr B g n d') ∧ Hid (So.rot d' (m - i) m (m + j) = So.rot d a m b) ∧ Hid (Keeps [28] B w wr)) (fun i j _ => (intOf i).toNat + (intOf j).toNat)
  case atStart => exact ⟨m - a, b - m, d, by omega, by omega, by omega, by omega, by go_num, by go_num, H.out, by show _ = _; rw [show m - (m - a) = a from by omega, show m + (b - m) = b from by omega], Keeps.refl _ _ _⟩
  case round =>
    clear w1 w2
    obtain ⟨i, j, d', hi0, hj0, hi, hj, rfl, rfl, Hd, Hr, Hk⟩ := hrel
    have v1 : (m : Int) - (i : Int) = ((m - i : Nat) : Int) := by omega
    by_cases hij : i = j
    · have hs := Lib.hid (swaps_c F B g n c d' (m - i) m i wr Hd.out hn hnc (by omega) (by omega))
      have he : Hid (So.swps d' (m - i) m i = So.rot d a m b) := by show _ = _; rw [← Hr.out, So.rot_eq d' hi, hij]
      subst hij
      go_wp2_with fail
      refine hs.out.mono ?_
      rintro e w5 ⟨rfl, hd5, hk5⟩
      go_wp2_with fail
      go_end0
      rw [he.out] at hd5
      exact ⟨rfl, hd5, Hk.out.trans hk5⟩
    · by_cases hgt : j < i
      · have hs := Lib.hid (swaps_c F B g n c d' (m - i) m j wr Hd.out hn hnc (by omega) (by omega))
        have he := Lib.hid (So.rot_gt d' hi hgt)
        go_wp2_with fail
        refine hs.out.mono ?_
        rintro e w5 ⟨rfl, hd5, hk5⟩
        go_wp2_with fail
        go_roundw
        case rel => exact ⟨i - j, j, _, by omega, hj0, by omega, by omega, by go_num, rfl, hd5, by show _ = _; rw [he.out, Hr.out], Hk.out.trans hk5⟩
        case measure => simp [intOf]; omega
      · have v2 : (m : Int) + (j : Int) - (i : Int) = ((m + j - i : Nat) : Int) := by omega
        have hs := Lib.hid (swaps_c F B g n c d' (m - i) (m + j - i) i wr Hd.out hn hnc (by omega) (by omega))
        have he := Lib.hid (So.rot_lt d' hi (show i < j by omega))
        go_wp2_with fail
        refine hs.out.mono ?_
        rintro e w5 ⟨rfl, hd5, hk5⟩
        go_wp2_with fail
        go_roundw
        case rel => exact ⟨i, j - i, _, hi0, by omega, by omega, by omega, rfl, by go_num, hd5, by show _ = _; rw [he.out, Hr.out], Hk.out.trans hk5⟩
        case measure => simp [intOf]; omega
end Go.Proofs.Ytghaffafglfdlaa
