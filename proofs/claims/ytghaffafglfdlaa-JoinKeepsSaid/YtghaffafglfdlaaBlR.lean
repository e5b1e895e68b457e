/- Walks: the reference's filter. -/
import Derived.Test.YtghaffafglfdlaaBlA
namespace Go.Proofs.Ytghaffafglfdlaa
open Go.RowKit

attribute [local go_sem ↓] Go.wp_at_zero Go.wp_at_succ

/-- Numbers' cells. -/
def Ns (l : List Nat) : List Value := l.map fun k : Nat => .int .i64 (k : Int)
theorem Ns_one (l : List Nat) : ∀ u ∈ Ns l, u.oneCell' = true := by
  intro u hu
  obtain ⟨k, _, rfl⟩ := List.mem_map.1 hu
  rfl
theorem EintB : ElemT Try.prog 72 3 1 8 (.int .i64 0) := ElemT.mk' (by kernel_rfl) (by kernel_rfl) rfl (by omega)
theorem placesV_len (m n : Nat) (v : Va) : (placesV m n v).length = n := by simp [placesV]
theorem placesV_succ (m t : Nat) (v : Va) : placesV m (t + 1) v = placesV m t v ++ [placeV m v t] := by
  unfold placesV
  rw [List.range_succ, List.map_append]
  rfl

set_option maxHeartbeats 4000000 in
set_option maxRecDepth 100000 in
theorem places_any (m n : Nat) (v : Va) (w : World) (h1 : 1 ≤ m) (h2 : m ≤ 8192) (h4 : n ≤ 8) (hv : rightV v = true) (hok : v.ok) :
    Calls Try.prog 38 #[v.agg, .int .i64 (m : Int), .int .i64 (n : Int)] w fun e w' => ∃ A c, e = .returned (.slice A n c) ∧ Own w' w.heap.size 3 1 A n c (Ns (placesV m n v)) ∧ Below w.heap.size w w' := by
  have hbA : Below w.heap.size w (w.alloc (.cells #[.int .u8 v.k, .int .i64 v.n, .string (St8 v.s)] 30)) := (Below.refl _ _).alloc (Nat.le_refl _) _
  have hkA := Lib.hid (Blk.new w 30 #[.int .u8 v.k, .int .i64 v.n, .string (St8 v.s)])
  have hbA' := Lib.hid hbA
  have Hv := Lib.hid hv
  have Hok := Lib.hid hok
  have hz := hbA.size
  clear hbA hv hok
  unfold Va.agg
  go_enter Try.func38, Try.ntmps38
  go_wp2_with fail
  go_loopw [7, 8] (fun s i wr => ∃ (t : Nat) (A : Option Addr) (c : Nat), t ≤ n ∧ i = .int .i64 (t : Int) ∧ s = .slice A t c ∧ w.heap.size ≤ wr.heap.size ∧ Hid (Own wr w.heap.size 3 1 A t c (Ns (placesV m t v)) ∧ Below w.heap.size w wr ∧ Blk wr w.heap.size 30 [.int .u8 v.k, .int .i64 v.n, .string (St8 v.s)])) (fun _ i _ => n - (intOf i).toNat)
  case atStart => exact ⟨0, none, 0, by omega, by go_num, rfl, hz, Own.nil _ _ _ _, hbA'.out, hkA.out⟩
  case round =>
    clear hkA hbA' hz
    obtain ⟨t, A, c, ht, rfl, rfl, hzr, hrest⟩ := hrel
    by_cases hlt : t < n
    · have hnx := Lib.hid (placesV_succ m t v)
      have hh := Lib.hid (fun w1 => rhash_any v t w1 Hv.out Hok.out (by omega))
      have hP : Hid (placeV m v t = hashV v t % m) := rfl
      have hltp := placeV_lt (show 0 < m by omega) v t
      have hhl := hashV_lt v (seed := t) (by omega)
      generalize hashV v t = H at *
      generalize placeV m v t = R at *
      obtain ⟨ho, hb, hk⟩ := hrest.out
      have k0 := hk.cell 0
      have k1 := hk.cell 1
      have k2 := hk.cell 2
      simp only [List.getElem?_cons_zero, List.getElem?_cons_succ] at k0 k1 k2
      have hw1 : IntKind.u64.wrap ((t : Nat) : Int) = ((t : Nat) : Int) := by rw [IntKind.wrap_u64]; omega
      have hw2 : IntKind.u64.wrap ((m : Nat) : Int) = ((m : Nat) : Int) := by rw [IntKind.wrap_u64]; omega
      have hw3 : (H : Int) % (m : Int) = (R : Int) := by rw [hP.out]; simp
      have hw5 : IntKind.i64.wrap (R : Int) = (R : Int) := by rw [IntKind.wrap_i64]; omega
      have hm0 : ((m : Int) == 0) = false := by rw [beq_eq_false_iff_ne]; omega
      have hm00 : ¬ (m : Int) = 0 := by omega
      have hm01 : ¬ m = 0 := by omega
      have hw6 : (H : Int).tmod (m : Int) = (R : Int) := by rw [Int.tmod_eq_emod_of_nonneg (by omega), hw3]
      have hw7 : IntKind.u64.wrap (R : Int) = (R : Int) := by rw [IntKind.wrap_u64]; omega
      have Ho := Lib.hid ho
      have Hb := Lib.hid hb
      have Hk := Lib.hid hk
      clear ho hb hk
      go_wp2_with fail
      have hhw := hh.out wr
      unfold Va.agg at hhw
      refine hhw.mono ?_
      rintro e w2 ⟨rfl, hb2⟩
      have ho2 := Ho.out.below hb2
      have hb02 := Hb.out.trans (hb2.mono Hb.out.size)
      have hk2 := Hk.out.below hb2
      clear hhw hh
      have hb3 : Below w2.heap.size w2 (w2.alloc (.cells #[.int .i64 (R : Int)] 3)) := (Below.refl _ _).alloc (Nat.le_refl _) _
      have hn3 := (Blk.new w2 3 #[.int .i64 (R : Int)]).range
      have ho3 := ho2.below hb3
      have hb03 := hb02.trans (hb3.mono hb02.size)
      have hk3 := hk2.below hb3
      clear ho2 hb02 hk2 hb3
      go_wp2_with (first | (at_builtin; refine hold ?_) | (at_make; refine hold ?_))
      (with_reducible refine unhold ?_)
      refine wpList_apd rfl _ _ _ rfl EintB w.heap.size _ t _ _ rfl ho3 _ 1 _ [.int .i64 (R : Int)] rfl rfl (fun _ => ⟨_, _, rfl, hn3⟩) (by simp [Value.oneCell']) (t + 1) rfl (Ns (placesV m (t + 1) v)) (by rw [hnx.out]; simp [Ns]) (by omega) (by omega) hb03.size ?_
      intro A4 c4 w4 ho4 hg4 _
      have hb4 := hb03.grown hg4 hb03.size ho3.row_ge
      have hk4 : Blk w4 w.heap.size 30 _ := Blk.keeps hk3 (by decide) (ho3.apd_keeps hg4)
      clear ho3 hb03 hk3 hg4 hn3
      go_wp2_with fail
      go_roundw
      case rel => exact ⟨t + 1, A4, c4, by omega, by go_num, rfl, hb4.size, ho4, hb4, hk4⟩
      case measure => first | (simp [intOf]; done) | (simp [intOf]; omega)
    · obtain rfl : t = n := by omega
      go_wp2_with fail
      go_ret
      exact ⟨_, _, rfl, hrest.out.1, hrest.out.2.1⟩
end Go.Proofs.Ytghaffafglfdlaa
