/- The walks of the reference of layer 2, bit by bit. -/
import Derived.Test.YtjjmnjgkodiibaaMCrEB
import Derived.Test.YtjjmnjgkodiibaaMStCr
namespace Go.Proofs.Ytjjmnjgkodiibaa
open Go.RowKit

theorem rstep_any (s b : Nat) (w : World) (hs : s < 4294967296) (hb : b < 256) :
    Calls Try.prog 97 #[.int .u32 (s : Int), .int .u8 (b : Int)] w fun e w' => e = .returned (.int .u32 (Crc.rstep s b : Nat)) ∧ w = w' := by
  by_cases h : s / 2147483648 = b
  · have hp : Hid (Crc.rstep s b = s * 2 % 4294967296) := by show _ = _; unfold Crc.rstep; rw [if_pos h]
    have hne : (((s : Int) / 2147483648) != (b : Int)) = false := by rw [bne_eq_false_iff_eq]; omega
    clear h
    go_enter Try.func97, Try.ntmps97
    go_wp2_with fail
    go_ret
    refine ⟨?_, rfl⟩
    rw [hp.out, show ((s * 2 % 4294967296 : Nat) : Int) = (s : Int) * 2 % 4294967296 from by omega]
    rfl
  · have hp : Hid (Crc.rstep s b = (s * 2 % 4294967296) ^^^ 2168537515) := by show _ = _; unfold Crc.rstep; rw [if_neg h]
    have hne : (((s : Int) / 2147483648) != (b : Int)) = true := by rw [bne_iff_ne]; omega
    have hx : bits .xor .u32 ((s : Int) * 2 % 4294967296) 2168537515 = (((s * 2 % 4294967296) ^^^ 2168537515 : Nat) : Int) := by
      rw [show ((s : Int) * 2 % 4294967296) = ((s * 2 % 4294967296 : Nat) : Int) from by omega]
      exact u32_xor_nat _ 2168537515 (by omega) (by omega)
    clear h
    go_enter Try.func97, Try.ntmps97
    go_wp2_with fail
    go_ret
    refine ⟨?_, rfl⟩
    rw [hp.out]
    rfl

set_option maxRecDepth 100000 in
theorem rmore_any (s0 : Nat) (A : Option Addr) (l : List UInt8) (n c : Nat) (w : World) (h0 : s0 < 4294967296) (hn : l.length = n) (hr : Rd w A (Bs l)) (hl : n ≤ 140737488355328) :
    Calls Try.prog 95 #[.int .u32 (s0 : Int), .slice A n c] w fun e w' => e = .returned (.int .u32 (Crc.more s0 l : Nat)) ∧ w = w' := by
  have hll := Lib.hid hn
  clear hn
  go_enter Try.func95, Try.ntmps95
  go_wp2_with fail
  go_loop [0, 5] (fun x i => ∃ (k : Nat), k ≤ n ∧ i = .int .i64 k ∧ x = .int .u32 (Crc.more s0 (l.take k) : Nat)) (fun _ i => n - (intOf i).toNat)
  case atStart => exact ⟨0, by omega, rfl, rfl⟩
  case round =>
    obtain ⟨k, hk, rfl, rfl⟩ := hrel
    have hm : Crc.more s0 (l.take k) < 4294967296 := Crc.more_lt _ h0
    by_cases hlt : k < n
    · obtain ⟨b, o, rfl, hb, hrr, hc⟩ := hr.get (k := k) (by rw [List.length_map, hll.out]; exact hlt)
      clear hr hrr
      have hs := Lib.hid (Crc.more_snoc s0 (l.take k) (l[k]'(by rw [hll.out]; exact hlt)))
      rw [List.getElem_map] at hc
      rw [← List.take_succ_eq_append_getElem (by rw [hll.out]; exact hlt)] at hs
      generalize Crc.more s0 (l.take k) = m at *
      generalize l[k]'(by rw [hll.out]; exact hlt) = ch at *
      have hb8 := Lib.hid (Crc.rbits_byte hm ch)
      unfold B at hc
      have hch := ch.toNat_lt
      go_wp2_with fail
      go_loop [0, 6, 7] (fun x y i => ∃ (j s q : Nat), j ≤ 8 ∧ s < 4294967296 ∧ q < 256 ∧ i = .int .i64 j ∧ x = .int .u32 (s : Int) ∧ y = .int .u8 (q : Int) ∧ Hid (Crc.rbits (8 - j) s q = Crc.byte m ch)) (fun _ _ i => 8 - (intOf i).toNat)
      case atStart => exact ⟨0, m, ch.toNat, by omega, hm, by omega, rfl, rfl, rfl, hb8.out⟩
      case round =>
        obtain ⟨j, s, q, hj, hs', hq, rfl, rfl, rfl, he⟩ := hrel
        by_cases hj8 : j < 8
        · go_wp2_with fail
          rw [show ((q : Int) / 128) = ((q / 128 : Nat) : Int) from by omega]
          refine (rstep_any s (q / 128) w hs' (by omega)).mono ?_
          rintro e w' ⟨rfl, rfl⟩
          go_wp2_with fail
          go_round
          case rel =>
            refine ⟨j + 1, Crc.rstep s (q / 128), q * 2 % 256, by omega, Crc.rstep_lt hs', by omega, by go_num, rfl, by go_num, ?_⟩
            have h := he.out
            rw [show 8 - j = (8 - (j + 1)) + 1 from by omega, Crc.rbits] at h
            exact h
          case measure => simp [intOf]; omega
        · obtain rfl : j = 8 := by omega
          have hf : Hid (s = Crc.byte m ch) := he.out
          go_wp2_with fail
          go_round
          case rel => exact ⟨k + 1, by omega, by go_num, by rw [hs.out, ← hf.out]⟩
          case measure => simp [intOf]; omega
    · obtain rfl : k = n := by omega
      have htk := Lib.hid (List.take_of_length_le (l := l) (i := k) (by rw [hll.out]; exact Nat.le_refl _))
      rw [htk.out] at *
      go_wp2_with fail
      go_ret
      exact ⟨rfl, rfl⟩

theorem rof_any (A : Option Addr) (l : List UInt8) (n c : Nat) (w : World) (hn : l.length = n) (hr : Rd w A (Bs l)) (hl : n ≤ 140737488355328) :
    Calls Try.prog 88 #[.slice A n c] w fun e w' => e = .returned (.int .u32 (Crc.of l : Nat)) ∧ w = w' := by
  go_enter Try.func88, Try.ntmps88
  go_wp2_with fail
  refine (rmore_any 4294967295 A l n c w (by omega) hn hr hl).mono ?_
  rintro e w' ⟨rfl, rfl⟩
  go_wp2_with fail
  go_ret
  exact ⟨rfl, rfl⟩

set_option maxRecDepth 100000 in
theorem rseal_any (A : Option Addr) (l : List UInt8) (n c : Nat) (w : World) (hn : l.length = n) (hr : Rd w A (Bs l)) (hl : n ≤ 1000000) :
    Calls Try.prog 72 #[.slice A n c] w fun e w' => ∃ A' c', e = .returned (.slice A' (n + 4) c') ∧ Own w' w.heap.size 5 1 A' (n + 4) c' (Bs (Crc.seal_ l)) ∧ Below w.heap.size w w' := by
  subst hn
  have hs := Crc.of_lt l
  go_enter Try.func72, Try.ntmps72
  go_wp2_with fail
  refine (rof_any A l _ c w rfl hr (by omega)).mono ?_
  rintro e w' ⟨rfl, rfl⟩
  go_wp2_with (first | (at_builtin; refine hold ?_) | (at_make; refine hold ?_))
  (with_reducible refine unhold ?_)
  have ho1 : Own (w.alloc (.cells #[] 5)) w.heap.size 5 1 (some ⟨w.heap.size, 0, none⟩) 0 0 [] := World.ownsRow_made w #[] 0 (Nat.le_refl _) (by unfold maxLen; omega) rfl
  have hr1 := hr.alloc (.cells #[] 5)
  have hb1 : Below w.heap.size w (w.alloc (.cells #[] 5)) := (Below.refl _ _).alloc (Nat.le_refl _) _
  refine wpList_apd rfl _ _ _ rfl E8 w.heap.size _ 0 _ [] rfl ho1 A l.length c (Bs l) rfl (by simp) hr1 (Bs_one l) l.length (by omega) (Bs l) rfl (by omega) (by omega) (by simp) ?_
  intro A2 c2 w2 ho2 hg2 hat2
  have hb2 : Below w.heap.size w w2 := hb1.grown hg2 (by simp) ho1.row_ge
  have hz2 := hb2.size
  go_wp2_with (first | (at_builtin; refine hold ?_) | (at_make; refine hold ?_))
  (with_reducible refine unhold ?_)
  refine wpList_apd rfl _ _ _ rfl E8 w.heap.size A2 l.length c2 (Bs l) rfl (ho2.alloc _) _ 4 _ _ rfl (by rfl) (Rd.new _ _ _) (by simp [Value.oneCell']) (l.length + 4) rfl (Bs (Crc.seal_ l)) ?_ (by omega) (by omega) (by simp; omega) ?_
  · exact Crc.seal_cells l
  intro A3 c3 w3 ho3 hg3 hat3
  have hb3 : Below w.heap.size w w3 := (hb2.alloc hz2 _).grown hg3 (by simp; omega) (fun k hk => ho2.row_ge k hk)
  go_wp2_with fail
  go_ret
  exact ⟨A3, c3, rfl, ho3, hb3⟩
end Go.Proofs.Ytjjmnjgkodiibaa
