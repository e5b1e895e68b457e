/- Strings of bytes as lists; slices of bytes. The walks of package crc: each function computes what the plain functions say, and turns nothing that was there. -/
import Derived.Test.YtjjmnjgkodiibaaMBaCr
import Derived.Test.YtjjmnjgkodiibaaChecked
import Derived.Laws.IdiomStrings
namespace Go.Proofs.Ytjjmnjgkodiibaa
open Go.RowKit

/-- A string of these bytes. -/
def St8 (l : List UInt8) : ByteArray := ⟨l.toArray⟩
theorem St8_list (l : List UInt8) : (St8 l).toList = l := by rw [ByteArray.toList_eq]; rfl
theorem St8_inj {l m : List UInt8} (h : St8 l = St8 m) : l = m := by
  have := congrArg ByteArray.toList h
  rwa [St8_list, St8_list] at this
theorem St8_eq (l m : List UInt8) : (St8 l == St8 m) = decide (l = m) := by
  have e : (St8 l == St8 m) = (l.toArray == m.toArray) := rfl
  rw [e]
  by_cases h : l = m
  · subst h; simp
  · simp [h]
theorem St8_cmp (l m : List UInt8) : ((St8 l).toList == (St8 m).toList) = decide (l = m) := by
  rw [St8_list, St8_list]
  by_cases h : l = m
  · subst h; simp
  · simp [h]
theorem St8_size (l : List UInt8) : (St8 l).size = l.length := by simp [St8, ByteArray.size]

theorem E8 : ElemT Try.prog 58 5 1 1 (.int .u8 0) := ElemT.mk' (by kernel_rfl) (by kernel_rfl) rfl (by omega)
end Go.Proofs.Ytjjmnjgkodiibaa
namespace Go.Proofs.Ytjjmnjgkodiibaa
open Go.RowKit

theorem ret_u32 {a b : Nat} (h : a = b) : Ending.returned (.int .u32 (a : Int)) = .returned (.int .u32 (b : Int)) := by rw [h]

theorem crc_turn (n : Nat) (w : World) (h : n < 4294967296) :
    Calls Try.prog 98 #[.int .u32 (n : Int)] w fun e w' => e = .returned (.int .u32 (Crc.turn n : Nat)) ∧ w = w' := by
  go_enter Try.func98, Try.ntmps98
  go_wp2
  go_loop [0, 4] (fun x i => ∃ (k : Nat), k ≤ 8 ∧ i = .int .i64 k ∧ x = .int .u32 (Crc.turnN k n : Nat)) (fun _ i => 8 - (intOf i).toNat)
  case atStart => exact ⟨0, by omega, rfl, rfl⟩
  case round =>
    obtain ⟨k, hk, rfl, rfl⟩ := hrel
    have hm : Crc.turnN k n < 4294967296 := Crc.turnN_lt k h
    by_cases hlt : k < 8
    · have hs := Lib.hid (Crc.turnN_succ k n)
      generalize Crc.turnN k n = m at *
      go_wp2
      go_round
      case rel =>
        refine ⟨k + 1, by omega, by go_num, ?_⟩
        rw [hs.out]
        unfold Crc.turn1
        have e1 : ((m : Int) * 2 % 4294967296) = ((m * 2 % 4294967296 : Nat) : Int) := by omega
        have e2 : ((m : Int) / 2147483648 * 2168537515) = ((m / 2147483648 * 2168537515 : Nat) : Int) := by omega
        rw [e1, e2, u32_xor_nat _ _ (by omega) (by omega)]
      case measure => simp [intOf]; omega
    · obtain rfl : k = 8 := by omega
      go_wp2
      go_ret
      exact ⟨rfl, rfl⟩

theorem crc_zero (w : World) : (zeroValue 143).run Try.prog w = .ok (.agg (Crc.zrow 256 (.int .u32 0))) w := by kernel_rfl

set_option maxRecDepth 100000 in
theorem crc_made (w : World) :
    Calls Try.prog 96 #[] w fun e w' => e = .returned (.pointer (some ⟨w.heap.size, 0, none⟩)) ∧ w.alloc (.cells (Crc.row 256) 143) = w' := by
  have hz := fun w => crc_zero w
  rw [← Crc.row_zero] at hz
  go_enter Try.func96, Try.ntmps96
  go_wp2_with fail
  clear hz
  go_loopw [4] (fun i wr => ∃ (k : Nat), k ≤ 256 ∧ i = .int .i64 k ∧ wr = w.alloc (.cells (Crc.row k) 143)) (fun i _ => 256 - (intOf i).toNat)
  case atStart => exact ⟨0, by omega, rfl, rfl⟩
  case round =>
    obtain ⟨k, hk, rfl, rfl⟩ := hrel
    by_cases hlt : k < 256
    · have hc := Crc.row_get k k hlt
      rw [if_neg (by omega)] at hc
      have hs := Lib.hid (Crc.row_set k hlt)
      generalize Crc.row k = R at *
      go_wp2_with fail
      have e0 : ((k : Int) * 16777216) = ((k * 16777216 : Nat) : Int) := by omega
      rw [e0]
      clear e0
      refine (crc_turn _ _ (by omega)).mono ?_
      rintro e w' ⟨rfl, rfl⟩
      go_wp2
      go_roundw
      case rel => exact ⟨k + 1, by omega, by go_num, by rw [← hs.out]; rfl⟩
      case measure => simp [intOf]; omega
    · obtain rfl : k = 256 := by omega
      go_wp2
      go_ret
      exact ⟨rfl, rfl⟩

set_option maxRecDepth 100000 in
theorem crc_more (s0 : Nat) (A : Option Addr) (l : List UInt8) (c : Nat) (w : World) (h0 : s0 < 4294967296) (hr : Rd w A (Bs l)) (hl : l.length ≤ 140737488355328) :
    Calls Try.prog 94 #[.int .u32 (s0 : Int), .slice A l.length c] w fun e w' => e = .returned (.int .u32 (Crc.more s0 l : Nat)) ∧ w.alloc (.cells (Crc.row 256) 143) = w' := by
  go_enter Try.func94, Try.ntmps94
  go_wp2_with fail
  refine (crc_made _).mono ?_
  rintro e w' ⟨rfl, rfl⟩
  go_wp2_with fail
  go_loop [0, 11] (fun x i => ∃ (k : Nat), k ≤ l.length ∧ i = .int .i64 k ∧ x = .int .u32 (Crc.more s0 (l.take k) : Nat)) (fun _ i => l.length - (intOf i).toNat)
  case atStart => exact ⟨0, by omega, rfl, rfl⟩
  case round =>
    obtain ⟨k, hk, rfl, rfl⟩ := hrel
    have hm : Crc.more s0 (l.take k) < 4294967296 := Crc.more_lt _ h0
    by_cases hlt : k < l.length
    · obtain ⟨b, o, rfl, hb, hrr, hc⟩ := hr.get (k := k) (by simpa using hlt)
      clear hr hrr
      have hs := Lib.hid (Crc.more_snoc s0 (l.take k) l[k])
      rw [List.getElem_map] at hc
      rw [← List.take_succ_eq_append_getElem hlt] at hs
      generalize hmm : Crc.more s0 (l.take k) = m at *
      clear hmm
      unfold Crc.byte at hs
      generalize l[k] = ch at *
      have hi := Crc.idx_lt hm ch
      have hcb := ch.toNat_lt
      have hcx : bits .xor .u8 ((m : Int) / 16777216) (ch.toNat : Int) = ((m / 16777216 ^^^ ch.toNat : Nat) : Int) := by
        rw [show ((m : Int) / 16777216) = ((m / 16777216 : Nat) : Int) from by omega]
        exact u8_xor_nat _ _ (by omega) (by omega)
      generalize (m / 16777216) ^^^ ch.toNat = x at *
      have hcell := Crc.row_get 256 x hi
      rw [if_pos hi] at hcell
      have htl := Crc.tab_lt hi
      generalize Crc.tab x = y at *
      have hxx : bits .xor .u32 ((m : Int) * 256 % 4294967296) (y : Int) = ((m * 256 % 4294967296 ^^^ y : Nat) : Int) := by
        rw [show ((m : Int) * 256 % 4294967296) = ((m * 256 % 4294967296 : Nat) : Int) from by omega]
        exact u32_xor_nat _ _ (by omega) htl
      unfold B at hc
      generalize Crc.row 256 = R at *
      go_wp2_with fail
      go_round
      case rel => exact ⟨k + 1, by omega, by go_num, by rw [hs.out]⟩
      case measure => simp [intOf]; omega
    · obtain rfl : k = l.length := by omega
      go_wp2_with fail
      go_ret
      exact ⟨rfl, rfl⟩

theorem crc_of (A : Option Addr) (l : List UInt8) (c : Nat) (w : World) (hr : Rd w A (Bs l)) (hl : l.length ≤ 140737488355328) :
    Calls Try.prog 87 #[.slice A l.length c] w fun e w' => e = .returned (.int .u32 (Crc.of l : Nat)) ∧ w.alloc (.cells (Crc.row 256) 143) = w' := by
  go_enter Try.func87, Try.ntmps87
  go_wp2_with fail
  refine (crc_more 4294967295 A l c w (by omega) hr hl).mono ?_
  rintro e w' ⟨rfl, rfl⟩
  go_wp2_with fail
  go_ret
  exact ⟨rfl, rfl⟩

set_option maxRecDepth 100000 in
theorem crc_seal (A : Option Addr) (l : List UInt8) (n c : Nat) (w : World) (hn : l.length = n) (hr : Rd w A (Bs l)) (hl : n ≤ 1000000) :
    Calls Try.prog 71 #[.slice A n c] w fun e w' => ∃ A' c', e = .returned (.slice A' (n + 4) c') ∧ Own w' w.heap.size 5 1 A' (n + 4) c' (Bs (Crc.seal_ l)) ∧ Below w.heap.size w w' := by
  subst hn
  have hs := Crc.of_lt l
  go_enter Try.func71, Try.ntmps71
  go_wp2_with fail
  refine (crc_of A l c w hr (by omega)).mono ?_
  rintro e w' ⟨rfl, rfl⟩
  have hb0 : Below w.heap.size w (w.alloc (.cells (Crc.row 256) 143)) := (Below.refl _ _).alloc (Nat.le_refl _) _
  generalize w.alloc (.cells (Crc.row 256) 143) = w0 at *
  have hz0 := hb0.size
  go_wp2_with (first | (at_builtin; refine hold ?_) | (at_make; refine hold ?_))
  (with_reducible refine unhold ?_)
  refine wpList_mk0 rfl _ _ _ rfl E8 w.heap.size _ _ _ (l.length + 4) rfl rfl (by omega) (by omega) (by unfold maxLen; omega) hb0.size ?_
  intro w1 ho1 hb1 hlt1
  have hb01 := hb0.trans (hb1.mono hz0)
  have hr1 : Rd w1 A (Bs l) := hr.below hb01
  have hz1 := hb01.size
  go_wp2_with (first | (at_builtin; refine hold ?_) | (at_make; refine hold ?_))
  (with_reducible refine unhold ?_)
  refine wpList_apd rfl _ _ _ rfl E8 w.heap.size _ 0 _ [] rfl ho1 A l.length c (Bs l) rfl (by simp) hr1 (Bs_one l) l.length (by omega) (Bs l) rfl (by omega) (by omega) hz1 ?_
  intro A2 c2 w2 ho2 hg2 hat2
  have hb2 : Below w.heap.size w w2 := hb01.grown hg2 hz1 ho1.row_ge
  have hz2 := hb2.size
  go_wp2_with (first | (at_builtin; refine hold ?_) | (at_make; refine hold ?_))
  (with_reducible refine unhold ?_)
  refine wpList_apd rfl _ _ _ rfl E8 w.heap.size A2 l.length c2 (Bs l) rfl (ho2.alloc _) _ 4 _ _ rfl (by rfl) (Rd.new _ _ _) (by simp [Value.oneCell']) (l.length + 4) rfl (Bs (Crc.seal_ l)) ?_ (by omega) (by omega) (by simp; omega) ?_
  · exact Crc.seal_cells l
  intro A3 c3 w3 ho3 hg3 hat3
  have hb3 : Below w.heap.size w w3 := (hb2.alloc hz2 _).grown hg3 (by simp; omega) (fun k hk => ho2.row_ge k hk)
  go_wp2_with fail
  go_ret
  exact ⟨A3, c3, rfl, ho3, hb3⟩
end Go.Proofs.Ytjjmnjgkodiibaa
