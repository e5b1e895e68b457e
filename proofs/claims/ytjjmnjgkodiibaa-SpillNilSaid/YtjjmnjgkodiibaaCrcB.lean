/- A sum tells every burst: bits turned within 32 leave no page whole. -/
import Derived.Test.YtjjmnjgkodiibaaCrcE
namespace Go.Proofs.Ytjjmnjgkodiibaa
namespace Crc

theorem xor_zero_eq {a b : Nat} (h : a ^^^ b = 0) : a = b := by
  have := congrArg (· ^^^ b) h
  simpa [Nat.xor_assoc] using this
theorem turn1_zero {n : Nat} (h : n < 4294967296) (h0 : turn1 n = 0) : n = 0 := by
  unfold turn1 at h0
  have h2 : n / 2147483648 = 0 ∨ n / 2147483648 = 1 := by omega
  have h3 := @xor_zero_eq (n * 2 % 4294967296) (n / 2147483648 * 2168537515) h0
  clear h0
  generalize hq : n / 2147483648 = q at *
  rcases h2 with rfl | rfl
  · rw [Nat.zero_mul] at h3
    omega
  · rw [Nat.one_mul] at h3
    omega
theorem turnN_zero : ∀ (k : Nat) {n : Nat}, n < 4294967296 → turnN k n = 0 → n = 0
  | 0, _, _, h0 => h0
  | k + 1, n, h, h0 => by
    rw [turnN] at h0
    exact turn1_zero h (turnN_zero k (turn1_lt h) h0)
theorem turnN_of_zero : ∀ k, turnN k 0 = 0
  | 0 => rfl
  | k + 1 => by rw [turnN]; exact turnN_of_zero k
theorem turnN_add : ∀ (j k n : Nat), turnN (j + k) n = turnN k (turnN j n)
  | 0, k, n => by rw [Nat.zero_add]; rfl
  | j + 1, k, n => by rw [Nat.add_right_comm, turnN, turnN, turnN_add j]
theorem byte_xor {a b : Nat} (ha : a < 4294967296) (hb : b < 4294967296) (c : UInt8) : byte (a ^^^ b) c = byte a c ^^^ turnN 8 b := by
  have hc := c.toNat_lt
  rw [byte_turn (xor_lt ha hb), byte_turn ha, ← turnN_xor 8 (xor_lt ha (by omega)) hb]
  congr 1
  ac_rfl
theorem more_xor : ∀ (l : List UInt8) {a b : Nat}, a < 4294967296 → b < 4294967296 → more (a ^^^ b) l = more a l ^^^ turnN (8 * l.length) b
  | [], _, _, _, _ => rfl
  | c :: l, a, b, ha, hb => by
    show more (byte (a ^^^ b) c) l = more (byte a c) l ^^^ _
    rw [byte_xor ha hb, more_xor l (byte_lt ha c) (turnN_lt 8 hb), List.length_cons, show 8 * (l.length + 1) = 8 + 8 * l.length from by omega, turnN_add]
theorem more_set : ∀ (l : List UInt8) (q : Nat) (m : UInt8) (s : Nat), q < l.length → s < 4294967296 →
    more s (l.set q (l.getD q 0 ^^^ m)) = more s l ^^^ turnN (8 * (l.length - q)) (m.toNat * 16777216)
  | [], _, _, _, h, _ => by simp at h
  | c :: l, 0, m, s, _, hs => by
    have hm := m.toNat_lt
    have hc := c.toNat_lt
    show more (byte s (c ^^^ m)) l = more (byte s c) l ^^^ _
    have e : byte s (c ^^^ m) = byte s c ^^^ turnN 8 (m.toNat * 16777216) := by
      rw [byte_turn hs, byte_turn hs, ← turnN_xor 8 (xor_lt hs (by omega)) (by omega), UInt8.toNat_xor, xor_mul24]
      congr 1
      ac_rfl
    rw [e, more_xor l (byte_lt hs c) (turnN_lt 8 (by omega)), List.length_cons, show 8 * (l.length + 1 - 0) = 8 + 8 * l.length from by omega, turnN_add]
  | c :: l, q + 1, m, s, h, hs => by
    have := more_set l q m (byte s c) (by simpa using h) (byte_lt hs c)
    simp only [List.length_cons, Nat.add_sub_add_right]
    exact this
theorem byte_top {s : Nat} (hs : s < 4294967296) {c : UInt8} (hc : c.toNat = s / 16777216) : byte s c = s * 256 % 4294967296 := by
  unfold byte
  rw [hc, Nat.xor_self, show tab 0 = 0 from by decide +kernel, Nat.xor_zero]
theorem more_own {s : Nat} (hs : s < 4294967296) : more s [part s 3, part s 2, part s 1, part s 0] = 0 := by
  show byte (byte (byte (byte s (part s 3)) (part s 2)) (part s 1)) (part s 0) = 0
  have h1 := byte_top hs (c := part s 3) (by rw [part_toNat]; omega)
  have h2 := byte_top (s := s * 256 % 4294967296) (by omega) (c := part s 2) (by rw [part_toNat]; omega)
  have h3 := byte_top (s := s * 256 % 4294967296 * 256 % 4294967296) (by omega) (c := part s 1) (by rw [part_toNat]; omega)
  have h4 := byte_top (s := s * 256 % 4294967296 * 256 % 4294967296 * 256 % 4294967296) (by omega) (c := part s 0) (by rw [part_toNat]; omega)
  rw [h1, h2, h3, h4]
  omega
theorem more_seal (l : List UInt8) : more 4294967295 (seal_ l) = 0 := by
  unfold seal_ more
  rw [List.foldl_append]
  exact more_own (of_lt l)
/-- One bit that is turned, of a window of 32 that begins at a bit. -/
theorem more_bit (l : List UInt8) (h : l.length = 64) (m : UInt8) (q r f i : Nat) (hi : i < 32) (hr : r < 8) (hk : f + i = 8 * q + r) (hq : q < 64) (hm : m.toNat = 2 ^ (7 - r)) :
    more 4294967295 (l.set q (l.getD q 0 ^^^ m)) = more 4294967295 l ^^^ turnN (512 - f) (2 ^ (31 - i)) := by
  rw [more_set l q m _ (by omega) (by omega), hm, h]
  congr 1
  have top : ∀ j, j ≤ 31 → turnN j (2 ^ (31 - j)) = 2147483648 := by
    intro j hj
    rw [turnN_small j _ (by rw [← Nat.pow_add, Nat.sub_add_cancel hj]; decide), ← Nat.pow_add, Nat.sub_add_cancel hj]
  have e1 : 2 ^ (7 - r) * 16777216 = 2 ^ (31 - r) := by
    rw [show 16777216 = 2 ^ 24 from rfl, ← Nat.pow_add]
    congr 1
    omega
  rw [e1, show 8 * (64 - q) = r + (512 - (f + i)) from by omega, turnN_add, top r (by omega), show 512 - f = i + (512 - (f + i)) from by omega, turnN_add, top i (by omega)]

/-- What has been turned of a window: bits from the top. -/
structure Win (i V : Nat) : Prop where
  lt : V < 4294967296
  low : ∀ j, j < 32 - i → V.testBit j = false
theorem Win.zero (i : Nat) : Win i 0 := ⟨by omega, fun _ _ => by simp⟩
theorem Win.skip {i V : Nat} (h : Win i V) : Win (i + 1) V := ⟨h.lt, fun j hj => h.low j (by omega)⟩
theorem Win.take {i V : Nat} (h : Win i V) (hi : i < 32) : Win (i + 1) (V ^^^ 2 ^ (31 - i)) ∧ V ^^^ 2 ^ (31 - i) ≠ 0 := by
  refine ⟨⟨xor_lt h.lt ?_, fun j hj => ?_⟩, fun e => ?_⟩
  · exact Nat.lt_of_le_of_lt (Nat.pow_le_pow_right (by omega) (show 31 - i ≤ 31 by omega)) (by omega)
  · rw [Nat.testBit_xor, h.low j (by omega), Nat.testBit_two_pow_of_ne (by omega)]
    rfl
  · have := congrArg (fun n => n.testBit (31 - i)) e
    simp only [Nat.testBit_xor, h.low (31 - i) (by omega), Nat.testBit_two_pow_self] at this
    simp at this
end Crc
end Go.Proofs.Ytjjmnjgkodiibaa
