/- The sum by a table of bytes is the sum bit by bit; a sum tells every burst of up to 32 bits. A sum tells every burst: bits turned within 32 leave no page whole. -/
import Derived.Test.YtojppmnmhdgnnaaMBaCr
namespace Go.Proofs.Ytojppmnmhdgnnaa
set_option linter.unusedVariables false
set_option linter.unusedSimpArgs false
namespace Crc

theorem xor_mul2 (a b : Nat) : (a ^^^ b) * 2 = a * 2 ^^^ b * 2 := by
  have := Nat.shiftLeft_xor_distrib (a := a) (b := b) (i := 1)
  simpa [Nat.shiftLeft_eq] using this
theorem xor_mod32 (a b : Nat) : (a ^^^ b) % 4294967296 = (a % 4294967296) ^^^ (b % 4294967296) := Nat.xor_mod_two_pow (n := 32)
theorem xor_div31 (a b : Nat) : (a ^^^ b) / 2147483648 = (a / 2147483648) ^^^ (b / 2147483648) := by
  have := Nat.shiftRight_xor_distrib (a := a) (b := b) (i := 31)
  simpa [Nat.shiftRight_eq_div_pow] using this
theorem xor_div24 (a b : Nat) : (a ^^^ b) / 16777216 = (a / 16777216) ^^^ (b / 16777216) := by
  have := Nat.shiftRight_xor_distrib (a := a) (b := b) (i := 24)
  simpa [Nat.shiftRight_eq_div_pow] using this
theorem xor_mul24 (a b : Nat) : (a ^^^ b) * 16777216 = a * 16777216 ^^^ b * 16777216 := by
  have := Nat.shiftLeft_xor_distrib (a := a) (b := b) (i := 24)
  simpa [Nat.shiftLeft_eq] using this
/-- A product with one bit. -/
theorem bit_mul (a b P : Nat) (ha : a < 2) (hb : b < 2) : (a ^^^ b) * P = a * P ^^^ b * P := by
  have ha' : a = 0 ∨ a = 1 := by omega
  have hb' : b = 0 ∨ b = 1 := by omega
  rcases ha' with rfl | rfl <;> rcases hb' with rfl | rfl <;> simp

/-- A turn is linear. -/
theorem turn1_xor {a b : Nat} (ha : a < 4294967296) (hb : b < 4294967296) : turn1 (a ^^^ b) = turn1 a ^^^ turn1 b := by
  unfold turn1
  rw [xor_mul2, xor_mod32, xor_div31, bit_mul _ _ _ (by omega) (by omega)]
  ac_rfl
theorem xor_lt {a b : Nat} (ha : a < 4294967296) (hb : b < 4294967296) : a ^^^ b < 4294967296 := Nat.xor_lt_two_pow (n := 32) ha hb
theorem turnN_xor : ∀ (k : Nat) {a b : Nat}, a < 4294967296 → b < 4294967296 → turnN k (a ^^^ b) = turnN k a ^^^ turnN k b
  | 0, _, _, _, _ => rfl
  | k + 1, a, b, ha, hb => by
    rw [turnN, turnN, turnN, turn1_xor ha hb]
    exact turnN_xor k (turn1_lt ha) (turn1_lt hb)
/-- While nothing falls out a turn doubles. -/
theorem turnN_small : ∀ (k n : Nat), n * 2 ^ k < 4294967296 → turnN k n = n * 2 ^ k
  | 0, n, _ => by simp [turnN]
  | k + 1, n, h => by
    have h1 : n * 2 < 4294967296 := by
      have : n * 2 ≤ n * 2 ^ (k + 1) := Nat.mul_le_mul_left _ (by have := Nat.one_le_two_pow (n := k); rw [Nat.pow_succ]; omega)
      omega
    have e : turn1 n = n * 2 := by
      unfold turn1
      rw [Nat.mod_eq_of_lt h1, Nat.div_eq_of_lt (by omega)]
      simp
    rw [turnN, e, turnN_small k _ (by rw [Nat.mul_assoc, ← Nat.pow_succ']; exact h), Nat.mul_assoc, ← Nat.pow_succ']

theorem hilo (s n : Nat) : (s / 2 ^ n) * 2 ^ n ^^^ s % 2 ^ n = s := by
  apply Nat.eq_of_testBit_eq
  intro j
  rw [Nat.testBit_xor, Nat.testBit_mul_two_pow, Nat.testBit_mod_two_pow, Nat.testBit_div_two_pow]
  by_cases h : j < n
  · simp [h, Nat.not_le.2 h]
  · have h' : n ≤ j := by omega
    simp [h, h', Nat.sub_add_cancel h']

/-- A byte laid on top, and eight turns. -/
theorem byte_turn {s : Nat} (hs : s < 4294967296) (c : UInt8) : byte s c = turnN 8 (s ^^^ c.toNat * 16777216) := by
  have hc := c.toNat_lt
  have hi := idx_lt hs c
  have e : s ^^^ c.toNat * 16777216 = ((s / 16777216) ^^^ c.toNat) * 16777216 ^^^ s % 16777216 := by
    have h1 : (s / 16777216) * 16777216 ^^^ s % 16777216 = s := hilo s 24
    rw [xor_mul24]
    conv => lhs; rw [← h1]
    ac_rfl
  have hlo : turnN 8 (s % 16777216) = s % 16777216 * 256 := turnN_small 8 _ (by omega)
  rw [e, turnN_xor 8 (by omega) (by omega), hlo]
  unfold byte tab turn
  rw [show s % 16777216 * 256 = s * 256 % 4294967296 from by omega, Nat.xor_comm]

/-! ### The reference, bit by bit -/
def rstep (s b : Nat) : Nat := if s / 2147483648 = b then s * 2 % 4294967296 else (s * 2 % 4294967296) ^^^ 2168537515
def rbits : Nat → Nat → Nat → Nat
  | 0, s, _ => s
  | k + 1, s, c => rbits k (rstep s (c / 128)) (c * 2 % 256)
def rmore (s : Nat) (l : List UInt8) : Nat := l.foldl (fun s c => rbits 8 s c.toNat) s

theorem rstep_lt {s b : Nat} (_h : s < 4294967296) : rstep s b < 4294967296 := by
  unfold rstep
  split
  · omega
  · exact Nat.xor_lt_two_pow (n := 32) (by omega) (by omega)
theorem rstep_turn {s c : Nat} (hs : s < 4294967296) (hc : c < 256) : turn1 (s ^^^ c * 16777216) = rstep s (c / 128) ^^^ (c * 2 % 256) * 16777216 := by
  rw [turn1_xor hs (by omega)]
  unfold turn1 rstep
  have h1 : c * 16777216 * 2 % 4294967296 = (c * 2 % 256) * 16777216 := by omega
  have h2 : c * 16777216 / 2147483648 = c / 128 := by omega
  rw [h1, h2]
  have a2 : s / 2147483648 = 0 ∨ s / 2147483648 = 1 := by omega
  have b2 : c / 128 = 0 ∨ c / 128 = 1 := by omega
  rcases a2 with ha | ha <;> rcases b2 with hb | hb <;> rw [ha, hb] <;> simp
  · ac_rfl
  · refine Eq.trans (b := 2168537515 ^^^ (2168537515 ^^^ (s * 2 % 4294967296 ^^^ (c * 2 % 256) * 16777216))) (by ac_rfl) ?_
    rw [← Nat.xor_assoc, Nat.xor_self, Nat.zero_xor]
theorem rbits_turn : ∀ (k s c : Nat), s < 4294967296 → c < 256 → turnN k (s ^^^ c * 16777216) = rbits k s c ^^^ (c * 2 ^ k % 256) * 16777216
  | 0, s, c, _, hc => by simp [turnN, rbits, Nat.mod_eq_of_lt hc]
  | k + 1, s, c, hs, hc => by
    rw [turnN, rstep_turn hs hc, rbits_turn k _ _ (rstep_lt hs) (by omega), rbits]
    congr 2
    rw [Nat.pow_succ', ← Nat.mul_assoc, Nat.mod_mul_mod]
theorem rbits_byte {s : Nat} (hs : s < 4294967296) (c : UInt8) : rbits 8 s c.toNat = byte s c := by
  have hc := c.toNat_lt
  rw [byte_turn hs c, rbits_turn 8 s _ hs (by omega), show c.toNat * 2 ^ 8 % 256 = 0 from by omega]
  simp
theorem rmore_more : ∀ (l : List UInt8) (s : Nat), s < 4294967296 → rmore s l = more s l
  | [], _, _ => rfl
  | c :: l, s, hs => by
    have h := rbits_byte hs c
    show rmore (rbits 8 s c.toNat) l = more (byte s c) l
    rw [h]
    exact rmore_more l _ (byte_lt hs c)
theorem rmore_snoc (s : Nat) (l : List UInt8) (c : UInt8) : rmore s (l ++ [c]) = rbits 8 (rmore s l) c.toNat := by simp [rmore]
end Crc
end Go.Proofs.Ytojppmnmhdgnnaa
namespace Go.Proofs.Ytojppmnmhdgnnaa
set_option linter.unusedVariables false
set_option linter.unusedSimpArgs false
namespace Crc

theorem xor_zero_eq {a b : Nat} (h : a ^^^ b = 0) : a = b := by
  have := congrArg (· ^^^ b) h
  simpa [Nat.xor_assoc] using this
theorem turn1_zero {n : Nat} (h : n < 4294967296) (h0 : turn1 n = 0) : n = 0 := by
  unfold turn1 at h0
  have h2 : n / 2147483648 = 0 ∨ n / 2147483648 = 1 := by omega
  have h3 := @xor_zero_eq (n * 2 % 4294967296) (n / 2147483648 * 2168537515) h0
  clear h0
  generalize hq : n / 2147483648 = q at *
  rcases h2 with rfl | rfl
  · rw [Nat.zero_mul] at h3
    omega
  · rw [Nat.one_mul] at h3
    omega
theorem turnN_zero : ∀ (k : Nat) {n : Nat}, n < 4294967296 → turnN k n = 0 → n = 0
  | 0, _, _, h0 => h0
  | k + 1, n, h, h0 => by
    rw [turnN] at h0
    exact turn1_zero h (turnN_zero k (turn1_lt h) h0)
theorem turnN_of_zero : ∀ k, turnN k 0 = 0
  | 0 => rfl
  | k + 1 => by rw [turnN]; exact turnN_of_zero k
theorem turnN_add : ∀ (j k n : Nat), turnN (j + k) n = turnN k (turnN j n)
  | 0, k, n => by rw [Nat.zero_add]; rfl
  | j + 1, k, n => by rw [Nat.add_right_comm, turnN, turnN, turnN_add j]
theorem byte_xor {a b : Nat} (ha : a < 4294967296) (hb : b < 4294967296) (c : UInt8) : byte (a ^^^ b) c = byte a c ^^^ turnN 8 b := by
  have hc := c.toNat_lt
  rw [byte_turn (xor_lt ha hb), byte_turn ha, ← turnN_xor 8 (xor_lt ha (by omega)) hb]
  congr 1
  ac_rfl
theorem more_xor : ∀ (l : List UInt8) {a b : Nat}, a < 4294967296 → b < 4294967296 → more (a ^^^ b) l = more a l ^^^ turnN (8 * l.length) b
  | [], _, _, _, _ => rfl
  | c :: l, a, b, ha, hb => by
    show more (byte (a ^^^ b) c) l = more (byte a c) l ^^^ _
    rw [byte_xor ha hb, more_xor l (byte_lt ha c) (turnN_lt 8 hb), List.length_cons, show 8 * (l.length + 1) = 8 + 8 * l.length from by omega, turnN_add]
theorem more_set : ∀ (l : List UInt8) (q : Nat) (m : UInt8) (s : Nat), q < l.length → s < 4294967296 →
    more s (l.set q (l.getD q 0 ^^^ m)) = more s l ^^^ turnN (8 * (l.length - q)) (m.toNat * 16777216)
  | [], _, _, _, h, _ => by simp at h
  | c :: l, 0, m, s, _, hs => by
    have hm := m.toNat_lt
    have hc := c.toNat_lt
    show more (byte s (c ^^^ m)) l = more (byte s c) l ^^^ _
    have e : byte s (c ^^^ m) = byte s c ^^^ turnN 8 (m.toNat * 16777216) := by
      rw [byte_turn hs, byte_turn hs, ← turnN_xor 8 (xor_lt hs (by omega)) (by omega), UInt8.toNat_xor, xor_mul24]
      congr 1
      ac_rfl
    rw [e, more_xor l (byte_lt hs c) (turnN_lt 8 (by omega)), List.length_cons, show 8 * (l.length + 1 - 0) = 8 + 8 * l.length from by omega, turnN_add]
  | c :: l, q + 1, m, s, h, hs => by
    have := more_set l q m (byte s c) (by simpa using h) (byte_lt hs c)
    simp only [List.length_cons, Nat.add_sub_add_right]
    exact this
theorem byte_top {s : Nat} (hs : s < 4294967296) {c : UInt8} (hc : c.toNat = s / 16777216) : byte s c = s * 256 % 4294967296 := by
  unfold byte
  rw [hc, Nat.xor_self, show tab 0 = 0 from by decide +kernel, Nat.xor_zero]
theorem more_own {s : Nat} (hs : s < 4294967296) : more s [part s 3, part s 2, part s 1, part s 0] = 0 := by
  show byte (byte (byte (byte s (part s 3)) (part s 2)) (part s 1)) (part s 0) = 0
  have h1 := byte_top hs (c := part s 3) (by rw [part_toNat]; omega)
  have h2 := byte_top (s := s * 256 % 4294967296) (by omega) (c := part s 2) (by rw [part_toNat]; omega)
  have h3 := byte_top (s := s * 256 % 4294967296 * 256 % 4294967296) (by omega) (c := part s 1) (by rw [part_toNat]; omega)
  have h4 := byte_top (s := s * 256 % 4294967296 * 256 % 4294967296 * 256 % 4294967296) (by omega) (c := part s 0) (by rw [part_toNat]; omega)
  rw [h1, h2, h3, h4]
  omega
theorem more_seal (l : List UInt8) : more 4294967295 (seal_ l) = 0 := by
  unfold seal_ more
  rw [List.foldl_append]
  exact more_own (of_lt l)
/-- One bit that is turned, of a window of 32 that begins at a bit. -/
theorem more_bit (l : List UInt8) (h : l.length = 64) (m : UInt8) (q r f i : Nat) (hi : i < 32) (hr : r < 8) (hk : f + i = 8 * q + r) (hq : q < 64) (hm : m.toNat = 2 ^ (7 - r)) :
    more 4294967295 (l.set q (l.getD q 0 ^^^ m)) = more 4294967295 l ^^^ turnN (512 - f) (2 ^ (31 - i)) := by
  rw [more_set l q m _ (by omega) (by omega), hm, h]
  congr 1
  have top : ∀ j, j ≤ 31 → turnN j (2 ^ (31 - j)) = 2147483648 := by
    intro j hj
    rw [turnN_small j _ (by rw [← Nat.pow_add, Nat.sub_add_cancel hj]; decide), ← Nat.pow_add, Nat.sub_add_cancel hj]
  have e1 : 2 ^ (7 - r) * 16777216 = 2 ^ (31 - r) := by
    rw [show 16777216 = 2 ^ 24 from rfl, ← Nat.pow_add]
    congr 1
    omega
  rw [e1, show 8 * (64 - q) = r + (512 - (f + i)) from by omega, turnN_add, top r (by omega), show 512 - f = i + (512 - (f + i)) from by omega, turnN_add, top i (by omega)]

/-- What has been turned of a window: bits from the top. -/
structure Win (i V : Nat) : Prop where
  lt : V < 4294967296
  low : ∀ j, j < 32 - i → V.testBit j = false
theorem Win.zero (i : Nat) : Win i 0 := ⟨by omega, fun _ _ => by simp⟩
theorem Win.skip {i V : Nat} (h : Win i V) : Win (i + 1) V := ⟨h.lt, fun j hj => h.low j (by omega)⟩
theorem Win.take {i V : Nat} (h : Win i V) (hi : i < 32) : Win (i + 1) (V ^^^ 2 ^ (31 - i)) ∧ V ^^^ 2 ^ (31 - i) ≠ 0 := by
  refine ⟨⟨xor_lt h.lt ?_, fun j hj => ?_⟩, fun e => ?_⟩
  · exact Nat.lt_of_le_of_lt (Nat.pow_le_pow_right (by omega) (show 31 - i ≤ 31 by omega)) (by omega)
  · rw [Nat.testBit_xor, h.low j (by omega), Nat.testBit_two_pow_of_ne (by omega)]
    rfl
  · have := congrArg (fun n => n.testBit (31 - i)) e
    simp only [Nat.testBit_xor, h.low (31 - i) (by omega), Nat.testBit_two_pow_self] at this
    simp at this
end Crc
end Go.Proofs.Ytojppmnmhdgnnaa
