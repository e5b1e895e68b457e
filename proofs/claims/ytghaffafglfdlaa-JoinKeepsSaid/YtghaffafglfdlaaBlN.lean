/- A filter's bits: plain data, and what both ways come to. -/
import Derived.Test.YtghaffafglfdlaaBlW
namespace Go.Proofs.Ytghaffafglfdlaa
open Go.RowKit

def bitAt (bs : List UInt8) (k : Nat) : Bool := decide ((bs.getD (k / 8) 0).toNat / 2 ^ (k % 8) % 2 = 1)
/-- Bytes with a bit made. -/
def setBit (bs : List UInt8) (k : Nat) : List UInt8 := bs.set (k / 8) (byteN ((bs.getD (k / 8) 0).toNat ||| 2 ^ (k % 8)))
/-- Bytes with the first bits of a value made. -/
def addN (m : Nat) (v : Va) : Nat → List UInt8 → List UInt8
  | 0, bs => bs
  | i + 1, bs => setBit (addN m v i bs) (placeV m v i)
/-- Whether a value's bits are made. -/
def mayB (m n : Nat) (v : Va) (bs : List UInt8) : Bool := (List.range n).all fun i => bitAt bs (placeV m v i)

theorem bitAt_eq (bs : List UInt8) (k : Nat) : bitAt bs k = (bs.getD (k / 8) 0).toNat.testBit (k % 8) := by
  unfold bitAt
  rw [Nat.testBit_eq_decide_div_mod_eq]
theorem pow8 (k : Nat) : 2 ^ (k % 8) < 256 := by
  have h : k % 8 < 8 := Nat.mod_lt _ (by omega)
  exact Nat.lt_of_lt_of_le (Nat.pow_lt_pow_right (by omega) h) (by decide)
theorem or_lt (x : UInt8) (k : Nat) : x.toNat ||| 2 ^ (k % 8) < 256 := Nat.or_lt_two_pow (n := 8) x.toNat_lt (pow8 k)
theorem setBit_len (bs : List UInt8) (k : Nat) : (setBit bs k).length = bs.length := by simp [setBit]
theorem addN_len (m : Nat) (v : Va) (i : Nat) (bs : List UInt8) : (addN m v i bs).length = bs.length := by
  induction i with
  | zero => rfl
  | succ i ih => rw [addN, setBit_len, ih]
theorem setBit_at (bs : List UInt8) {k : Nat} (hk : k / 8 < bs.length) (j : Nat) : bitAt (setBit bs k) j = (bitAt bs j || decide (j = k)) := by
  rw [bitAt_eq, bitAt_eq]
  unfold setBit
  by_cases h : j / 8 = k / 8
  · rw [h, List.getD_eq_getElem?_getD, List.getElem?_set_self hk, Option.getD_some, byteN_toNat, Nat.mod_eq_of_lt (or_lt _ _), Nat.testBit_or, Nat.testBit_two_pow]
    congr 1
    by_cases e : j = k
    · subst e; simp
    · have : k % 8 ≠ j % 8 := by omega
      simp [e, this]
  · have e : j ≠ k := by rintro rfl; exact h rfl
    rw [List.getD_eq_getElem?_getD, List.getD_eq_getElem?_getD, List.getElem?_set_ne (by omega)]
    simp [e]
theorem addN_at (m n : Nat) (v : Va) (bs : List UInt8) (hm : 0 < m) (hl : m ≤ 8 * bs.length) (j : Nat) : bitAt (addN m v n bs) j = (bitAt bs j || (List.range n).any fun i => decide (j = placeV m v i)) := by
  induction n with
  | zero => simp [addN]
  | succ n ih =>
    have := placeV_lt hm v n
    rw [addN, setBit_at _ (by rw [addN_len]; omega), ih, List.range_succ, List.any_append, Bool.or_assoc]
    simp
/-- Whether one of a list's values makes a bit. -/
def onV (m n : Nat) (vs : List Va) (j : Nat) : Bool := vs.any fun v => (List.range n).any fun i => decide (j = placeV m v i)
def addAll (m n : Nat) (vs : List Va) (bs : List UInt8) : List UInt8 := vs.foldl (fun b v => addN m v n b) bs
theorem addAll_len (m n : Nat) : ∀ (vs : List Va) (bs : List UInt8), (addAll m n vs bs).length = bs.length
  | [], _ => rfl
  | v :: vs, bs => by
    show (addAll m n vs (addN m v n bs)).length = _
    rw [addAll_len, addN_len]
theorem addAll_at (m n : Nat) (hm : 0 < m) (j : Nat) : ∀ (vs : List Va) (bs : List UInt8), m ≤ 8 * bs.length → bitAt (addAll m n vs bs) j = (bitAt bs j || onV m n vs j)
  | [], bs, _ => by simp [addAll, onV]
  | v :: vs, bs, hl => by
    show bitAt (addAll m n vs (addN m v n bs)) j = _
    rw [addAll_at m n hm j vs _ (by rw [addN_len]; exact hl), addN_at m n v bs hm hl, Bool.or_assoc]
    rfl
theorem bitAt_zero (K j : Nat) : bitAt (List.replicate K 0) j = false := by
  rw [bitAt_eq, List.getD_eq_getElem?_getD, List.getElem?_replicate]
  split <;> simp

/-! The reference's way: flags, laid as bytes at the end. -/
/-- Flags with a value's bits made. -/
def flagN (m : Nat) (v : Va) (n : Nat) (on : List Bool) : List Bool := (placesV m n v).foldl (fun l p => l.set p true) on
def flagAll (m n : Nat) (vs : List Va) (on : List Bool) : List Bool := vs.foldl (fun l v => flagN m v n l) on
/-- Bytes with a bit added. -/
def plusBit (bs : List UInt8) (k : Nat) : List UInt8 := bs.set (k / 8) (byteN ((bs.getD (k / 8) 0).toNat + 2 ^ (k % 8)))
/-- The first flags as bytes. -/
def packN (on : List Bool) : Nat → List UInt8 → List UInt8
  | 0, bs => bs
  | t + 1, bs => if on.getD t false then plusBit (packN on t bs) t else packN on t bs
theorem plusBit_len (bs : List UInt8) (k : Nat) : (plusBit bs k).length = bs.length := by simp [plusBit]
theorem packN_len (on : List Bool) (t : Nat) (bs : List UInt8) : (packN on t bs).length = bs.length := by
  induction t with
  | zero => rfl
  | succ t ih =>
    unfold packN
    split
    · rw [plusBit_len, ih]
    · exact ih
theorem fold_set_len (ps : List Nat) (on : List Bool) : (ps.foldl (fun l p => l.set p true) on).length = on.length := by
  induction ps generalizing on with
  | nil => rfl
  | cons p ps ih => rw [List.foldl_cons, ih, List.length_set]
theorem flagN_len (m : Nat) (v : Va) (n : Nat) (on : List Bool) : (flagN m v n on).length = on.length := fold_set_len _ _
theorem flagAll_len (m n : Nat) : ∀ (vs : List Va) (on : List Bool), (flagAll m n vs on).length = on.length
  | [], _ => rfl
  | v :: vs, on => by
    show (flagAll m n vs (flagN m v n on)).length = _
    rw [flagAll_len, flagN_len]
theorem fold_set_at (ps : List Nat) (on : List Bool) (h : ∀ p ∈ ps, p < on.length) (j : Nat) : (ps.foldl (fun l p => l.set p true) on).getD j false = (on.getD j false || ps.any fun p => decide (j = p)) := by
  induction ps generalizing on with
  | nil => simp
  | cons p ps ih =>
    rw [List.foldl_cons, ih _ (by intro q hq; rw [List.length_set]; exact h q (List.mem_cons_of_mem _ hq)), List.any_cons, ← Bool.or_assoc]
    congr 1
    have hp := h p (List.mem_cons_self ..)
    by_cases e : j = p
    · subst e
      rw [List.getD_eq_getElem?_getD, List.getElem?_set_self hp]
      simp
    · rw [List.getD_eq_getElem?_getD, List.getElem?_set_ne (by omega), ← List.getD_eq_getElem?_getD]
      simp [e]
theorem flagN_at (m n : Nat) (hm : 0 < m) (v : Va) (on : List Bool) (hl : on.length = m) (j : Nat) : (flagN m v n on).getD j false = (on.getD j false || (List.range n).any fun i => decide (j = placeV m v i)) := by
  unfold flagN placesV
  rw [fold_set_at _ _ (by
    intro p hp
    obtain ⟨i, _, rfl⟩ := List.mem_map.1 hp
    rw [hl]
    exact placeV_lt hm v i)]
  rw [List.any_map]
  rfl
theorem flagAll_at (m n : Nat) (hm : 0 < m) (j : Nat) : ∀ (vs : List Va) (on : List Bool), on.length = m → (flagAll m n vs on).getD j false = (on.getD j false || onV m n vs j)
  | [], on, _ => by simp [flagAll, onV]
  | v :: vs, on, hl => by
    show (flagAll m n vs (flagN m v n on)).getD j false = _
    rw [flagAll_at m n hm j vs _ (by rw [flagN_len]; exact hl), flagN_at m n hm v on hl, Bool.or_assoc]
    rfl
/-- Behind t flags: each byte holds no bit from t on, and those below as the flags say. -/
theorem packN_at (on : List Bool) (bs : List UInt8) (h0 : ∀ j, bitAt bs j = false) : ∀ (t : Nat), t ≤ 8 * bs.length →
    (∀ j, bitAt (packN on t bs) j = (decide (j < t) && on.getD j false)) ∧ (∀ q, ((packN on t bs).getD q 0).toNat < 2 ^ (t - 8 * q) ∨ 8 * q + 8 ≤ t)
  | 0, _ => by
    refine ⟨fun j => by simp [packN, h0], fun q => .inl ?_⟩
    rw [Nat.zero_sub, Nat.pow_zero]
    refine Nat.lt_of_not_le fun hc => ?_
    have hne : (bs.getD q 0).toNat ≠ 0 := by unfold packN at hc; omega
    obtain ⟨i, hi⟩ := Nat.exists_testBit_of_ne_zero hne
    have hi8 : i < 8 := by
      refine Nat.lt_of_not_le fun h => ?_
      have hlt := (bs.getD q 0).toNat_lt
      rw [Nat.testBit_lt_two_pow (Nat.lt_of_lt_of_le hlt (Nat.pow_le_pow_right (n := 2) (by omega) h))] at hi
      cases hi
    have := h0 (8 * q + i)
    rw [bitAt_eq, show (8 * q + i) / 8 = q from by omega, show (8 * q + i) % 8 = i from by omega, hi] at this
    cases this
  | t + 1, hl => by
    obtain ⟨h1, h2⟩ := packN_at on bs h0 t (by omega)
    have hlen := packN_len on t bs
    have hs2 : ((packN on t bs).getD (t / 8) 0).toNat < 2 ^ (t % 8) := by
      rcases h2 (t / 8) with h | h
      · rwa [show t - 8 * (t / 8) = t % 8 from by omega] at h
      · omega
    unfold packN
    by_cases ht : on.getD t false = true
    · rw [if_pos ht]
      have hb : ((packN on t bs).getD (t / 8) 0).toNat + 2 ^ (t % 8) < 2 ^ (t % 8 + 1) := by rw [Nat.pow_succ]; omega
      have hb8 : ((packN on t bs).getD (t / 8) 0).toNat + 2 ^ (t % 8) < 256 := Nat.lt_of_lt_of_le hb (Nat.le_trans (Nat.pow_le_pow_right (n := 2) (by omega) (show t % 8 + 1 ≤ 8 by omega)) (by decide))
      constructor
      · intro j
        by_cases hj : j / 8 = t / 8
        · rw [bitAt_eq]
          unfold plusBit
          rw [hj, List.getD_eq_getElem?_getD, List.getElem?_set_self (by omega), Option.getD_some, byteN_toNat, Nat.mod_eq_of_lt hb8]
          by_cases e : j = t
          · subst e
            rw [Nat.add_comm, Nat.testBit_two_pow_add_eq, Nat.testBit_lt_two_pow hs2, ht]
            simp
          · have hjb := h1 j
            rw [bitAt_eq, hj] at hjb
            by_cases hlt : j < t
            · rw [Nat.add_comm, Nat.testBit_two_pow_add_gt (show j % 8 < t % 8 by omega), hjb]
              simp [hlt, show j < t + 1 from by omega]
            · rw [Nat.testBit_lt_two_pow (Nat.lt_of_lt_of_le hb (Nat.pow_le_pow_right (n := 2) (by omega) (show t % 8 + 1 ≤ j % 8 by omega)))]
              simp [show ¬ j < t + 1 from by omega]
        · rw [bitAt_eq]
          unfold plusBit
          rw [List.getD_eq_getElem?_getD, List.getElem?_set_ne (by omega), ← List.getD_eq_getElem?_getD, ← bitAt_eq, h1 j]
          have : (j < t) ↔ (j < t + 1) := by omega
          simp [this]
      · intro q
        by_cases hq : q = t / 8
        · subst hq
          left
          unfold plusBit
          rw [List.getD_eq_getElem?_getD, List.getElem?_set_self (by omega), Option.getD_some, byteN_toNat, Nat.mod_eq_of_lt hb8, show t + 1 - 8 * (t / 8) = t % 8 + 1 from by omega]
          exact hb
        · unfold plusBit
          rw [List.getD_eq_getElem?_getD, List.getElem?_set_ne (by omega), ← List.getD_eq_getElem?_getD]
          rcases h2 q with h | h
          · left
            exact Nat.lt_of_lt_of_le h (Nat.pow_le_pow_right (n := 2) (by omega) (by omega))
          · right; omega
    · rw [if_neg ht]
      constructor
      · intro j
        rw [h1 j]
        by_cases e : j = t
        · subst e
          rw [Bool.eq_false_iff.2 ht]
          simp
        · have : (j < t) ↔ (j < t + 1) := by omega
          simp [this]
      · intro q
        rcases h2 q with h | h
        · left
          exact Nat.lt_of_lt_of_le h (Nat.pow_le_pow_right (n := 2) (by omega) (by omega))
        · right; omega

/-- The reference's bytes. -/
def bitsB (m n : Nat) (vs : List Va) : List UInt8 := packN (flagAll m n vs (List.replicate m false)) m (List.replicate ((m + 7) / 8) 0)
def addB (m n : Nat) (vs : List Va) : List UInt8 := addAll m n vs (List.replicate ((m + 7) / 8) 0)
theorem bits_on (m n : Nat) (vs : List Va) (hm : 0 < m) (j : Nat) (hj : j < m) : bitAt (bitsB m n vs) j = onV m n vs j := by
  unfold bitsB
  rw [(packN_at _ _ (fun j => bitAt_zero _ j) m (by rw [List.length_replicate]; omega)).1 j, flagAll_at m n hm j vs _ (List.length_replicate ..), List.getD_eq_getElem?_getD, List.getElem?_replicate]
  simp [hj]
theorem add_on (m n : Nat) (vs : List Va) (hm : 0 < m) (j : Nat) : bitAt (addB m n vs) j = onV m n vs j := by
  unfold addB
  rw [addAll_at m n hm j vs _ (by rw [List.length_replicate]; omega), bitAt_zero, Bool.false_or]
/-- Both ways tell the same. -/
theorem may_same (m n : Nat) (vs : List Va) (hm : 0 < m) (v : Va) : mayB m n v (addB m n vs) = mayB m n v (bitsB m n vs) := by
  unfold mayB
  rw [Bool.eq_iff_iff, List.all_eq_true, List.all_eq_true]
  refine forall_congr' fun i => forall_congr' fun _ => ?_
  rw [add_on m n vs hm, bits_on m n vs hm _ (placeV_lt hm v i)]
/-- A value that was added may be there. -/
theorem may_mem (m n : Nat) (vs : List Va) (hm : 0 < m) (v : Va) (h : v ∈ vs) : mayB m n v (addB m n vs) = true := by
  unfold mayB
  rw [List.all_eq_true]
  intro i hi
  rw [add_on m n vs hm]
  unfold onV
  rw [List.any_eq_true]
  refine ⟨v, h, ?_⟩
  rw [List.any_eq_true]
  exact ⟨i, hi, by simp⟩
end Go.Proofs.Ytghaffafglfdlaa
