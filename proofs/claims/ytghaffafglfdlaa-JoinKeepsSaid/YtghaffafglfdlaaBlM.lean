/- A filter's bits: plain data. -/
import Derived.Test.YtghaffafglfdlaaOcV
import Derived.Laws.Bits64
namespace Go.Proofs.Ytghaffafglfdlaa
open Go.RowKit

/-- A step of a value's number. -/
def fnvStep (h : Nat) (c : UInt8) : Nat := (h ^^^ c.toNat) * 1099511628211 % 18446744073709551616
def fnv (h : Nat) (l : List UInt8) : Nat := l.foldl fnvStep h
theorem xor64 {a b : Nat} (ha : a < 18446744073709551616) (hb : b < 18446744073709551616) : a ^^^ b < 18446744073709551616 := by
  have := Nat.xor_lt_two_pow (x := a) (y := b) (n := 64) (by omega) (by omega)
  omega
theorem fnvStep_lt (h : Nat) (c : UInt8) : fnvStep h c < 18446744073709551616 := by
  unfold fnvStep
  exact Nat.mod_lt _ (by omega)
theorem fnv_cons (h : Nat) (c : UInt8) (l : List UInt8) : fnv h (c :: l) = fnv (fnvStep h c) l := by
  unfold fnv
  rw [List.foldl_cons]
theorem fnv_lt : ∀ (l : List UInt8) {h : Nat}, h < 18446744073709551616 → fnv h l < 18446744073709551616
  | [], _, hh => hh
  | c :: l, h, _ => by
    rw [fnv_cons]
    exact fnv_lt l (fnvStep_lt h c)
theorem fnv_take (l : List UInt8) (h : Nat) {i : Nat} (hi : i < l.length) : fnv h (l.take (i + 1)) = fnvStep (fnv h (l.take i)) l[i] := by
  unfold fnv
  rw [List.take_succ_eq_append_getElem hi, List.foldl_append, List.foldl_cons, List.foldl_nil]
def fnv0 (seed : Nat) : Nat := 14695981039346656037 ^^^ seed
theorem fnv0_lt {seed : Nat} (h : seed < 18446744073709551616) : fnv0 seed < 18446744073709551616 := xor64 (by omega) h
/-- A value's number. -/
def hashV (v : Va) (seed : Nat) : Nat := fnv (fnv0 seed) (vput v) ^^^ fnv (fnv0 seed) (vput v) / 4294967296
theorem hashV_lt (v : Va) {seed : Nat} (h : seed < 18446744073709551616) : hashV v seed < 18446744073709551616 :=
  xor64 (fnv_lt _ (fnv0_lt h)) (Nat.lt_of_le_of_lt (Nat.div_le_self _ _) (fnv_lt _ (fnv0_lt h)))
/-- A value's how-many-eth bit. -/
def placeV (m : Nat) (v : Va) (i : Nat) : Nat := hashV v i % m
theorem placeV_lt {m : Nat} (hm : 0 < m) (v : Va) (i : Nat) : placeV m v i < m := Nat.mod_lt _ hm
/-- A value's bits. -/
def placesV (m n : Nat) (v : Va) : List Nat := (List.range n).map (placeV m v)

theorem fnv_eq (h : Nat) (c : UInt8) (hh : h < 18446744073709551616) : IntKind.u64.wrap (bits .xor .u64 (h : Int) (c.toNat : Int) * 1099511628211) = ((fnvStep h c : Nat) : Int) := by
  have hc := c.toNat_lt
  rw [bits_xor_u64_nat _ _ hh (by omega), IntKind.wrap_u64]
  unfold fnvStep
  omega
theorem fnv0_eq (seed : Nat) (h : seed < 18446744073709551616) : bits .xor .u64 14695981039346656037 (seed : Int) = ((fnv0 seed : Nat) : Int) := by
  have := bits_xor_u64_nat 14695981039346656037 seed (by omega) h
  rw [show ((14695981039346656037 : Nat) : Int) = 14695981039346656037 from by omega] at this
  exact this
end Go.Proofs.Ytghaffafglfdlaa
