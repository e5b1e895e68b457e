/- The sum of bytes, as plain functions on numbers: what the table-driven text and the bit-by-bit reference compute, and that the two are one. -/
import Derived.Test.YtheafcfbahdcfaaBase
namespace Go.Proofs.Ytheafcfbahdcfaa

/-- A byte, a list of bytes, as values. -/
abbrev B (c : UInt8) : Value := .int .u8 (c.toNat : Int)
abbrev Bs (l : List UInt8) : List Value := l.map B

theorem Bs_one (l : List UInt8) : ∀ u ∈ Bs l, u.oneCell' = true := by
  intro u hu
  obtain ⟨_, _, rfl⟩ := List.mem_map.1 hu
  rfl

theorem run_part_byte {P : Program} {e : TypeId} (he : P.underlying e = some (.int .u8)) (l : List UInt8) (i : Nat) (hi : i < l.length) (w : World) : (part e (Bs l).toArray i).run P w = .ok (B l[i]) w := by
  have h : (isAgg e).run P w = .ok false w := by
    unfold isAgg
    rw [Sem.run_bind, run_underlying he w]
    simp
  simp [part, Sem.run_bind, h, hi]

theorem run_eq_bytes {P : Program} {t e : TypeId} {n : Nat} (ht : P.underlying t = some (.array n e)) (he : P.underlying e = some (.int .u8)) (hz : (P.info? e).map (·.size) = some 1) (xs ys : List UInt8) (hx : xs.length = n) (hy : ys.length = n) (d : Nat) (w : World) :
    (Op.equalIn (d + 2) t (.agg (Bs xs).toArray) (.agg (Bs ys).toArray)).run P w = .ok (decide (xs = ys)) w := by
  have hs : (sizeOf e).run P w = .ok 1 w := by
    cases hq : P.info? e with
    | none => simp [hq] at hz
    | some i =>
      have : i.size = 1 := by simpa [hq] using hz
      simp [sizeOf, typeInfo, hq, this]
  rw [Op.equalIn]
  simp only [Sem.run_bind, run_underlying ht, Result.andThen_ok, hs, Nat.mul_one, Std.Legacy.Range.forIn_eq_forIn_range']
  have key : ∀ m k, k + m = n → (Sem.run P (forIn (List.range' k m 1) ((none : Option Bool), ()) fun i _ => do
      let a ← part e (Bs xs).toArray i
      let b ← part e (Bs ys).toArray i
      let r ← Op.equalIn (d + 1) e a b
      if (!r) = true then pure (ForInStep.done (some false, ())) else pure (ForInStep.yield (none, ()))) w) = .ok (if xs.drop k = ys.drop k then none else some false, ()) w := by
    intro m
    induction m with
    | zero =>
      intro k hk
      rw [List.drop_of_length_le (by omega), List.drop_of_length_le (by omega)]
      simp
    | succ m ih =>
      intro k hk
      have hxk : k < xs.length := by omega
      have hyk : k < ys.length := by omega
      rw [List.range'_succ, List.forIn_cons]
      simp only [Sem.run_bind, run_part_byte he xs k hxk, run_part_byte he ys k hyk, Result.andThen_ok, B, run_equalIn_int w d e .u8 .u8 _ _ he]
      by_cases hc : xs[k] = ys[k]
      · have h3 : (xs.drop k = ys.drop k) ↔ (xs.drop (k + 1) = ys.drop (k + 1)) := by
          rw [List.drop_eq_getElem_cons hxk, List.drop_eq_getElem_cons hyk, hc]
          exact ⟨fun h => (List.cons.inj h).2, fun h => by rw [h]⟩
        rw [hc]
        simp only [beq_self_eq_true, Bool.not_true, Bool.false_eq_true, if_false, Sem.run_pure, Result.andThen_ok, h3]
        exact ih (k + 1) (by omega)
      · have hne : (((xs[k].toNat : Int) == (ys[k].toNat : Int)) = false) := by
          rw [beq_eq_false_iff_ne]
          intro h
          exact hc (UInt8.toNat_inj.1 (by omega))
        have h3 : ¬ (xs.drop k = ys.drop k) := by
          rw [List.drop_eq_getElem_cons hxk, List.drop_eq_getElem_cons hyk]
          exact fun h => hc (List.cons.inj h).1
        simp only [hne, Bool.not_false, if_true, Sem.run_pure, Result.andThen_ok, h3, if_false]
  have hk := key n 0 (by omega)
  simp only [List.drop_zero] at hk
  have e1 : ([:n] : Std.Legacy.Range).size = n := by simp [Std.Legacy.Range.size]
  rw [e1]
  rw [hk]
  by_cases hc : xs = ys <;> simp [hc]

namespace Crc
/-- A sum behind one bit 0 more. -/
def turn1 (n : Nat) : Nat := (n * 2 % 4294967296) ^^^ (n / 2147483648 * 2168537515)
def turnN : Nat → Nat → Nat
  | 0, n => n
  | k + 1, n => turnN k (turn1 n)
def turn (n : Nat) : Nat := turnN 8 n
def tab (i : Nat) : Nat := turn (i * 16777216)
/-- A sum with a byte behind it. -/
def byte (s : Nat) (c : UInt8) : Nat := (s * 256 % 4294967296) ^^^ tab ((s / 16777216) ^^^ c.toNat)
def more (s : Nat) (l : List UInt8) : Nat := l.foldl byte s
def of (l : List UInt8) : Nat := more 4294967295 l
/-- A number's byte k, counted from the least. -/
def part (n k : Nat) : UInt8 := UInt8.ofNat (n / 256 ^ k)
def seal_ (l : List UInt8) : List UInt8 := l ++ [part (of l) 3, part (of l) 2, part (of l) 1, part (of l) 0]

theorem turn1_lt {n : Nat} (h : n < 4294967296) : turn1 n < 4294967296 := by
  unfold turn1
  refine Nat.xor_lt_two_pow (n := 32) (by omega) ?_
  have : n / 2147483648 ≤ 1 := by omega
  have : n / 2147483648 * 2168537515 ≤ 1 * 2168537515 := Nat.mul_le_mul_right _ this
  omega
theorem turnN_lt : ∀ (k : Nat) {n : Nat}, n < 4294967296 → turnN k n < 4294967296
  | 0, _, h => h
  | k + 1, _, h => turnN_lt k (turn1_lt h)
theorem turnN_succ : ∀ (k n : Nat), turnN (k + 1) n = turn1 (turnN k n)
  | 0, _ => rfl
  | k + 1, n => turnN_succ k (turn1 n)
theorem tab_lt {i : Nat} (h : i < 256) : tab i < 4294967296 := turnN_lt 8 (by omega)
theorem byte_lt {s : Nat} (h : s < 4294967296) (c : UInt8) : byte s c < 4294967296 := by
  unfold byte
  refine Nat.xor_lt_two_pow (n := 32) (by omega) (tab_lt ?_)
  have := c.toNat_lt
  exact Nat.xor_lt_two_pow (n := 8) (by omega) (by omega)
theorem idx_lt {s : Nat} (h : s < 4294967296) (c : UInt8) : (s / 16777216) ^^^ c.toNat < 256 := by
  have := c.toNat_lt
  exact Nat.xor_lt_two_pow (n := 8) (by omega) (by omega)
theorem more_lt : ∀ (l : List UInt8) {s : Nat}, s < 4294967296 → more s l < 4294967296
  | [], _, h => h
  | c :: l, _, h => more_lt l (byte_lt h c)
theorem of_lt (l : List UInt8) : of l < 4294967296 := more_lt l (by omega)
theorem more_snoc (s : Nat) (l : List UInt8) (c : UInt8) : more s (l ++ [c]) = byte (more s l) c := by simp [more]
theorem length_seal (l : List UInt8) : (seal_ l).length = l.length + 4 := by simp [seal_]

/-- A row of n cells that all hold v. -/
def zrow (n : Nat) (v : Value) : Array Value := (List.replicate n v).toArray
/-- The table's cells when the first k are done. -/
def row (k : Nat) : Array Value := ((List.range 256).map fun i => Value.int .u32 ((if i < k then tab i else 0 : Nat) : Int)).toArray
theorem row_size (k : Nat) : (row k).size = 256 := by simp [row]
theorem row_get (k i : Nat) (h : i < 256) : (row k)[i]? = some (.int .u32 ((if i < k then tab i else 0 : Nat) : Int)) := by
  simp [row, h]
theorem row_set (k : Nat) (h : k < 256) : (row k).setIfInBounds k (.int .u32 (tab k : Nat)) = row (k + 1) := by
  apply Array.ext_getElem?
  intro i
  rw [Array.getElem?_setIfInBounds]
  by_cases hi : k = i
  · subst hi
    rw [if_pos rfl, if_pos (by rw [row_size]; exact h), row_get _ _ h, if_pos (by omega)]
  · rw [if_neg hi]
    by_cases h6 : i < 256
    · rw [row_get _ _ h6, row_get _ _ h6]
      by_cases h7 : i < k
      · rw [if_pos h7, if_pos (by omega)]
      · rw [if_neg h7, if_neg (by omega)]
    · rw [Array.getElem?_eq_none (by rw [row_size]; omega), Array.getElem?_eq_none (by rw [row_size]; omega)]
theorem row_zero : row 0 = zrow 256 (.int .u32 0) := by kernel_rfl

theorem part_toNat (n k : Nat) : (part n k).toNat = n / 256 ^ k % 256 := by simp [part]
theorem seal_cells (l : List UInt8) : Bs l ++ [.int .u8 ((of l : Int) / 16777216), .int .u8 ((of l : Int) / 65536 % 256), .int .u8 ((of l : Int) / 256 % 256), .int .u8 ((of l : Int) % 256)] = Bs (seal_ l) := by
  have h := of_lt l
  unfold seal_
  simp only [List.map_append, List.map_cons, List.map_nil, B, part_toNat]
  have e3 : ((of l : Int) / 16777216) = ((of l / 256 ^ 3 % 256 : Nat) : Int) := by omega
  have e2 : ((of l : Int) / 65536 % 256) = ((of l / 256 ^ 2 % 256 : Nat) : Int) := by omega
  have e1 : ((of l : Int) / 256 % 256) = ((of l / 256 ^ 1 % 256 : Nat) : Int) := by omega
  have e0 : ((of l : Int) % 256) = ((of l / 256 ^ 0 % 256 : Nat) : Int) := by omega
  rw [e3, e2, e1, e0]
end Crc
end Go.Proofs.Ytheafcfbahdcfaa
