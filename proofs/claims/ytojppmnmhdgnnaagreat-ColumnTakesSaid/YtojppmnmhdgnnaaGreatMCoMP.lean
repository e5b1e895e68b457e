/- Numbers as runs, by how much they are more than the least, and by their steps, as bytes: plain data. A column's values, apart, and as bytes: plain data. Numbers side by side, bit by bit: plain data. -/
import Derived.Test.YtojppmnmhdgnnaaGreatMOcLW
import Derived.Lib.BitFns
import Derived.Lib.ItoaNum
import Derived.Test.YtojppmnmhdgnnaaGreatMDiMO
namespace Go.Proofs.YtojppmnmhdgnnaaGreat
set_option linter.unusedVariables false
set_option linter.unusedSimpArgs false
open Go.RowKit

/-! ### Runs -/
/-- The runs of a list whose first number stood k times already. -/
def runsF : List Int → Nat → List (Int × Nat)
  | [], _ => []
  | [x], k => [(x, k + 1)]
  | x :: y :: l, k => if x = y then runsF (y :: l) (k + 1) else (x, k + 1) :: runsF (y :: l) 0
def runsM (l : List Int) : List (Int × Nat) := runsF l 0
theorem runsF_len : ∀ (l : List Int) (k : Nat), (runsF l k).length ≤ l.length
  | [], _ => by simp [runsF]
  | [x], k => by simp [runsF]
  | x :: y :: l, k => by
    rw [runsF]
    split
    · have := runsF_len (y :: l) (k + 1)
      simp only [List.length_cons] at *
      omega
    · have := runsF_len (y :: l) 0
      simp only [List.length_cons] at *
      omega
theorem runsF_many : ∀ (l : List Int) (k : Nat), ∀ r ∈ runsF l k, 1 ≤ r.2 ∧ r.2 ≤ l.length + k
  | [], _ => by simp [runsF]
  | [x], k => by
    intro r hr
    simp only [runsF, List.mem_singleton] at hr
    subst hr
    simp only [List.length_singleton]
    omega
  | x :: y :: l, k => by
    intro r hr
    rw [runsF] at hr
    split at hr
    · have := runsF_many (y :: l) (k + 1) r hr
      simp only [List.length_cons] at *
      omega
    · rcases List.mem_cons.1 hr with rfl | hr
      · simp only [List.length_cons]
        omega
      · have := runsF_many (y :: l) 0 r hr
        simp only [List.length_cons] at *
        omega
theorem runsF_mem : ∀ (l : List Int) (k : Nat), ∀ r ∈ runsF l k, r.1 ∈ l
  | [], _ => by simp [runsF]
  | [x], k => by
    intro r hr
    simp only [runsF, List.mem_singleton] at hr
    subst hr
    simp
  | x :: y :: l, k => by
    intro r hr
    rw [runsF] at hr
    split at hr
    · exact List.mem_cons_of_mem _ (runsF_mem (y :: l) (k + 1) r hr)
    · rcases List.mem_cons.1 hr with rfl | hr
      · exact List.mem_cons_self ..
      · exact List.mem_cons_of_mem _ (runsF_mem (y :: l) 0 r hr)
/-- A run as bytes. -/
def runB (r : Int × Nat) : List UInt8 := numB (zigN r.1) ++ numB r.2
def runsB (l : List Int) : List UInt8 := numB (runsM l).length ++ (runsM l).flatMap runB

/-! ### Bits -/
/-- The number of the first n bits of f. -/
def bitsV (f : Nat → Bool) : Nat → Nat
  | 0 => 0
  | n + 1 => bitsV f n + (if f n then 2 ^ n else 0)
theorem bitsV_lt (f : Nat → Bool) : ∀ n, bitsV f n < 2 ^ n
  | 0 => by simp [bitsV]
  | n + 1 => by
    have := bitsV_lt f n
    rw [bitsV, Nat.pow_succ]
    split <;> omega
theorem bitsV_test (f : Nat → Bool) : ∀ n j, (bitsV f n).testBit j = (decide (j < n) && f j)
  | 0, j => by simp [bitsV]
  | n + 1, j => by
    have h := bitsV_lt f n
    have ih := bitsV_test f n j
    rw [bitsV]
    by_cases hf : f n = true
    · rw [if_pos hf, Nat.add_comm]
      by_cases hj : j = n
      · subst hj
        rw [Nat.testBit_two_pow_add_eq, Nat.testBit_lt_two_pow h, hf]
        simp
      · by_cases hlt : j < n
        · rw [Nat.testBit_two_pow_add_gt hlt, ih]
          simp [hlt, show j < n + 1 from by omega]
        · have h2 : 2 ^ n + bitsV f n < 2 ^ (n + 1) := by rw [Nat.pow_succ]; omega
          have h3 : 2 ^ (n + 1) ≤ 2 ^ j := Nat.pow_le_pow_right (by omega) (by omega)
          rw [Nat.testBit_lt_two_pow (by omega)]
          simp [show ¬ j < n + 1 from by omega]
    · rw [if_neg hf, Nat.add_zero, ih]
      by_cases hj : j = n
      · subst hj
        simp at hf
        simp [hf]
      · have e : decide (j < n + 1) = decide (j < n) := by
          by_cases hlt : j < n
          · rw [decide_eq_true hlt, decide_eq_true (by omega)]
          · rw [decide_eq_false hlt, decide_eq_false (by omega)]
        rw [e]
theorem bitsV_congr {f g : Nat → Bool} : ∀ n, (∀ j, j < n → f j = g j) → bitsV f n = bitsV g n
  | 0, _ => rfl
  | n + 1, h => by rw [bitsV, bitsV, bitsV_congr n (fun j hj => h j (by omega)), h n (by omega)]
theorem bitsV_of (x n : Nat) (h : x < 2 ^ n) : bitsV (fun j => x.testBit j) n = x := by
  apply Nat.eq_of_testBit_eq
  intro j
  rw [bitsV_test]
  by_cases hj : j < n
  · simp [hj]
  · rw [Nat.testBit_lt_two_pow (Nat.lt_of_lt_of_le h (Nat.pow_le_pow_right (by omega) (by omega)))]
    simp

/-- Bit p of numbers of w bits each, side by side. -/
def bitPk (l : List Nat) (w p : Nat) : Bool := decide (p < l.length * w) && (l.getD (p / w) 0).testBit (p % w)
/-- The bits below a place, as bytes. -/
def bitsTo (l : List Nat) (w at_ n : Nat) : List UInt8 := (List.range n).map fun q => byteN (bitsV (fun r => decide (8 * q + r < at_) && bitPk l w (8 * q + r)) 8)
theorem bitsTo_len (l : List Nat) (w a n : Nat) : (bitsTo l w a n).length = n := by simp [bitsTo]
theorem bitsTo_get (l : List Nat) (w a n q : Nat) (h : q < n) : (bitsTo l w a n)[q]? = some (byteN (bitsV (fun r => decide (8 * q + r < a) && bitPk l w (8 * q + r)) 8)) := by
  unfold bitsTo
  rw [List.getElem?_map, List.getElem?_range h]
  rfl
def bytesN (many w : Nat) : Nat := (many * w + 7) / 8
def packB (l : List Nat) (w : Nat) : List UInt8 := bitsTo l w (l.length * w) (bytesN l.length w)
theorem packB_len (l : List Nat) (w : Nat) : (packB l w).length = bytesN l.length w := bitsTo_len ..
theorem bitsTo_zero (l : List Nat) (w n : Nat) : bitsTo l w 0 n = List.replicate n 0 := by
  apply List.ext_getElem?
  intro q
  by_cases h : q < n
  · rw [bitsTo_get l w 0 n q h, List.getElem?_replicate, if_pos h]
    have e : bitsV (fun r => decide (8 * q + r < 0) && bitPk l w (8 * q + r)) 8 = 0 := by
      rw [bitsV_congr (g := fun _ => false) 8 (fun j _ => by simp)]
      rfl
    rw [e]
    rfl
  · rw [List.getElem?_eq_none (by rw [bitsTo_len]; omega), List.getElem?_eq_none (by simp; omega)]
theorem byteN_eq {a b : Nat} (ha : a < 256) (hb : b < 256) (h : ∀ j, j < 8 → a.testBit j = b.testBit j) : a = b := by
  apply Nat.eq_of_testBit_eq
  intro j
  by_cases hj : j < 8
  · exact h j hj
  · have h2 : (256 : Nat) ≤ 2 ^ j := by
      have : 2 ^ 8 ≤ 2 ^ j := Nat.pow_le_pow_right (by omega) (by omega)
      omega
    rw [Nat.testBit_lt_two_pow (by omega), Nat.testBit_lt_two_pow (by omega)]
/-- One byte turns from a place to a later one within it. -/
theorem bitsTo_step (l : List Nat) (w a m n q : Nat) (hq : a / 8 = q) (hm : a % 8 + m ≤ 8) (v : Nat) (hv : v < 256)
    (h : ∀ j, j < 8 → v.testBit j = (decide (8 * q + j < a + m) && bitPk l w (8 * q + j))) :
    (bitsTo l w a n).set q (byteN v) = bitsTo l w (a + m) n := by
  apply List.ext_getElem?
  intro t
  by_cases ht : t < n
  · by_cases e : q = t
    · subst e
      rw [List.getElem?_set_self (by rw [bitsTo_len]; exact ht), bitsTo_get l w (a + m) n q ht]
      congr 2
      refine byteN_eq hv (bitsV_lt _ 8) fun j hj => ?_
      rw [h j hj, bitsV_test]
      simp [hj]
    · rw [List.getElem?_set_ne e, bitsTo_get l w a n t ht, bitsTo_get l w (a + m) n t ht]
      congr 2
      refine bitsV_congr 8 fun j hj => ?_
      have hd : decide (8 * t + j < a) = decide (8 * t + j < a + m) := by
        by_cases hlt : 8 * t + j < a
        · rw [decide_eq_true hlt, decide_eq_true (by omega)]
        · rw [decide_eq_false hlt, decide_eq_false (by omega)]
      rw [hd]
  · rw [List.getElem?_eq_none (by rw [List.length_set, bitsTo_len]; omega), List.getElem?_eq_none (by rw [bitsTo_len]; omega)]

/-! ### Widths -/
def widthM (l : List Nat) : Nat := Lib.bitLen (l.foldl (fun a n => a ||| n) 0)
theorem bitLen_lt {n k : Nat} (hn : n < 18446744073709551616) (hk : k ≤ 64) : Lib.bitLen n ≤ k ↔ n < 2 ^ k := by
  constructor
  · intro h
    by_cases h0 : n = 0
    · subst h0
      exact Nat.two_pow_pos k
    · exact Nat.lt_of_lt_of_le (Lib.bitLenAux_bounds 64 n hn h0).2.2 (Nat.pow_le_pow_right (by omega) h)
  · exact Lib.bitLen_le n k hk

/-! ### More than the least -/
def leastM : List Int → Int
  | [] => 0
  | x :: l => l.foldl min x
def moreM (l : List Int) : List Nat := l.map fun n => (n - leastM l).toNat
def frameB (l : List Int) : List UInt8 :=
  numB l.length ++ (if l = [] then [] else numB (zigN (leastM l)) ++ (numB (widthM (moreM l)) ++ packB (moreM l) (widthM (moreM l))))
theorem foldl_min_le : ∀ (l : List Int) (a : Int), l.foldl min a ≤ a ∧ (∀ x ∈ l, l.foldl min a ≤ x) ∧ (l.foldl min a = a ∨ l.foldl min a ∈ l)
  | [], a => by simp
  | y :: l, a => by
    obtain ⟨h1, h2, h3⟩ := foldl_min_le l (min a y)
    rw [List.foldl_cons]
    refine ⟨by omega, fun x hx => ?_, ?_⟩
    · rcases List.mem_cons.1 hx with rfl | hx
      · omega
      · exact h2 x hx
    · rcases h3 with h3 | h3
      · rw [h3]
        by_cases h : a ≤ y
        · exact .inl (by omega)
        · exact .inr (by rw [show min a y = y from by omega]; exact List.mem_cons_self ..)
      · exact .inr (List.mem_cons_of_mem _ h3)
theorem least_mem {l : List Int} (h : l ≠ []) : leastM l ∈ l := by
  cases l with
  | nil => exact absurd rfl h
  | cons x l =>
    rcases (foldl_min_le l x).2.2 with h | h
    · rw [show leastM (x :: l) = l.foldl min x from rfl, h]
      exact List.mem_cons_self ..
    · exact List.mem_cons_of_mem _ h
theorem least_le {l : List Int} {x : Int} (h : x ∈ l) : leastM l ≤ x := by
  cases l with
  | nil => simp at h
  | cons y l =>
    rcases List.mem_cons.1 h with rfl | h
    · exact (foldl_min_le l x).1
    · exact (foldl_min_le l y).2.1 x h

/-! ### Steps -/
def stepOk (a b : Int) : Bool := decide (-9223372036854775808 ≤ b - a ∧ b - a ≤ 9223372036854775807)
/-- The steps of a list behind a number; none: there is one that is no number. -/
def stepsM : Int → List Int → Option (List Int)
  | _, [] => some []
  | a, b :: l => if stepOk a b = true then (stepsM b l).map ((b - a) :: ·) else none
def deltaB (l : List Int) : Option (List UInt8) := (stepsM 0 l).map fun s => numB l.length ++ s.flatMap fun n => numB (zigN n)
end Go.Proofs.YtojppmnmhdgnnaaGreat
namespace Go.Proofs.YtojppmnmhdgnnaaGreat
set_option linter.unusedVariables false
set_option linter.unusedSimpArgs false
open Go.RowKit

/-- What is there, the values that are something, their numbers and texts. -/
def thereM (l : RowM) : List Int := l.map fun v => if v.k = 0 then 0 else 1
def someM (l : RowM) : RowM := l.filter fun v => decide (v.k ≠ 0)
def numsM (l : RowM) : List Int := (someM l).map (·.n)
def textsM (l : RowM) : List (List UInt8) := (someM l).map (·.s)
theorem thereM_len (l : RowM) : (thereM l).length = l.length := List.length_map _
theorem someM_le (l : RowM) : (someM l).length ≤ l.length := List.length_filter_le _ _
theorem someM_snoc (l : RowM) (v : Va) : someM (l ++ [v]) = if v.k = 0 then someM l else someM l ++ [v] := by
  unfold someM
  rw [List.filter_append]
  by_cases h : v.k = 0
  · rw [if_pos h]
    simp [h]
  · rw [if_neg h]
    simp [h]
theorem thereM_snoc (l : RowM) (v : Va) : thereM (l ++ [v]) = thereM l ++ [if v.k = 0 then 0 else 1] := by
  unfold thereM
  rw [List.map_append]
  rfl
def kindOk (k : Int) : Bool := decide (1 ≤ k ∧ k ≤ 3)
def howOk (h : Int) : Bool := decide (1 ≤ h ∧ h ≤ 5)
def fitV (kind : Int) (v : Va) : Bool := rightV v && (decide (v.k = 0) || decide (v.k = kind))
def plainB (kind : Int) (l : RowM) : List UInt8 := (someM l).flatMap fun v => if kind = 3 then numB v.s.length ++ v.s else numB (zigN v.n)
def wordsB (t : List (List UInt8)) : Option (List UInt8) := (ofM t).bind fun x => (putM x.1).map (· ++ frameB x.2)
/-- The values that are something, and the encoding that was used. -/
def layM (kind how : Int) (l : RowM) : List UInt8 × Int :=
  if ((decide (how = 3)) == (decide (kind = 3))) = false then (plainB kind l, 1)
  else if how = 2 then (runsB (numsM l), 2)
  else if how = 4 then (frameB (numsM l), 4)
  else if how = 3 then match wordsB (textsM l) with | some b => (b, 3) | none => (plainB kind l, 1)
  else if how = 5 then match deltaB (numsM l) with | some b => (b, 5) | none => (plainB kind l, 1)
  else (plainB kind l, 1)
def colB (kind how : Int) (l : RowM) : List UInt8 × Int :=
  (byteN (layM kind how l).2.toNat :: (numB (runsB (thereM l)).length ++ (runsB (thereM l) ++ (layM kind how l).1)), (layM kind how l).2)
/-- What Put tells: bytes, the encoding that was used, the error. -/
def cputM (kind how : Int) (l : RowM) : List UInt8 × Int × Int :=
  if (kindOk kind && howOk how) = false then ([], 0, 1)
  else if l.all (fitV kind) = true then ((colB kind how l).1, (colB kind how l).2, 0) else ([], 0, 7)
def bestF (kind : Int) (l : RowM) : Nat → Int → Nat → Int × Nat
  | 0, b, n => (b, n)
  | k + 1, b, n =>
    let h : Int := 5 - k
    if (cputM kind h l).2.1 = h ∧ (b = 0 ∨ (cputM kind h l).1.length < n) then bestF kind l k h (cputM kind h l).1.length else bestF kind l k b n
/-- What Best tells. -/
def bestM (kind : Int) (l : RowM) : Int × Int := if (cputM kind 1 l).2.2 = 0 then ((bestF kind l 5 0 0).1, 0) else (0, (cputM kind 1 l).2.2)
theorem putM_of {t : List (List UInt8)} {W : List (List UInt8)} {p : List Int} (h : ofM t = some (W, p)) : ∃ b, putM W = some b := by
  unfold putM
  rw [if_pos (ofM_right h).1]
  exact ⟨_, rfl⟩
theorem lay_used (kind how : Int) (l : RowM) (hh : howOk how = true) : 1 ≤ (layM kind how l).2 ∧ (layM kind how l).2 ≤ 5 := by
  unfold layM
  repeat' split
  all_goals (dsimp only; omega)
end Go.Proofs.YtojppmnmhdgnnaaGreat
namespace Go.Proofs.YtojppmnmhdgnnaaGreat
set_option linter.unusedVariables false
set_option linter.unusedSimpArgs false
open Go.RowKit

theorem bits_old (l : List Nat) (w a q : Nat) (n : Nat) (hq : q < n) : ((bitsTo l w a n).getD q 0).toNat = bitsV (fun r => decide (8 * q + r < a) && bitPk l w (8 * q + r)) 8 := by
  rw [List.getD_eq_getElem?_getD, bitsTo_get l w a n q hq, Option.getD_some, byteN_toNat]
  exact Nat.mod_eq_of_lt (bitsV_lt _ 8)
theorem bitPk_in (l : List Nat) (w i k : Nat) (hi : i < l.length) (hk : k < w) : bitPk l w (i * w + k) = (l[i]).testBit k := by
  unfold bitPk
  have h1 : i * w + k < l.length * w := by
    have : (i + 1) * w ≤ l.length * w := Nat.mul_le_mul_right _ hi
    rw [Nat.add_mul, Nat.one_mul] at this
    omega
  have h2 : (i * w + k) / w = i := by
    rw [Nat.mul_comm, Nat.mul_add_div (by omega), Nat.div_eq_of_lt hk, Nat.add_zero]
  have h3 : (i * w + k) % w = k := by
    rw [Nat.mul_comm, Nat.mul_add_mod, Nat.mod_eq_of_lt hk]
  rw [decide_eq_true h1, Bool.true_and, h2, h3, List.getD_eq_getElem?_getD, List.getElem?_eq_getElem hi]
  rfl
/-- Some bits of a number, laid at once. -/
theorem pack_chunk (l : List Nat) (w i left at_ n m x : Nat) (hi : i < l.length) (hleft : left ≤ w) (hat : at_ = i * w + (w - left)) (hx : x = l[i] >>> (w - left)) (hm : at_ % 8 + m ≤ 8) (hml : m ≤ left) (hn : at_ / 8 < n) :
    (bitsTo l w at_ n).set (at_ / 8) (byteN (((bitsTo l w at_ n).getD (at_ / 8) 0).toNat ||| ((x % 2 ^ m) * 2 ^ (at_ % 8)))) = bitsTo l w (at_ + m) n := by
  have hy : (x % 2 ^ m) * 2 ^ (at_ % 8) < 256 := by
    have h1 : x % 2 ^ m < 2 ^ m := Nat.mod_lt _ (Nat.two_pow_pos m)
    have h2 : (x % 2 ^ m) * 2 ^ (at_ % 8) < 2 ^ m * 2 ^ (at_ % 8) := Nat.mul_lt_mul_of_pos_right h1 (Nat.two_pow_pos _)
    rw [← Nat.pow_add] at h2
    have h3 : 2 ^ (m + at_ % 8) ≤ 2 ^ 8 := Nat.pow_le_pow_right (by omega) (by omega)
    omega
  refine bitsTo_step l w at_ m n (at_ / 8) rfl hm _ (Nat.or_lt_two_pow (n := 8) (by rw [bits_old l w at_ _ n hn]; exact bitsV_lt _ 8) hy) fun j hj => ?_
  rw [bits_old l w at_ _ n hn, Nat.testBit_or, bitsV_test, decide_eq_true hj, Bool.true_and, ← Nat.shiftLeft_eq, Nat.testBit_shiftLeft, Nat.testBit_mod_two_pow]
  by_cases h1 : 8 * (at_ / 8) + j < at_
  · have h2 : ¬ j ≥ at_ % 8 := by omega
    rw [decide_eq_true h1, decide_eq_false h2, decide_eq_true (show 8 * (at_ / 8) + j < at_ + m by omega)]
    simp
  · have h2 : j ≥ at_ % 8 := by omega
    rw [decide_eq_false h1, decide_eq_true h2, Bool.false_and, Bool.false_or, Bool.true_and]
    by_cases h3 : 8 * (at_ / 8) + j < at_ + m
    · rw [decide_eq_true h3, decide_eq_true (show j - at_ % 8 < m by omega), Bool.true_and, Bool.true_and, hx, Nat.testBit_shiftRight]
      have h4 : 8 * (at_ / 8) + j = i * w + (w - left + (j - at_ % 8)) := by omega
      rw [h4, bitPk_in l w i _ hi (by omega)]
    · rw [decide_eq_false h3, decide_eq_false (show ¬ j - at_ % 8 < m by omega)]
      simp
/-- One bit of a number is laid. -/
theorem pack_one (l : List Nat) (w i k at_ n : Nat) (hi : i < l.length) (hk : k < w) (hat : at_ = i * w + k) (hn : at_ / 8 < n) (hb : (l[i]).testBit k = true) :
    ((bitsTo l w at_ n).getD (at_ / 8) 0).toNat + 2 ^ (at_ % 8) < 256 ∧ (bitsTo l w at_ n).set (at_ / 8) (byteN (((bitsTo l w at_ n).getD (at_ / 8) 0).toNat + 2 ^ (at_ % 8))) = bitsTo l w (at_ + 1) n := by
  have hold := bits_old l w at_ (at_ / 8) n hn
  have hlt : ((bitsTo l w at_ n).getD (at_ / 8) 0).toNat < 2 ^ (at_ % 8) := by
    rw [hold]
    refine Nat.lt_pow_two_of_testBit _ fun j hj => ?_
    rw [bitsV_test, decide_eq_false (show ¬ 8 * (at_ / 8) + j < at_ by omega)]
    simp
  have hp : 2 ^ (at_ % 8) ≤ 2 ^ 7 := Nat.pow_le_pow_right (by omega) (by omega)
  have hs : ((bitsTo l w at_ n).getD (at_ / 8) 0).toNat + 2 ^ (at_ % 8) < 256 := by omega
  refine ⟨hs, bitsTo_step l w at_ 1 n (at_ / 8) rfl (by omega) _ hs fun j hj => ?_⟩
  have e : 2 ^ (at_ % 8) + ((bitsTo l w at_ n).getD (at_ / 8) 0).toNat = 2 ^ (at_ % 8) ||| ((bitsTo l w at_ n).getD (at_ / 8) 0).toNat := by
    have := Nat.two_pow_add_eq_or_of_lt hlt 1
    rwa [Nat.mul_one] at this
  rw [Nat.add_comm, e, Nat.testBit_or, Nat.testBit_two_pow, hold, bitsV_test, decide_eq_true hj, Bool.true_and]
  by_cases h1 : 8 * (at_ / 8) + j < at_
  · rw [decide_eq_true h1, decide_eq_true (show 8 * (at_ / 8) + j < at_ + 1 by omega), decide_eq_false (show ¬ at_ % 8 = j by omega)]
    simp
  · rw [decide_eq_false h1, Bool.false_and, Bool.or_false]
    by_cases h3 : 8 * (at_ / 8) + j < at_ + 1
    · rw [decide_eq_true h3, decide_eq_true (show at_ % 8 = j by omega), Bool.true_and, show 8 * (at_ / 8) + j = i * w + k by omega, bitPk_in l w i k hi hk, hb]
    · rw [decide_eq_false h3, decide_eq_false (show ¬ at_ % 8 = j by omega), Bool.false_and]
theorem pack_skip (l : List Nat) (w i k at_ n : Nat) (hi : i < l.length) (hk : k < w) (hat : at_ = i * w + k) (hb : (l[i]).testBit k = false) : bitsTo l w at_ n = bitsTo l w (at_ + 1) n := by
  unfold bitsTo
  refine List.map_congr_left fun q hq => ?_
  refine congrArg byteN (bitsV_congr 8 fun j hj => ?_)
  by_cases h1 : 8 * q + j < at_
  · rw [decide_eq_true h1, decide_eq_true (show 8 * q + j < at_ + 1 by omega)]
  · rw [decide_eq_false h1, Bool.false_and]
    by_cases h3 : 8 * q + j < at_ + 1
    · rw [show 8 * q + j = i * w + k by omega, bitPk_in l w i k hi hk, hb, Bool.and_false]
    · rw [decide_eq_false h3, Bool.false_and]

/-! ### Widths -/
theorem or_fold : ∀ (l : List Nat) (a k : Nat), (l.foldl (fun a n => a ||| n) a < 2 ^ k ↔ a < 2 ^ k ∧ ∀ x ∈ l, x < 2 ^ k)
  | [], a, k => by simp
  | y :: l, a, k => by
    rw [List.foldl_cons, or_fold l (a ||| y) k]
    constructor
    · rintro ⟨h1, h2⟩
      have h3 : a ≤ a ||| y := Nat.left_le_or
      have h4 : y ≤ a ||| y := Nat.right_le_or
      refine ⟨by omega, fun x hx => ?_⟩
      rcases List.mem_cons.1 hx with rfl | hx
      · omega
      · exact h2 x hx
    · rintro ⟨h1, h2⟩
      exact ⟨Nat.or_lt_two_pow h1 (h2 y (List.mem_cons_self ..)), fun x hx => h2 x (List.mem_cons_of_mem _ hx)⟩
theorem or_fold64 {l : List Nat} (h : ∀ x ∈ l, x < 18446744073709551616) : l.foldl (fun a n => a ||| n) 0 < 18446744073709551616 :=
  (or_fold l 0 64).2 ⟨by decide, h⟩
theorem width_le {l : List Nat} (h : ∀ x ∈ l, x < 18446744073709551616) {k : Nat} (hk : k ≤ 64) : widthM l ≤ k ↔ ∀ x ∈ l, x < 2 ^ k := by
  unfold widthM
  rw [bitLen_lt (or_fold64 h) hk, or_fold]
  simp [Nat.two_pow_pos]
theorem width_64 {l : List Nat} (h : ∀ x ∈ l, x < 18446744073709551616) : widthM l ≤ 64 := (width_le h (Nat.le_refl _)).2 h
theorem width_max {l : List Nat} (h : ∀ x ∈ l, x < 18446744073709551616) : widthM l = (l.map Lib.bitLen).foldl max 0 := by
  have key : ∀ (l : List Nat) (a : Nat), (∀ x ∈ l, x < 18446744073709551616) → a ≤ 64 → ∀ k, k ≤ 64 → ((l.map Lib.bitLen).foldl max a ≤ k ↔ a ≤ k ∧ ∀ x ∈ l, x < 2 ^ k) := by
    intro l
    induction l with
    | nil => intro a _ _ k _; simp
    | cons y l ih =>
      intro a hl ha k hk
      have hy := hl y (List.mem_cons_self ..)
      have hy2 : Lib.bitLen y ≤ 64 := (bitLen_lt hy (Nat.le_refl _)).2 hy
      rw [List.map_cons, List.foldl_cons, ih (max a (Lib.bitLen y)) (fun x hx => hl x (List.mem_cons_of_mem _ hx)) (by omega) k hk]
      constructor
      · rintro ⟨h1, h2⟩
        refine ⟨by omega, fun x hx => ?_⟩
        rcases List.mem_cons.1 hx with rfl | hx
        · exact (bitLen_lt hy hk).1 (by omega)
        · exact h2 x hx
      · rintro ⟨h1, h2⟩
        have := (bitLen_lt hy hk).2 (h2 y (List.mem_cons_self ..))
        exact ⟨by omega, fun x hx => h2 x (List.mem_cons_of_mem _ hx)⟩
  have h64 := width_64 h
  have h1 := key l 0 h (by omega) (widthM l) h64
  have h2 : (l.map Lib.bitLen).foldl max 0 ≤ widthM l := h1.2 ⟨by omega, (width_le h h64).1 (Nat.le_refl _)⟩
  have h3 := key l 0 h (by omega) ((l.map Lib.bitLen).foldl max 0) (by omega)
  have h4 : widthM l ≤ (l.map Lib.bitLen).foldl max 0 := (width_le h (by omega)).2 (h3.1 (Nat.le_refl _)).2
  omega
theorem moreM_lt {l : List Int} (h : ∀ x ∈ l, -9223372036854775808 ≤ x ∧ x ≤ 9223372036854775807) : ∀ m ∈ moreM l, m < 18446744073709551616 := by
  intro m hm
  unfold moreM at hm
  obtain ⟨x, hx, rfl⟩ := List.mem_map.1 hm
  have h1 := h x hx
  have h2 := h _ (least_mem (List.ne_nil_of_mem hx))
  have h3 := least_le hx
  omega
theorem moreM_len (l : List Int) : (moreM l).length = l.length := List.length_map _
end Go.Proofs.YtojppmnmhdgnnaaGreat
