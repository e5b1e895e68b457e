/- What stands ahead in runs' bytes, if numbers were put so: plain data. A column's bytes, part by part, if values were put so: plain data. -/
import Derived.Test.YtojppmnmhdgnnaaGreatMTkMN
import Derived.Test.YtojppmnmhdgnnaaGreatMDiMO
namespace Go.Proofs.YtojppmnmhdgnnaaGreat
set_option linter.unusedVariables false
set_option linter.unusedSimpArgs false
open Go.RowKit

/-- Numbers as the encodings ask for them. -/
def NumL (l : List Int) : Prop := l.length ≤ 4096 ∧ ∀ x ∈ l, -9223372036854775808 ≤ x ∧ x ≤ 9223372036854775807
theorem sumOk_iff (l : List (Int × Nat)) : sumOk l = true ↔ (∀ r ∈ l, 1 ≤ r.2) ∧ sumR l ≤ 4096 := by
  unfold sumOk
  rw [Bool.and_eq_true, List.all_eq_true, decide_eq_true_iff]
  constructor
  · rintro ⟨h1, h2⟩
    exact ⟨fun r hr => of_decide_eq_true (h1 r hr), h2⟩
  · rintro ⟨h1, h2⟩
    exact ⟨fun r hr => decide_eq_true (h1 r hr), h2⟩
theorem flatR_in {l : List (Int × Nat)} (h : ∀ r ∈ l, -9223372036854775808 ≤ r.1 ∧ r.1 ≤ 9223372036854775807) : ∀ x ∈ flatR l, -9223372036854775808 ≤ x ∧ x ≤ 9223372036854775807 := by
  intro x hx
  unfold flatR at hx
  obtain ⟨r, hr, hx⟩ := List.mem_flatMap.1 hx
  obtain ⟨-, rfl⟩ := List.mem_replicate.1 hx
  exact h r hr
/-- If numbers were put so: the runs x were read, m are ahead, and these bytes. -/
def RunC (b : List UInt8) (x : List (Int × Nat)) (m : Nat) (pc : List UInt8) (bad : Bool) : Prop :=
  ∀ l, NumL l → runsB l = b → bad = false ∧ ∃ rest, rest.length = m ∧ pc = rest.flatMap runB ∧ runsM l = x ++ rest
theorem RunC.good {b : List UInt8} {x : List (Int × Nat)} {m : Nat} {pc : List UInt8} {bad : Bool} (h : RunC b x m pc bad) (hm : 0 < m) {l : List Int} (hl : NumL l) (e : runsB l = b) :
    ∃ r rest, rest.length + 1 = m ∧ r.2 ≤ 4096 ∧ takeNum pc = some (zigN r.1, numB r.2 ++ rest.flatMap runB) ∧ takeNum (numB r.2 ++ rest.flatMap runB) = some (r.2, rest.flatMap runB) ∧ unzig (zigN r.1) = r.1 ∧ runsM l = (x ++ [r]) ++ rest := by
  obtain ⟨-, rest, h1, h2, h3⟩ := h l hl e
  cases rest with
  | nil =>
    rw [List.length_nil] at h1
    omega
  | cons r rest =>
    have hr : r ∈ runsM l := by rw [h3]; simp
    have h4 := (runsF_many l 0 r hr).2
    have h5 := hl.2 _ (runsF_mem l 0 r hr)
    have h6 := hl.1
    refine ⟨r, rest, h1, by omega, ?_, takeNum_put (by omega) _, unzig_zig _, by rw [h3, List.append_assoc]; rfl⟩
    rw [h2, List.flatMap_cons, runB, List.append_assoc, takeNum_put (zigN_lt h5)]
theorem RunC.no1 {b : List UInt8} {x x' : List (Int × Nat)} {m m' : Nat} {pc pc' : List UInt8} {bad bad' : Bool} (h : RunC b x m pc bad) (hm : 0 < m) (ht : takeNum pc = none) : RunC b x' m' pc' bad' := fun l hl e => by
  obtain ⟨r, rest, -, -, h2, -⟩ := h.good hm hl e
  rw [h2] at ht
  cases ht
theorem RunC.no2 {b : List UInt8} {x x' : List (Int × Nat)} {m m' : Nat} {pc pc' v : List UInt8} {a : Nat} {bad bad' : Bool} (h : RunC b x m pc bad) (hm : 0 < m) (ht : takeNum pc = some (a, v)) (ht2 : takeNum v = none) : RunC b x' m' pc' bad' := fun l hl e => by
  obtain ⟨r, rest, -, -, h2, h3, -⟩ := h.good hm hl e
  rw [h2] at ht
  injection ht with ht
  injection ht with _ ht
  rw [← ht, h3] at ht2
  cases ht2
theorem RunC.no3 {b : List UInt8} {x : List (Int × Nat)} {m : Nat} {pc v t : List UInt8} {a c : Nat} {bad : Bool} (h : RunC b x m pc bad) (hm : 0 < m) (ht : takeNum pc = some (a, v)) (ht2 : takeNum v = some (c, t)) (hc : 4096 < c) : ∀ l, NumL l → runsB l ≠ b := fun l hl e => by
  obtain ⟨r, rest, -, hr, h2, h3, -⟩ := h.good hm hl e
  rw [h2] at ht
  injection ht with ht
  injection ht with _ ht
  rw [← ht, h3] at ht2
  injection ht2 with ht2
  injection ht2 with ht2 _
  omega
theorem RunC.next {b : List UInt8} {x : List (Int × Nat)} {m : Nat} {pc v t : List UInt8} {a c : Nat} {bad : Bool} (h : RunC b x m pc bad) (hm : 0 < m) (ht : takeNum pc = some (a, v)) (ht2 : takeNum v = some (c, t)) : RunC b (x ++ [(unzig a, c)]) (m - 1) t false := fun l hl e => by
  obtain ⟨r, rest, h1, hr, h2, h3, h4, h5⟩ := h.good hm hl e
  rw [h2] at ht
  injection ht with ht
  injection ht with hta ht
  rw [← ht, h3] at ht2
  injection ht2 with ht2
  injection ht2 with ht2 ht3
  subst ht2
  subst ht3
  subst hta
  refine ⟨rfl, rest, by omega, rfl, ?_⟩
  rw [h4]
  exact h5
theorem runC_none {b : List UInt8} (ht : takeNum b = none) (x : List (Int × Nat)) (m : Nat) (pc : List UInt8) (bad : Bool) : RunC b x m pc bad := fun l hl e => by
  rw [← e, runsB, takeNum_put (by have h1 := runsF_len l 0; have h2 := hl.1; unfold runsM; omega)] at ht
  cases ht
theorem runC_some {b u : List UInt8} {N : Nat} (ht : takeNum b = some (N, u)) : RunC b [] N u false := fun l hl e => by
  rw [← e, runsB, takeNum_put (by have h1 := runsF_len l 0; have h2 := hl.1; unfold runsM; omega)] at ht
  injection ht with ht
  injection ht with h1 h2
  exact ⟨rfl, runsM l, h1, h2.symm, rfl⟩
theorem RunC.done {b : List UInt8} {x : List (Int × Nat)} {pc : List UInt8} {bad : Bool} (h : RunC b x 0 pc bad) {l : List Int} (hl : NumL l) (e : runsB l = b) : bad = false ∧ pc = [] ∧ x = runsM l := by
  obtain ⟨h1, rest, h2, h3, h4⟩ := h l hl e
  have : rest = [] := List.eq_nil_of_length_eq_zero h2
  subst this
  exact ⟨h1, h3, by rw [h4, List.append_nil]⟩
theorem runs_good {l : List Int} (hl : NumL l) : sumOk (runsM l) = true := by
  have h := right_runs hl.1
  unfold rightR at h
  rw [Bool.and_eq_true] at h
  exact h.2

/-! ### By steps -/
/-- If numbers were put so: the numbers x were read, m are ahead, and these bytes. -/
def DelC (b : List UInt8) (x : List Int) (last : Int) (m : Nat) (pc : List UInt8) (bad : Bool) : Prop :=
  ∀ l, NumL l → deltaB l = some b → bad = false ∧ ∃ rest s, rest.length = m ∧ stepsM last rest = some s ∧ pc = s.flatMap (fun n => numB (zigN n)) ∧ l = x ++ rest
theorem DelC.good {b : List UInt8} {x : List Int} {last : Int} {m : Nat} {pc : List UInt8} {bad : Bool} (h : DelC b x last m pc bad) (hm : 0 < m) {l : List Int} (hl : NumL l) (e : deltaB l = some b) :
    ∃ y rest s, rest.length + 1 = m ∧ (-9223372036854775808 ≤ y ∧ y ≤ 9223372036854775807) ∧ takeNum pc = some (zigN (y - last), s.flatMap (fun n => numB (zigN n))) ∧ stepsM y rest = some s ∧ unzig (zigN (y - last)) = y - last ∧ l = (x ++ [y]) ++ rest := by
  obtain ⟨-, rest, s, h1, h2, h3, h4⟩ := h l hl e
  cases rest with
  | nil =>
    rw [List.length_nil] at h1
    omega
  | cons y rest =>
    have hy := hl.2 y (by rw [h4]; simp)
    rw [stepsM] at h2
    split at h2
    · rename_i hk
      have hk' := of_decide_eq_true (show decide _ = true from hk)
      cases e9 : stepsM y rest with
      | none => rw [e9] at h2; cases h2
      | some t =>
        rw [e9] at h2
        obtain rfl : (y - last) :: t = s := Option.some.inj h2
        refine ⟨y, rest, t, h1, hy, ?_, e9, unzig_zig _, by rw [h4, List.append_assoc]; rfl⟩
        rw [h3, List.flatMap_cons, takeNum_put (zigN_lt hk')]
    · cases h2
theorem DelC.no {b : List UInt8} {x x' : List Int} {last last' : Int} {m m' : Nat} {pc pc' : List UInt8} {bad bad' : Bool} (h : DelC b x last m pc bad) (hm : 0 < m) (ht : takeNum pc = none) : DelC b x' last' m' pc' bad' := fun l hl e => by
  obtain ⟨y, rest, s, -, -, h2, -⟩ := h.good hm hl e
  rw [h2] at ht
  cases ht
theorem DelC.next {b : List UInt8} {x : List Int} {last : Int} {m : Nat} {pc v : List UInt8} {a : Nat} {bad : Bool} (h : DelC b x last m pc bad) (hm : 0 < m) (ht : takeNum pc = some (a, v)) {y : Int} (hy : (∃ z : Int, y = last + unzig a + 18446744073709551616 * z) ∧ -9223372036854775808 ≤ y ∧ y ≤ 9223372036854775807) : DelC b (x ++ [y]) y (m - 1) v false := fun l hl e => by
  obtain ⟨y', rest, s, h1, hy', h2, h3, h4, h5⟩ := h.good hm hl e
  rw [h2] at ht
  injection ht with ht
  injection ht with hta ht
  subst hta
  subst ht
  obtain ⟨⟨z, hz⟩, hr⟩ := hy
  rw [h4] at hz
  obtain rfl : y = y' := by omega
  exact ⟨rfl, rest, s, by omega, h3, rfl, h5⟩
theorem delC_none {b : List UInt8} (ht : takeNum b = none) (x : List Int) (last : Int) (m : Nat) (pc : List UInt8) (bad : Bool) : DelC b x last m pc bad := fun l hl e => by
  unfold deltaB at e
  obtain ⟨s, -, rfl⟩ := Option.map_eq_some_iff.1 e
  rw [takeNum_put (by have := hl.1; omega)] at ht
  cases ht
theorem delC_some {b u : List UInt8} {N : Nat} (ht : takeNum b = some (N, u)) : DelC b [] 0 N u false := fun l hl e => by
  unfold deltaB at e
  obtain ⟨s, hs, rfl⟩ := Option.map_eq_some_iff.1 e
  rw [takeNum_put (by have := hl.1; omega)] at ht
  injection ht with ht
  injection ht with h1 h2
  exact ⟨rfl, l, s, h1, hs, h2.symm, rfl⟩
theorem delC_long {b u : List UInt8} {N : Nat} (ht : takeNum b = some (N, u)) (hN : 4096 < N) : ∀ l, NumL l → deltaB l ≠ some b := fun l hl e => by
  obtain ⟨-, rest, s, h1, -, -, h4⟩ := delC_some ht l hl e
  rw [List.nil_append] at h4
  have := hl.1
  rw [h4] at this
  omega
theorem DelC.done {b : List UInt8} {x : List Int} {last : Int} {pc : List UInt8} {bad : Bool} (h : DelC b x last 0 pc bad) {l : List Int} (hl : NumL l) (e : deltaB l = some b) : bad = false ∧ pc = [] ∧ x = l := by
  obtain ⟨h1, rest, s, h2, h3, h4, h5⟩ := h l hl e
  have : rest = [] := List.eq_nil_of_length_eq_zero h2
  subst this
  obtain rfl : [] = s := Option.some.inj h3
  exact ⟨h1, h4, by rw [h5, List.append_nil]⟩

/-! ### By how much numbers are more than the least -/
theorem frame_none {b : List UInt8} (ht : takeNum b = none) : ∀ l, NumL l → frameB l ≠ b := fun l hl e => by
  rw [← e] at ht
  unfold frameB at ht
  rw [takeNum_put (by have := hl.1; omega)] at ht
  cases ht
theorem frame_len {b u : List UInt8} {N : Nat} (ht : takeNum b = some (N, u)) {l : List Int} (hl : NumL l) (e : frameB l = b) : l.length = N ∧ u = if l = [] then [] else numB (zigN (leastM l)) ++ (numB (widthM (moreM l)) ++ packB (moreM l) (widthM (moreM l))) := by
  rw [← e] at ht
  unfold frameB at ht
  rw [takeNum_put (by have := hl.1; omega)] at ht
  injection ht with ht
  injection ht with h1 h2
  exact ⟨h1, h2.symm⟩
theorem frame_parts {b u : List UInt8} {N : Nat} (ht : takeNum b = some (N, u)) (hN : 0 < N) {l : List Int} (hl : NumL l) (e : frameB l = b) :
    ∃ v t, takeNum u = some (zigN (leastM l), v) ∧ takeNum v = some (widthM (moreM l), t) ∧ widthM (moreM l) ≤ 64 ∧ t = packB (moreM l) (widthM (moreM l)) ∧ unpackM t N (widthM (moreM l)) = moreM l ∧ t.length = bytesN N (widthM (moreM l)) ∧ unzig (zigN (leastM l)) = leastM l ∧ (moreM l).map (fun (m : Nat) => leastM l + (m : Int)) = l := by
  obtain ⟨h1, h2⟩ := frame_len ht hl e
  cases l with
  | nil =>
    rw [List.length_nil] at h1
    omega
  | cons x l =>
    have hne : x :: l ≠ [] := List.cons_ne_nil _ _
    have hm := moreM_lt hl.2
    have hw := width_64 hm
    rw [if_neg hne] at h2
    have hx : ∀ m ∈ moreM (x :: l), m < 2 ^ widthM (moreM (x :: l)) := (width_le hm hw).1 (Nat.le_refl _)
    have e1 := unpack_pack hx
    have e3 := packB_len (moreM (x :: l)) (widthM (moreM (x :: l)))
    rw [moreM_len, h1] at e1 e3
    refine ⟨_, packB (moreM (x :: l)) (widthM (moreM (x :: l))), by rw [h2, takeNum_put (zigN_lt (hl.2 _ (least_mem hne)))], by rw [takeNum_put (by omega)], hw, rfl, e1, e3, unzig_zig _, ?_⟩
    unfold moreM
    rw [List.map_map]
    conv => rhs; rw [← List.map_id (x :: l)]
    refine List.map_congr_left fun y hy => ?_
    have := least_le hy
    show leastM (x :: l) + ((y - leastM (x :: l)).toNat : Int) = y
    omega

/-! ### Bits -/
theorem bitsV_cons (f : Nat → Bool) (n : Nat) : bitsV f (n + 1) = 2 * bitsV (fun q => f (q + 1)) n + (if f 0 = true then 1 else 0) := by
  apply Nat.eq_of_testBit_eq
  intro j
  rw [bitsV_test]
  cases j with
  | zero =>
    rw [Nat.testBit_zero]
    cases h : f 0
    · simp
    · simp
  | succ j =>
    rw [Nat.testBit_succ]
    have h9 : (2 * bitsV (fun q => f (q + 1)) n + (if f 0 = true then 1 else 0)) / 2 = bitsV (fun q => f (q + 1)) n := by
      split <;> omega
    rw [h9, bitsV_test]
    simp
theorem unV_back (b : List UInt8) (w i j : Nat) (hj : j < w) : bitsV (fun q => bitB b (i * w + j + q)) (w - j) = 2 * bitsV (fun q => bitB b (i * w + (j + 1) + q)) (w - (j + 1)) + (if bitB b (i * w + j) = true then 1 else 0) := by
  rw [show w - j = (w - (j + 1)) + 1 by omega, bitsV_cons, Nat.add_zero]
  congr 2
  refine bitsV_congr _ fun q _ => ?_
  rw [show i * w + j + (q + 1) = i * w + (j + 1) + q by omega]
end Go.Proofs.YtojppmnmhdgnnaaGreat
namespace Go.Proofs.YtojppmnmhdgnnaaGreat
set_option linter.unusedVariables false
set_option linter.unusedSimpArgs false
open Go.RowKit

/-- Values whose part of something these bytes are, by an encoding that was used. -/
structure ColC (kind how : Int) (many : Nat) (x : List UInt8) (l : RowM) : Prop where
  all : l.all (fitV kind) = true
  ok : ∀ v ∈ l, v.ok
  len : l.length ≤ 4096
  kok : kindOk kind = true
  lay : layM kind how l = (x, how)
  many : (someM l).length = many
theorem thereL {l : RowM} (h : l.length ≤ 4096) : NumL (thereM l) := ⟨by rw [thereM_len]; exact h, fun x hx => by
  obtain ⟨v, -, rfl⟩ := List.mem_map.1 hx
  split <;> omega⟩
theorem ColC.nums {kind how : Int} {many : Nat} {x : List UInt8} {l : RowM} (h : ColC kind how many x l) : NumL (numsM l) := by
  refine ⟨?_, fun n hn => ?_⟩
  · have h1 := someM_le l
    have h2 := h.len
    unfold numsM
    rw [List.length_map]
    omega
  · obtain ⟨v, hv, rfl⟩ := List.mem_map.1 hn
    unfold someM at hv
    exact (h.ok v (List.mem_filter.1 hv).1).n
theorem ColC.runs {kind : Int} {many : Nat} {x : List UInt8} {l : RowM} (h : ColC kind 2 many x l) : ¬ kind = 3 ∧ runsB (numsM l) = x := by
  have h1 := h.lay
  unfold layM at h1
  by_cases hk : kind = 3
  · subst hk
    rw [if_pos (by decide)] at h1
    injection h1 with _ h1
    exact absurd h1 (by decide)
  · rw [if_neg (by rw [decide_eq_false hk]; decide), if_pos rfl] at h1
    injection h1 with h1 _
    exact ⟨hk, h1⟩
theorem ColC.frame {kind : Int} {many : Nat} {x : List UInt8} {l : RowM} (h : ColC kind 4 many x l) : ¬ kind = 3 ∧ frameB (numsM l) = x := by
  have h1 := h.lay
  unfold layM at h1
  by_cases hk : kind = 3
  · subst hk
    rw [if_pos (by decide)] at h1
    injection h1 with _ h1
    exact absurd h1 (by decide)
  · rw [if_neg (by rw [decide_eq_false hk]; decide), if_neg (by decide), if_pos rfl] at h1
    injection h1 with h1 _
    exact ⟨hk, h1⟩
theorem ColC.delta {kind : Int} {many : Nat} {x : List UInt8} {l : RowM} (h : ColC kind 5 many x l) : ¬ kind = 3 ∧ deltaB (numsM l) = some x := by
  have h1 := h.lay
  unfold layM at h1
  by_cases hk : kind = 3
  · subst hk
    rw [if_pos (by decide)] at h1
    injection h1 with _ h1
    exact absurd h1 (by decide)
  · rw [if_neg (by rw [decide_eq_false hk]; decide), if_neg (by decide), if_neg (by decide), if_neg (by decide), if_pos rfl] at h1
    split at h1
    · rename_i e
      injection h1 with h1 _
      rw [← h1]
      exact ⟨hk, e⟩
    · injection h1 with _ h1
      exact absurd h1 (by decide)
theorem ColC.dict {kind : Int} {many : Nat} {x : List UInt8} {l : RowM} (h : ColC kind 3 many x l) : kind = 3 ∧ wordsB (textsM l) = some x := by
  have h1 := h.lay
  unfold layM at h1
  by_cases hk : kind = 3
  · subst hk
    rw [if_neg (by decide), if_neg (by decide), if_neg (by decide), if_pos rfl] at h1
    split at h1
    · rename_i e
      injection h1 with h1 _
      rw [← h1]
      exact ⟨rfl, e⟩
    · injection h1 with _ h1
      exact absurd h1 (by decide)
  · rw [if_pos (by rw [decide_eq_false hk]; decide)] at h1
    injection h1 with _ h1
    exact absurd h1 (by decide)
theorem ColC.plain {kind : Int} {many : Nat} {x : List UInt8} {l : RowM} (h : ColC kind 1 many x l) : plainB kind l = x := by
  have h1 := h.lay
  unfold layM at h1
  split at h1
  · injection h1 with h1 _
  · rw [if_neg (by decide), if_neg (by decide), if_neg (by decide), if_neg (by decide)] at h1
    injection h1 with h1 _
theorem plain_texts_eq (l : RowM) : plainB 3 l = (textsM l).flatMap (fun s => numB s.length ++ s) := by
  unfold plainB textsM
  rw [List.flatMap_map]
  rfl
theorem plain_nums_eq {kind : Int} (hk : ¬ kind = 3) (l : RowM) : plainB kind l = (numsM l).flatMap (fun n => numB (zigN n)) := by
  unfold plainB numsM
  rw [List.flatMap_map]
  refine congrArg (fun f => (someM l).flatMap f) (funext fun v => ?_)
  rw [if_neg hk]
theorem ColC.texts {kind how : Int} {many : Nat} {x : List UInt8} {l : RowM} (h : ColC kind how many x l) : (textsM l).length ≤ 4096 ∧ ∀ s ∈ textsM l, s.length ≤ 1024 := by
  refine ⟨?_, fun s hs => ?_⟩
  · have h1 := someM_le l
    have h2 := h.len
    unfold textsM
    rw [List.length_map]
    omega
  · obtain ⟨v, hv, rfl⟩ := List.mem_map.1 hs
    unfold someM at hv
    have h1 := List.all_eq_true.1 h.all v (List.mem_filter.1 hv).1
    unfold fitV at h1
    rw [Bool.and_eq_true] at h1
    have h2 := h1.1
    unfold rightV at h2
    split at h2
    · have := of_decide_eq_true h2; rw [this.2]; exact Nat.zero_le _
    · split at h2
      · have := of_decide_eq_true h2; rw [this.2]; exact Nat.zero_le _
      · split at h2
        · have := of_decide_eq_true h2; rw [this]; exact Nat.zero_le _
        · split at h2
          · exact (of_decide_eq_true h2).2
          · cases h2
/-- The parts of a column's bytes. -/
theorem take_parts {kind : Int} {b : List UInt8} {l : RowM} (h : ctakeM kind b = some l) (hin : l.length ≤ 4096 ∧ ∀ v ∈ l, v.ok) :
    howOk (howB b) = true ∧ cputM kind (howB b) l = (b, howB b, 0) ∧ ∃ f t T X, b = f :: t ∧ takeNum t = some (T.length, T ++ X) ∧ runsB (thereM l) = T ∧ ColC kind (howB b) (someM l).length X l := by
  have hp := ctakeM_put h
  have hp' := hp
  unfold cputM at hp
  split at hp
  · injection hp with _ hp
    injection hp with _ hp
    exact absurd hp (by decide)
  · rename_i hko
    rw [Bool.not_eq_false, Bool.and_eq_true] at hko
    split at hp
    · rename_i hall
      injection hp with hb hu
      injection hu with hu _
      have hu2 : (layM kind (howB b) l).2 = howB b := hu
      refine ⟨hko.2, hp', _, _, runsB (thereM l), (layM kind (howB b) l).1, hb.symm, ?_, rfl, ⟨hall, hin.2, hin.1, hko.1, ?_, rfl⟩⟩
      · have h9 := thereL hin.1
        have h8 := runsB_len h9.1 h9.2
        rw [takeNum_put (by omega)]
      · exact Prod.ext rfl hu2
    · injection hp with _ hp
      injection hp with _ hp
      exact absurd hp (by decide)
/-- What was put so is what is taken. -/
theorem take_of_put {kind : Int} {b : List UInt8} {l : RowM} (h : cputM kind (howB b) l = (b, howB b, 0)) (hn : NumsIn l) (hl : l.length ≤ 4096) : kindOk kind = true ∧ ctakeM kind b = some l := by
  have hp := h
  unfold cputM at hp
  split at hp
  · injection hp with _ hp
    injection hp with _ hp
    exact absurd hp (by decide)
  · rename_i hko
    rw [Bool.not_eq_false, Bool.and_eq_true] at hko
    split at hp
    · rename_i hall
      injection hp with hb _
      have h9 := (col_round hko.1 hko.2 hall hn hl).1
      rw [hb] at h9
      exact ⟨hko.1, h9⟩
    · injection hp with _ hp
      injection hp with _ hp
      exact absurd hp (by decide)
/-- Words and places, if texts were put by their words. -/
theorem words_parts {t : List (List UInt8)} {b : List UInt8} (h : t.length ≤ 4096) (hb : wordsB t = some b) :
    ∃ W p, takeM b = some (W, frameB p) ∧ NumL p ∧ (∀ k ∈ p, 0 ≤ k ∧ k < (W.length : Int)) ∧ p.map (fun k => W.getD k.toNat []) = t := by
  unfold wordsB at hb
  obtain ⟨⟨W, p⟩, ho, hb⟩ := Option.bind_eq_some_iff.1 hb
  obtain ⟨hr, -, hp, hin⟩ := ofM_right ho
  have hl := (rightW_le hr).2
  have hl1 := (rightW_le hr).1
  have hs := rightW_strict hr
  unfold putM at hb
  rw [if_pos hr] at hb
  obtain rfl := Option.some.inj hb
  have hk : ∀ x ∈ t, placeM W x = (W.idxOf x : Int) ∧ W.idxOf x < W.length ∧ W.getD (W.idxOf x) [] = x := by
    intro x hx
    have hm := hin x hx
    obtain ⟨e1, e2⟩ := wahd_idx hs hm
    refine ⟨by unfold placeM; rw [if_pos hm], List.idxOf_lt_length_of_mem hm, ?_⟩
    rw [List.getD_eq_getElem?_getD, e1, e2]
    rfl
  have hpi : ∀ k ∈ p, 0 ≤ k ∧ k < (W.length : Int) := by
    intro k hkm
    rw [hp] at hkm
    obtain ⟨x, hx, rfl⟩ := List.mem_map.1 hkm
    obtain ⟨e1, e2, -⟩ := hk x hx
    omega
  refine ⟨W, p, takeM_of hr _, ⟨by rw [hp, List.length_map]; exact h, fun k hkm => by have := hpi k hkm; omega⟩, hpi, ?_⟩
  rw [hp, List.map_map]
  conv => rhs; rw [← List.map_id t]
  refine List.map_congr_left fun x hx => ?_
  obtain ⟨e1, e2, e3⟩ := hk x hx
  show W.getD (placeM W x).toNat [] = x
  rw [e1, Int.toNat_natCast, e3]

/-! ### Values one by one -/
/-- If values were put so by Plain: the texts x were read, m are ahead, and these bytes. -/
def PtC (many : Nat) (b : List UInt8) (x : List (List UInt8)) (m : Nat) (pc : List UInt8) (bad : Bool) : Prop :=
  ∀ l, ColC 3 1 many b l → bad = false ∧ ∃ rest, rest.length = m ∧ pc = rest.flatMap (fun s => numB s.length ++ s) ∧ textsM l = x ++ rest
theorem ptC_start (many : Nat) (b : List UInt8) : PtC many b [] many b false := fun l h => by
  refine ⟨rfl, textsM l, ?_, ?_, rfl⟩
  · rw [← h.many]; unfold textsM; rw [List.length_map]
  · rw [← h.plain, plain_texts_eq]
theorem PtC.good {many m : Nat} {b pc : List UInt8} {x : List (List UInt8)} {bad : Bool} (h : PtC many b x m pc bad) (hm : 0 < m) {l : RowM} (hl : ColC 3 1 many b l) :
    ∃ s rest, rest.length + 1 = m ∧ takeText pc = some (s, rest.flatMap (fun s => numB s.length ++ s)) ∧ textsM l = (x ++ [s]) ++ rest := by
  obtain ⟨-, rest, h1, h2, h3⟩ := h l hl
  cases rest with
  | nil => rw [List.length_nil] at h1; omega
  | cons s rest =>
    have hs := hl.texts.2 s (by rw [h3]; simp)
    refine ⟨s, rest, h1, ?_, by rw [h3, List.append_assoc]; rfl⟩
    rw [h2, List.flatMap_cons, List.append_assoc]
    unfold takeText
    rw [takeNum_put (by omega)]
    show (if _ then _ else _) = _
    rw [if_neg (by rw [List.length_append]; omega), List.take_left, List.drop_left]
theorem PtC.no {many m m' : Nat} {b pc pc' : List UInt8} {x x' : List (List UInt8)} {bad bad' : Bool} (h : PtC many b x m pc bad) (hm : 0 < m) (ht : takeText pc = none) : PtC many b x' m' pc' bad' := fun l hl => by
  obtain ⟨s, rest, -, h2, -⟩ := h.good hm hl
  rw [h2] at ht
  cases ht
theorem PtC.next {many m : Nat} {b pc v s : List UInt8} {x : List (List UInt8)} {bad : Bool} (h : PtC many b x m pc bad) (hm : 0 < m) (ht : takeText pc = some (s, v)) : PtC many b (x ++ [s]) (m - 1) v bad := fun l hl => by
  obtain ⟨s', rest, h1, h2, h3⟩ := h.good hm hl
  rw [h2] at ht
  injection ht with ht
  injection ht with h4 h5
  subst h4
  exact ⟨(h l hl).1, rest, by omega, h5.symm, h3⟩
theorem PtC.done {many : Nat} {b pc : List UInt8} {x : List (List UInt8)} {bad : Bool} (h : PtC many b x 0 pc bad) {l : RowM} (hl : ColC 3 1 many b l) : bad = false ∧ pc = [] ∧ x = textsM l := by
  obtain ⟨h1, rest, h2, h3, h4⟩ := h l hl
  have : rest = [] := List.eq_nil_of_length_eq_zero h2
  subst this
  exact ⟨h1, h3, by rw [h4, List.append_nil]⟩
/-- If values were put so by Plain: the numbers x were read, m are ahead, and these bytes. -/
def PnC (kind : Int) (many : Nat) (b : List UInt8) (x : List Int) (m : Nat) (pc : List UInt8) (bad : Bool) : Prop :=
  ∀ l, ColC kind 1 many b l → bad = false ∧ ∃ rest, rest.length = m ∧ pc = rest.flatMap (fun n => numB (zigN n)) ∧ numsM l = x ++ rest
theorem pnC_start {kind : Int} (hk : ¬ kind = 3) (many : Nat) (b : List UInt8) : PnC kind many b [] many b false := fun l h => by
  refine ⟨rfl, numsM l, ?_, ?_, rfl⟩
  · rw [← h.many]; unfold numsM; rw [List.length_map]
  · rw [← h.plain, plain_nums_eq hk]
theorem PnC.good {kind : Int} {many m : Nat} {b pc : List UInt8} {x : List Int} {bad : Bool} (h : PnC kind many b x m pc bad) (hm : 0 < m) {l : RowM} (hl : ColC kind 1 many b l) :
    ∃ y rest, rest.length + 1 = m ∧ takeNum pc = some (zigN y, rest.flatMap (fun n => numB (zigN n))) ∧ unzig (zigN y) = y ∧ numsM l = (x ++ [y]) ++ rest := by
  obtain ⟨-, rest, h1, h2, h3⟩ := h l hl
  cases rest with
  | nil => rw [List.length_nil] at h1; omega
  | cons y rest =>
    have hy := hl.nums.2 y (by rw [h3]; simp)
    exact ⟨y, rest, h1, by rw [h2, List.flatMap_cons, takeNum_put (zigN_lt hy)], unzig_zig y, by rw [h3, List.append_assoc]; rfl⟩
theorem PnC.no {kind : Int} {many m m' : Nat} {b pc pc' : List UInt8} {x x' : List Int} {bad bad' : Bool} (h : PnC kind many b x m pc bad) (hm : 0 < m) (ht : takeNum pc = none) : PnC kind many b x' m' pc' bad' := fun l hl => by
  obtain ⟨s, rest, -, h2, -⟩ := h.good hm hl
  rw [h2] at ht
  cases ht
theorem PnC.next {kind : Int} {many m a : Nat} {b pc v : List UInt8} {x : List Int} {bad : Bool} (h : PnC kind many b x m pc bad) (hm : 0 < m) (ht : takeNum pc = some (a, v)) : PnC kind many b (x ++ [unzig a]) (m - 1) v bad := fun l hl => by
  obtain ⟨y, rest, h1, h2, h4, h3⟩ := h.good hm hl
  rw [h2] at ht
  injection ht with ht
  injection ht with h5 h6
  subst h5
  rw [h4]
  exact ⟨(h l hl).1, rest, by omega, h6.symm, h3⟩
theorem PnC.done {kind : Int} {many : Nat} {b pc : List UInt8} {x : List Int} {bad : Bool} (h : PnC kind many b x 0 pc bad) {l : RowM} (hl : ColC kind 1 many b l) : bad = false ∧ pc = [] ∧ x = numsM l := by
  obtain ⟨h1, rest, h2, h3, h4⟩ := h l hl
  have : rest = [] := List.eq_nil_of_length_eq_zero h2
  subst this
  exact ⟨h1, h3, by rw [h4, List.append_nil]⟩
/-- What the reference takes by an encoding. -/
def NT (kind : Int) (l : RowM) : List Int × List (List UInt8) := if kind = 3 then ([], textsM l) else (numsM l, [])
end Go.Proofs.YtojppmnmhdgnnaaGreat
