/- What is taken from a column's bytes: plain data. A column taken from its bytes: plain data. -/
import Derived.Test.YtojppmnmhdgnnaaGreatMCoMP
import Derived.Test.YtojppmnmhdgnnaaGreatMDiMO
namespace Go.Proofs.YtojppmnmhdgnnaaGreat
set_option linter.unusedVariables false
set_option linter.unusedSimpArgs false
open Go.RowKit

/-! ### Runs -/
def flatR (l : List (Int × Nat)) : List Int := l.flatMap fun r => List.replicate r.2 r.1
def sumR (l : List (Int × Nat)) : Nat := (l.map (·.2)).sum
theorem flatR_len : ∀ l : List (Int × Nat), (flatR l).length = sumR l
  | [] => rfl
  | r :: l => by
    have := flatR_len l
    unfold flatR sumR at *
    rw [List.flatMap_cons, List.length_append, List.length_replicate, this, List.map_cons, List.sum_cons]
def chainR : List (Int × Nat) → Bool
  | a :: b :: l => decide (a.1 ≠ b.1) && chainR (b :: l)
  | _ => true
def sumOk (l : List (Int × Nat)) : Bool := l.all (fun r => decide (1 ≤ r.2)) && decide (sumR l ≤ 4096)
def rightR (l : List (Int × Nat)) : Bool := chainR l && sumOk l
theorem flat_runsF : ∀ (x : Int) (l : List Int) (k : Nat), flatR (runsF (x :: l) k) = List.replicate k x ++ x :: l
  | x, [], k => by
    rw [runsF]
    show List.replicate (k + 1) x ++ [] = _
    rw [List.append_nil, List.replicate_succ']
  | x, y :: l, k => by
    rw [runsF]
    by_cases h : x = y
    · subst h
      rw [if_pos rfl, flat_runsF x l (k + 1), List.replicate_succ', List.append_assoc]
      rfl
    · rw [if_neg h]
      show List.replicate (k + 1) x ++ flatR (runsF (y :: l) 0) = _
      rw [flat_runsF y l 0, List.replicate_succ', List.append_assoc]
      rfl
theorem flat_runs (l : List Int) : flatR (runsM l) = l := by
  cases l with
  | nil => rfl
  | cons x l => exact flat_runsF x l 0
theorem runsF_head : ∀ (x : Int) (l : List Int) (k : Nat), ∃ n t, runsF (x :: l) k = (x, n) :: t
  | x, [], k => ⟨_, _, rfl⟩
  | x, y :: l, k => by
    rw [runsF]
    by_cases h : x = y
    · subst h
      rw [if_pos rfl]
      exact runsF_head x l (k + 1)
    · rw [if_neg h]
      exact ⟨_, _, rfl⟩
theorem chain_runsF : ∀ (x : Int) (l : List Int) (k : Nat), chainR (runsF (x :: l) k) = true
  | x, [], k => rfl
  | x, y :: l, k => by
    rw [runsF]
    by_cases h : x = y
    · subst h
      rw [if_pos rfl]
      exact chain_runsF x l (k + 1)
    · rw [if_neg h]
      have ih := chain_runsF y l 0
      obtain ⟨n, t, ht⟩ := runsF_head y l 0
      rw [ht] at ih ⊢
      rw [chainR, ih]
      simp [h]
theorem right_runs {l : List Int} (h : l.length ≤ 4096) : rightR (runsM l) = true := by
  have h1 : chainR (runsM l) = true := by
    cases l with
    | nil => rfl
    | cons x l => exact chain_runsF x l 0
  have h2 : sumR (runsM l) = l.length := by rw [← flatR_len, flat_runs]
  have h3 : (runsM l).all (fun r => decide (1 ≤ r.2)) = true := by
    rw [List.all_eq_true]
    intro r hr
    exact decide_eq_true (runsF_many l 0 r hr).1
  unfold rightR sumOk
  rw [h1, h3, h2, decide_eq_true h]
  rfl
/-- So many runs from bytes. -/
def runsRd : Nat → List UInt8 → Option (List (Int × Nat) × List UInt8)
  | 0, u => some ([], u)
  | n + 1, u =>
    match takeNum u with
    | none => none
    | some (a, v) =>
      match takeNum v with
      | none => none
      | some (c, t) => (runsRd n t).map fun x => ((unzig a, min c 4097) :: x.1, x.2)
def runsTakeM (b : List UInt8) : Option (List Int) :=
  match takeNum b with
  | none => none
  | some (n, u) => (runsRd n u).bind fun x => if x.2 = [] ∧ rightR x.1 = true then some (flatR x.1) else none
theorem runsRd_put : ∀ (l : List (Int × Nat)) (U : List UInt8), (∀ r ∈ l, -9223372036854775808 ≤ r.1 ∧ r.1 ≤ 9223372036854775807 ∧ r.2 ≤ 4096) → runsRd l.length (l.flatMap runB ++ U) = some (l, U)
  | [], U, _ => rfl
  | r :: l, U, h => by
    have hr := h r (List.mem_cons_self ..)
    have ih := runsRd_put l U fun x hx => h x (List.mem_cons_of_mem _ hx)
    rw [List.length_cons, List.flatMap_cons, runsRd, runB, List.append_assoc, List.append_assoc, takeNum_put (zigN_lt ⟨hr.1, hr.2.1⟩)]
    dsimp only
    rw [takeNum_put (by omega)]
    dsimp only
    rw [ih, unzig_zig, Nat.min_eq_left (by omega)]
    rfl
theorem runs_round {l : List Int} (h : l.length ≤ 4096) (hi : ∀ x ∈ l, -9223372036854775808 ≤ x ∧ x ≤ 9223372036854775807) : runsTakeM (runsB l) = some l := by
  have hl := runsF_len l 0
  unfold runsTakeM runsB
  rw [takeNum_put (by unfold runsM; omega)]
  dsimp only
  have h1 := runsRd_put (runsM l) [] (fun r hr => ⟨(hi _ (runsF_mem l 0 r hr)).1, (hi _ (runsF_mem l 0 r hr)).2, by have := (runsF_many l 0 r hr).2; omega⟩)
  rw [List.append_nil] at h1
  rw [h1]
  show (if _ then _ else _) = _
  rw [if_pos ⟨rfl, right_runs h⟩, flat_runs]

/-! ### Bits -/
def bitB (b : List UInt8) (p : Nat) : Bool := (b.getD (p / 8) 0).toNat.testBit (p % 8)
/-- The lower bits of a number that stands so. -/
def unV (b : List UInt8) (w i got : Nat) : Nat := bitsV (fun k => bitB b (i * w + k)) got
theorem unV_step (b : List UInt8) (w i got m at_ : Nat) (hat : at_ = i * w + got) (hm : at_ % 8 + m ≤ 8) :
    unV b w i got ||| (((b.getD (at_ / 8) 0).toNat / 2 ^ (at_ % 8)) % 2 ^ m) * 2 ^ got = unV b w i (got + m) := by
  apply Nat.eq_of_testBit_eq
  intro j
  unfold unV
  rw [Nat.testBit_or, bitsV_test, bitsV_test, Nat.testBit_mul_two_pow, Nat.testBit_mod_two_pow, Nat.testBit_div_two_pow]
  by_cases h1 : j < got
  · simp [h1, show ¬ got ≤ j from by omega, show j < got + m from by omega]
  · by_cases h2 : j < got + m
    · have e1 : (i * w + j) / 8 = at_ / 8 := by omega
      have e2 : (i * w + j) % 8 = at_ % 8 + (j - got) := by omega
      simp only [bitB, e1, e2]
      simp [h1, h2, show got ≤ j from by omega, show j - got < m from by omega, Nat.add_comm]
    · simp [h1, h2, show ¬ j - got < m from by omega]
theorem unV_zero (b : List UInt8) (w i : Nat) : unV b w i 0 = 0 := rfl
theorem unV_lt (b : List UInt8) (w i g : Nat) : unV b w i g < 2 ^ g := bitsV_lt _ g
def unpackM (b : List UInt8) (many w : Nat) : List Nat := (List.range many).map fun i => unV b w i w
theorem unpackM_len (b : List UInt8) (m w : Nat) : (unpackM b m w).length = m := by simp [unpackM]
/-- Nothing stands behind the last number's bits. -/
def tailOk (b : List UInt8) (at_ : Nat) : Bool := decide (at_ % 8 = 0) || decide ((b.getD (b.length - 1) 0).toNat / 2 ^ (at_ % 8) = 0)
theorem bitB_pack (l : List Nat) (w p : Nat) (hp : p / 8 < bytesN l.length w) : bitB (packB l w) p = bitPk l w p := by
  unfold bitB packB
  rw [bits_old l w _ _ _ hp, bitsV_test, show 8 * (p / 8) + p % 8 = p from Nat.div_add_mod p 8, decide_eq_true (Nat.mod_lt p (by omega))]
  unfold bitPk
  by_cases h : p < l.length * w <;> simp [h]
theorem unpack_pack {l : List Nat} {w : Nat} (h : ∀ x ∈ l, x < 2 ^ w) : unpackM (packB l w) l.length w = l := by
  apply List.ext_getElem
  · rw [unpackM_len]
  · intro i h1 h2
    simp only [unpackM, List.getElem_map, List.getElem_range]
    unfold unV
    rw [bitsV_congr (g := fun k => (l[i]).testBit k) w fun k hk => ?_]
    · exact bitsV_of _ _ (h _ (List.getElem_mem _))
    · have h3 : i * w + k < l.length * w := by
        have : (i + 1) * w ≤ l.length * w := Nat.mul_le_mul_right _ h2
        rw [Nat.add_mul, Nat.one_mul] at this
        omega
      rw [bitB_pack l w _ (by unfold bytesN; omega), bitPk_in l w i k h2 hk]
theorem tail_pack (l : List Nat) (w : Nat) : tailOk (packB l w) (l.length * w) = true := by
  unfold tailOk
  by_cases h : l.length * w % 8 = 0
  · rw [decide_eq_true h, Bool.true_or]
  · rw [Bool.or_eq_true]
    refine .inr (decide_eq_true ?_)
    apply Nat.eq_of_testBit_eq
    intro j
    rw [Nat.testBit_div_two_pow, Nat.zero_testBit, packB_len]
    have hn : bytesN l.length w - 1 < bytesN l.length w := by unfold bytesN; omega
    unfold packB
    rw [bits_old l w _ _ _ hn, bitsV_test]
    have : ¬ 8 * (bytesN l.length w - 1) + (j + l.length * w % 8) < l.length * w := by unfold bytesN; omega
    simp [this]
def unframeM (b : List UInt8) : Option (List Int) :=
  match takeNum b with
  | none => none
  | some (many, u) =>
    if many = 0 then if u = [] then some [] else none
    else if 4096 < many then none
    else match takeNum u with
    | none => none
    | some (z, v) =>
      match takeNum v with
      | none => none
      | some (w, t) =>
        if 64 < w ∨ t.length ≠ bytesN many w ∨ tailOk t (many * w) = false ∨ widthM (unpackM t many w) ≠ w ∨ 0 ∉ unpackM t many w then none
        else if ∀ m ∈ unpackM t many w, unzig z + (m : Int) ≤ 9223372036854775807 then some ((unpackM t many w).map fun (m : Nat) => unzig z + (m : Int)) else none
theorem frame_round {l : List Int} (h : l.length ≤ 4096) (hi : ∀ x ∈ l, -9223372036854775808 ≤ x ∧ x ≤ 9223372036854775807) : unframeM (frameB l) = some l := by
  unfold unframeM frameB
  rw [takeNum_put (by omega)]
  dsimp only
  cases l with
  | nil => rfl
  | cons x l =>
    have hne : x :: l ≠ [] := List.cons_ne_nil _ _
    have hm := moreM_lt hi
    have hw := width_64 hm
    rw [if_neg (by rw [List.length_cons]; omega), if_neg (by omega), if_neg hne, takeNum_put (zigN_lt (hi _ (least_mem hne)))]
    dsimp only
    rw [takeNum_put (by omega)]
    dsimp only
    have hx : ∀ m ∈ moreM (x :: l), m < 2 ^ widthM (moreM (x :: l)) := (width_le hm hw).1 (Nat.le_refl _)
    have e1 := unpack_pack hx
    have e2 := tail_pack (moreM (x :: l)) (widthM (moreM (x :: l)))
    have e3 := packB_len (moreM (x :: l)) (widthM (moreM (x :: l)))
    rw [moreM_len] at e1 e2 e3
    rw [e1, e2, e3, unzig_zig]
    have e4 : 0 ∈ moreM (x :: l) := by
      unfold moreM
      refine List.mem_map.2 ⟨_, least_mem hne, ?_⟩
      omega
    rw [if_neg (by
      rintro (h | h | h | h | h)
      · omega
      · exact h rfl
      · cases h
      · exact h rfl
      · exact h e4)]
    have e5 : (moreM (x :: l)).map (fun (m : Nat) => leastM (x :: l) + (m : Int)) = x :: l := by
      unfold moreM
      rw [List.map_map]
      conv => rhs; rw [← List.map_id (x :: l)]
      refine List.map_congr_left fun y hy => ?_
      have := least_le hy
      show leastM (x :: l) + ((y - leastM (x :: l)).toNat : Int) = y
      omega
    rw [e5, if_pos]
    intro m hmm
    obtain ⟨y, hy, rfl⟩ := List.mem_map.1 (show m ∈ (x :: l).map fun n => (n - leastM (x :: l)).toNat from hmm)
    have := least_le hy
    have := (hi y hy).2
    omega

/-! ### Steps -/
def deltaRd : Nat → Int → List UInt8 → Option (List Int × List UInt8)
  | 0, _, u => some ([], u)
  | n + 1, last, u =>
    match takeNum u with
    | none => none
    | some (z, v) =>
      if -9223372036854775808 ≤ last + unzig z ∧ last + unzig z ≤ 9223372036854775807 then (deltaRd n (last + unzig z) v).map fun x => ((last + unzig z) :: x.1, x.2) else none
def deltaTakeM (b : List UInt8) : Option (List Int) :=
  match takeNum b with
  | none => none
  | some (n, u) => if 4096 < n then none else (deltaRd n 0 u).bind fun x => if x.2 = [] then some x.1 else none
theorem deltaRd_put : ∀ (l : List Int) (a : Int) (s : List Int) (U : List UInt8), (∀ x ∈ l, -9223372036854775808 ≤ x ∧ x ≤ 9223372036854775807) → stepsM a l = some s → deltaRd l.length a (s.flatMap (fun n => numB (zigN n)) ++ U) = some (l, U)
  | [], a, s, U, _, hs => by
    obtain rfl : [] = s := Option.some.inj hs
    rfl
  | x :: l, a, s, U, h, hs => by
    rw [stepsM] at hs
    split at hs
    · rename_i hk
      have hk' := of_decide_eq_true (show decide _ = true from hk)
      cases e : stepsM x l with
      | none => rw [e] at hs; cases hs
      | some t =>
        rw [e] at hs
        obtain rfl : (x - a) :: t = s := Option.some.inj hs
        have ih := deltaRd_put l x t U (fun y hy => h y (List.mem_cons_of_mem _ hy)) e
        have hx := h x (List.mem_cons_self ..)
        rw [List.length_cons, List.flatMap_cons, List.append_assoc, deltaRd, takeNum_put (zigN_lt hk')]
        dsimp only
        rw [unzig_zig, show a + (x - a) = x from by omega, if_pos hx, ih]
        rfl
    · cases hs
theorem delta_round {l : List Int} {b : List UInt8} (h : l.length ≤ 4096) (hi : ∀ x ∈ l, -9223372036854775808 ≤ x ∧ x ≤ 9223372036854775807) (hb : deltaB l = some b) : deltaTakeM b = some l := by
  unfold deltaB at hb
  cases e : stepsM 0 l with
  | none => rw [e] at hb; cases hb
  | some s =>
    rw [e] at hb
    obtain rfl := Option.some.inj hb
    have h1 := deltaRd_put l 0 s [] hi e
    rw [List.append_nil] at h1
    unfold deltaTakeM
    rw [takeNum_put (by omega)]
    dsimp only
    rw [if_neg (by omega), h1]
    rfl
end Go.Proofs.YtojppmnmhdgnnaaGreat
namespace Go.Proofs.YtojppmnmhdgnnaaGreat
set_option linter.unusedVariables false
set_option linter.unusedSimpArgs false
open Go.RowKit

def namedM (b : List UInt8) : Option (List (List UInt8)) :=
  (takeM b).bind fun x => (unframeM x.2).bind fun ps => if ∀ k ∈ ps, 0 ≤ k ∧ k < (x.1.length : Int) then some (ps.map fun k => x.1.getD k.toNat []) else none
def numsRd : Nat → List UInt8 → Option (List Int × List UInt8)
  | 0, u => some ([], u)
  | n + 1, u => match takeNum u with | none => none | some (z, v) => (numsRd n v).map fun x => (unzig z :: x.1, x.2)
def textsRd : Nat → List UInt8 → Option (List (List UInt8) × List UInt8)
  | 0, u => some ([], u)
  | n + 1, u => match takeText u with | none => none | some (s, v) => (textsRd n v).map fun x => (s :: x.1, x.2)
def plainTk (kind : Int) (many : Nat) (b : List UInt8) : Option (List Int × List (List UInt8)) :=
  if kind = 3 then (textsRd many b).bind fun x => if x.2 = [] then some ([], x.1) else none
  else (numsRd many b).bind fun x => if x.2 = [] then some (x.1, []) else none
def takesM (kind how : Int) (many : Nat) (b : List UInt8) : Option (List Int × List (List UInt8)) :=
  if how = 1 then plainTk kind many b
  else if how = 2 then (runsTakeM b).map fun x => (x, [])
  else if how = 3 then (namedM b).map fun x => ([], x)
  else if how = 4 then (unframeM b).map fun x => (x, [])
  else if how = 5 then (deltaTakeM b).map fun x => (x, [])
  else none
def splitM : List UInt8 → Option (List Int × List UInt8)
  | [] => none
  | _ :: t => (takeNum t).bind fun x => if x.2.length < x.1 then none else (runsTakeM (x.2.take x.1)).map fun l => (l, x.2.drop x.1)
/-- The values put together. -/
def joinF (kind : Int) : List Int → List Int → List (List UInt8) → Option RowM
  | [], _, _ => some []
  | t :: r, n, s =>
    if t = 0 then (joinF kind r n s).map (⟨0, 0, []⟩ :: ·)
    else if kind = 3 then match s with | [] => none | x :: q => (joinF kind r n q).map (⟨kind, 0, x⟩ :: ·)
    else match n with | [] => none | x :: q => (joinF kind r q s).map (⟨kind, x, []⟩ :: ·)
theorem joinF_null (kind : Int) (r n : List Int) (s : List (List UInt8)) : joinF kind (0 :: r) n s = (joinF kind r n s).map (⟨0, 0, []⟩ :: ·) := by
  rw [joinF.eq_def]
  exact if_pos rfl
theorem joinF_text (r n : List Int) (x : List UInt8) (q : List (List UInt8)) {kind : Int} (h : kind = 3) : joinF kind (1 :: r) n (x :: q) = (joinF kind r n q).map (⟨kind, 0, x⟩ :: ·) := by
  rw [joinF.eq_def]
  show (if (1 : Int) = 0 then _ else _) = _
  rw [if_neg (by decide), if_pos h]
theorem joinF_num (r : List Int) (x : Int) (q : List Int) (s : List (List UInt8)) {kind : Int} (h : ¬ kind = 3) : joinF kind (1 :: r) (x :: q) s = (joinF kind r q s).map (⟨kind, x, []⟩ :: ·) := by
  rw [joinF.eq_def]
  show (if (1 : Int) = 0 then _ else _) = _
  rw [if_neg (by decide), if_neg h]
def oddM (l : List Int) : Nat := (l.map fun t => (t % 2).toNat).sum
def howB (b : List UInt8) : Int := ((b.headD 0).toNat : Int)
/-- What Take tells of bytes that may be a column's. -/
def ctakeM (kind : Int) (b : List UInt8) : Option RowM :=
  (splitM b).bind fun x =>
    if (decide (howB b = 3) = decide (kind = 3)) ∨ howB b = 1 then
      (takesM kind (howB b) (oddM x.1) x.2).bind fun y => (joinF kind x.1 y.1 y.2).bind fun l => if cputM kind (howB b) l = (b, howB b, 0) then some l else none
    else none
theorem ctakeM_put {kind : Int} {b : List UInt8} {l : RowM} (h : ctakeM kind b = some l) : cputM kind (howB b) l = (b, howB b, 0) := by
  unfold ctakeM at h
  obtain ⟨x, -, h⟩ := Option.bind_eq_some_iff.1 h
  split at h
  · obtain ⟨y, -, h⟩ := Option.bind_eq_some_iff.1 h
    obtain ⟨m, -, h⟩ := Option.bind_eq_some_iff.1 h
    split at h
    · rename_i hp
      obtain rfl := Option.some.inj h
      exact hp
    · cases h
  · cases h
theorem named_round {t : List (List UInt8)} {b : List UInt8} (h : t.length ≤ 4096) (hb : wordsB t = some b) : namedM b = some t := by
  unfold wordsB at hb
  obtain ⟨⟨W, p⟩, ho, hb⟩ := Option.bind_eq_some_iff.1 hb
  obtain ⟨hr, -, hp, hin⟩ := ofM_right ho
  have hl := (rightW_le hr).2
  have hs := rightW_strict hr
  unfold putM at hb
  rw [if_pos hr] at hb
  obtain rfl := Option.some.inj hb
  have hk : ∀ x ∈ t, placeM W x = (W.idxOf x : Int) ∧ W.idxOf x < W.length ∧ W.getD (W.idxOf x) [] = x := by
    intro x hx
    have hm := hin x hx
    obtain ⟨e1, e2⟩ := wahd_idx hs hm
    refine ⟨by unfold placeM; rw [if_pos hm], List.idxOf_lt_length_of_mem hm, ?_⟩
    rw [List.getD_eq_getElem?_getD, e1, e2]
    rfl
  have hpl : p.length ≤ 4096 := by rw [hp, List.length_map]; exact h
  have hpi : ∀ k ∈ p, 0 ≤ k ∧ k < (W.length : Int) := by
    intro k hkm
    rw [hp] at hkm
    obtain ⟨x, hx, rfl⟩ := List.mem_map.1 hkm
    obtain ⟨e1, e2, -⟩ := hk x hx
    omega
  unfold namedM
  show ((takeM (numB W.length ++ putF [] W ++ frameB p)).bind _) = _
  rw [takeM_of hr]
  show ((unframeM (frameB p)).bind _) = _
  rw [frame_round hpl fun k hkm => by have := hpi k hkm; omega]
  show (if _ then _ else _) = _
  rw [if_pos hpi, hp, List.map_map]
  conv => rhs; rw [← List.map_id t]
  refine congrArg some (List.map_congr_left fun x hx => ?_)
  obtain ⟨e1, e2, e3⟩ := hk x hx
  show W.getD (placeM W x).toNat [] = x
  rw [e1, Int.toNat_natCast, e3]
theorem numsRd_put : ∀ (l : List Int) (U : List UInt8), (∀ x ∈ l, -9223372036854775808 ≤ x ∧ x ≤ 9223372036854775807) → numsRd l.length (l.flatMap (fun n => numB (zigN n)) ++ U) = some (l, U)
  | [], U, _ => rfl
  | x :: l, U, h => by
    have ih := numsRd_put l U fun y hy => h y (List.mem_cons_of_mem _ hy)
    rw [List.length_cons, List.flatMap_cons, List.append_assoc, numsRd, takeNum_put (zigN_lt (h x (List.mem_cons_self ..)))]
    dsimp only
    rw [ih, unzig_zig]
    rfl
theorem textsRd_put : ∀ (l : List (List UInt8)) (U : List UInt8), (∀ x ∈ l, x.length ≤ 1024) → textsRd l.length (l.flatMap (fun s => numB s.length ++ s) ++ U) = some (l, U)
  | [], U, _ => rfl
  | x :: l, U, h => by
    have ih := textsRd_put l U fun y hy => h y (List.mem_cons_of_mem _ hy)
    rw [List.length_cons, List.flatMap_cons, List.append_assoc, textsRd, takeText_put (h x (List.mem_cons_self ..))]
    dsimp only
    rw [ih]
    rfl
theorem odd_there : ∀ l : RowM, oddM (thereM l) = (someM l).length
  | [] => rfl
  | v :: l => by
    have ih := odd_there l
    unfold oddM thereM someM at *
    rw [List.map_cons, List.map_cons, List.sum_cons, ih]
    by_cases h : v.k = 0
    · rw [if_pos h, List.filter_cons, if_neg (by simp [h])]
      simp
    · rw [if_neg h, List.filter_cons, if_pos (by simp [h]), List.length_cons]
      omega
theorem lay_same (kind how : Int) (l : RowM) : layM kind (layM kind how l).2 l = layM kind how l := by
  have h1 : layM kind 1 l = (plainB kind l, 1) := by
    unfold layM
    simp
  have key : layM kind how l = (plainB kind l, 1) ∨ (layM kind how l).2 = how := by
    unfold layM
    split
    · exact .inl rfl
    · split
      · rename_i h; exact .inr h.symm
      · split
        · rename_i h; exact .inr h.symm
        · split
          · rename_i h
            split
            · exact .inr h.symm
            · exact .inl rfl
          · split
            · rename_i h
              split
              · exact .inr h.symm
              · exact .inl rfl
            · exact .inl rfl
  rcases key with e | e
  · rw [e]; exact h1
  · rw [e]
def NumsIn (l : RowM) : Prop := ∀ v ∈ l, -9223372036854775808 ≤ v.n ∧ v.n ≤ 9223372036854775807
theorem someM_mem {l : RowM} {v : Va} (h : v ∈ someM l) : v ∈ l := (List.mem_filter.1 h).1
theorem numsM_in {l : RowM} (h : NumsIn l) : ∀ x ∈ numsM l, -9223372036854775808 ≤ x ∧ x ≤ 9223372036854775807 := by
  intro x hx
  obtain ⟨v, hv, rfl⟩ := List.mem_map.1 hx
  exact h v (someM_mem hv)
theorem textsM_in {kind : Int} {l : RowM} (hk : kind = 3) (h : l.all (fitV kind) = true) : ∀ x ∈ textsM l, x.length ≤ 1024 := by
  subst hk
  intro x hx
  obtain ⟨v, hv, rfl⟩ := List.mem_map.1 hx
  obtain ⟨hv1, hv2⟩ := List.mem_filter.1 hv
  have h1 := List.all_eq_true.1 h v hv1
  unfold fitV rightV at h1
  have hv3 : ¬ v.k = 0 := of_decide_eq_true hv2
  rw [decide_eq_false hv3, Bool.false_or, Bool.and_eq_true] at h1
  have h3 : v.k = 3 := of_decide_eq_true h1.2
  have h4 := h1.1
  rw [if_neg hv3, if_neg (by omega), if_neg (by omega), if_pos h3] at h4
  exact (of_decide_eq_true h4).2
theorem plain_round {kind : Int} {l : RowM} (h : l.all (fitV kind) = true) (hi : NumsIn l) : plainTk kind (someM l).length (plainB kind l) = some (if kind = 3 then ([], textsM l) else (numsM l, [])) := by
  unfold plainTk plainB
  by_cases hk : kind = 3
  · have e : (someM l).flatMap (fun v => if kind = 3 then numB v.s.length ++ v.s else numB (zigN v.n)) = (textsM l).flatMap (fun s => numB s.length ++ s) ++ [] := by
      unfold textsM
      rw [List.append_nil, List.flatMap_map]
      congr 1
      funext v
      rw [if_pos hk]
    have el : (someM l).length = (textsM l).length := (List.length_map _).symm
    rw [if_pos hk, if_pos hk, e, el, textsRd_put _ _ (textsM_in hk h)]
    rfl
  · have e : (someM l).flatMap (fun v => if kind = 3 then numB v.s.length ++ v.s else numB (zigN v.n)) = (numsM l).flatMap (fun n => numB (zigN n)) ++ [] := by
      unfold numsM
      rw [List.append_nil, List.flatMap_map]
      congr 1
      funext v
      rw [if_neg hk]
    have el : (someM l).length = (numsM l).length := (List.length_map _).symm
    rw [if_neg hk, if_neg hk, e, el, numsRd_put _ _ (numsM_in hi)]
    rfl
theorem takes_round {kind how : Int} {l : RowM} (h : l.all (fitV kind) = true) (hi : NumsIn l) (hl : l.length ≤ 4096) :
    takesM kind (layM kind how l).2 (someM l).length (layM kind how l).1 = some (if kind = 3 then ([], textsM l) else (numsM l, [])) := by
  have hp := plain_round h hi
  have hsl := someM_le l
  have hn : (numsM l).length ≤ 4096 := by unfold numsM; rw [List.length_map]; omega
  have ht : (textsM l).length ≤ 4096 := by unfold textsM; rw [List.length_map]; omega
  have hni := numsM_in hi
  unfold layM
  split
  · exact hp
  · rename_i hk
    have hk' : decide (how = 3) = decide (kind = 3) := by
      cases h1 : decide (how = 3) <;> cases h2 : decide (kind = 3) <;> simp_all
    split
    · rename_i h2
      subst h2
      have h3 : ¬ kind = 3 := by intro h3; subst h3; simp at hk'
      show (runsTakeM _).map _ = _
      rw [runs_round hn hni, if_neg h3]
      rfl
    · split
      · rename_i h2
        subst h2
        have h3 : ¬ kind = 3 := by intro h3; subst h3; simp at hk'
        show (unframeM _).map _ = _
        rw [frame_round hn hni, if_neg h3]
        rfl
      · split
        · rename_i h2
          subst h2
          have h3 : kind = 3 := by
            by_cases h3 : kind = 3
            · exact h3
            · rw [decide_eq_false h3] at hk'; simp at hk'
          split
          · rename_i b hb
            show (namedM _).map _ = _
            rw [named_round ht hb, if_pos h3]
            rfl
          · exact hp
        · split
          · rename_i h2
            subst h2
            have h3 : ¬ kind = 3 := by intro h3; subst h3; simp at hk'
            split
            · rename_i b hb
              show (deltaTakeM _).map _ = _
              rw [delta_round hn hni hb, if_neg h3]
              rfl
            · exact hp
          · exact hp
theorem someM_cons0 {v : Va} (l : RowM) (h : v.k = 0) : someM (v :: l) = someM l := by
  unfold someM
  rw [List.filter_cons, if_neg (by simp [h])]
theorem someM_cons1 {v : Va} (l : RowM) (h : ¬ v.k = 0) : someM (v :: l) = v :: someM l := by
  unfold someM
  rw [List.filter_cons, if_pos (by simp [h])]
theorem thereM_cons (v : Va) (l : RowM) : thereM (v :: l) = (if v.k = 0 then 0 else 1) :: thereM l := rfl
theorem join_round {kind : Int} (hk0 : ¬ kind = 0) : ∀ l : RowM, l.all (fitV kind) = true → joinF kind (thereM l) (if kind = 3 then [] else numsM l) (if kind = 3 then textsM l else []) = some l
  | [], _ => rfl
  | v :: l, h => by
    rw [List.all_cons, Bool.and_eq_true] at h
    have ih := join_round hk0 l h.2
    have hv := h.1
    unfold fitV rightV at hv
    rw [Bool.and_eq_true, Bool.or_eq_true] at hv
    obtain ⟨hr, hkk⟩ := hv
    rw [thereM_cons]
    by_cases h0 : v.k = 0
    · rw [if_pos h0] at hr
      have hr' := of_decide_eq_true hr
      have ev : v = ⟨0, 0, []⟩ := by
        cases v
        simp_all
      unfold numsM textsM at *
      rw [someM_cons0 l h0, if_pos h0, joinF_null, ih, ev]
      rfl
    · have hkd : v.k = kind := by
        rcases hkk with h | h
        · exact absurd (of_decide_eq_true h) h0
        · exact of_decide_eq_true h
      rw [if_neg h0] at hr
      unfold numsM textsM at *
      rw [someM_cons1 l h0, if_neg h0, List.map_cons, List.map_cons]
      by_cases h3 : kind = 3
      · rw [if_pos h3, if_pos h3] at ih
        rw [if_pos h3, if_pos h3, joinF_text _ _ _ _ h3, ih]
        rw [if_neg (by omega), if_neg (by omega), if_pos (by omega)] at hr
        have hr' := of_decide_eq_true hr
        show some _ = some _
        congr 2
        cases v
        simp_all
      · rw [if_neg h3, if_neg h3] at ih
        rw [if_neg h3, if_neg h3, joinF_num _ _ _ _ h3, ih]
        have hs : v.s = [] := by
          split at hr
          · exact (of_decide_eq_true hr).2
          · split at hr
            · exact of_decide_eq_true hr
            · split at hr
              · exact absurd (by omega) h3
              · cases hr
        show some _ = some _
        congr 2
        cases v
        simp_all
theorem runsB_len {l : List Int} (h : l.length ≤ 4096) (hi : ∀ x ∈ l, -9223372036854775808 ≤ x ∧ x ≤ 9223372036854775807) : (runsB l).length ≤ 9 + 18 * 4096 := by
  have h1 := runsF_len l 0
  have key : ∀ m : List (Int × Nat), (∀ r ∈ m, (runB r).length ≤ 18) → (m.flatMap runB).length ≤ 18 * m.length := by
    intro m
    induction m with
    | nil => simp
    | cons r m ih =>
      intro hm
      have a := hm r (List.mem_cons_self ..)
      have b := ih fun x hx => hm x (List.mem_cons_of_mem _ hx)
      rw [List.flatMap_cons, List.length_append, List.length_cons]
      omega
  have h2 := key (runsM l) fun r hr => by
    have a := hi _ (runsF_mem l 0 r hr)
    have b := (runsF_many l 0 r hr).2
    unfold runB
    rw [List.length_append]
    have c := numB_len (zigN_lt a)
    have d := numB_len (n := r.2) (by omega)
    omega
  unfold runsB
  rw [List.length_append]
  have c := numB_len (n := (runsM l).length) (by unfold runsM; omega)
  unfold runsM at *
  omega
theorem split_round {kind how : Int} {l : RowM} (hl : l.length ≤ 4096) : splitM (colB kind how l).1 = some (thereM l, (layM kind how l).1) := by
  have ht : (thereM l).length ≤ 4096 := by rw [thereM_len]; exact hl
  have hi : ∀ x ∈ thereM l, -9223372036854775808 ≤ x ∧ x ≤ 9223372036854775807 := by
    intro x hx
    obtain ⟨v, -, rfl⟩ := List.mem_map.1 hx
    split <;> omega
  have hb := runsB_len ht hi
  show (takeNum (numB (runsB (thereM l)).length ++ (runsB (thereM l) ++ (layM kind how l).1))).bind _ = _
  rw [takeNum_put (by omega)]
  show (if _ then _ else _) = _
  rw [if_neg (by rw [List.length_append]; omega), List.take_left, List.drop_left, runs_round ht hi]
  rfl
theorem col_round {kind how : Int} {l : RowM} (hk : kindOk kind = true) (hh : howOk how = true) (h : l.all (fitV kind) = true) (hi : NumsIn l) (hl : l.length ≤ 4096) :
    ctakeM kind (colB kind how l).1 = some l ∧ howB (colB kind how l).1 = (colB kind how l).2 := by
  have hu := lay_used kind how l hh
  have e1 : howB (colB kind how l).1 = (layM kind how l).2 := by
    show (((byteN (layM kind how l).2.toNat).toNat : Nat) : Int) = _
    rw [byteN_toNat]
    omega
  have hhu : howOk (layM kind how l).2 = true := decide_eq_true (by omega)
  have e2 : cputM kind (layM kind how l).2 l = ((colB kind how l).1, (layM kind how l).2, 0) := by
    unfold cputM
    rw [hk, hhu, if_neg (by decide), if_pos h]
    unfold colB
    rw [lay_same]
  have e3 : (decide ((layM kind how l).2 = 3) = decide (kind = 3)) ∨ (layM kind how l).2 = 1 := by
    unfold layM
    split
    · exact .inr rfl
    · rename_i hk
      have hk' : decide (how = 3) = decide (kind = 3) := by
        cases h1 : decide (how = 3) <;> cases h2 : decide (kind = 3) <;> simp_all
      split
      · rename_i e; subst e; exact .inl hk'
      · split
        · rename_i e; subst e; exact .inl hk'
        · split
          · rename_i e
            subst e
            split
            · exact .inl hk'
            · exact .inr rfl
          · split
            · rename_i e
              subst e
              split
              · exact .inl hk'
              · exact .inr rfl
            · exact .inr rfl
  refine ⟨?_, e1⟩
  unfold ctakeM
  rw [split_round hl, e1]
  show (if _ then _ else _) = _
  rw [if_pos e3]
  rw [odd_there, takes_round h hi hl]
  have e4 := join_round (kind := kind) (by intro h0; subst h0; exact absurd hk (by decide)) l h
  show ((joinF kind (thereM l) (if kind = 3 then _ else _ : List Int × List (List UInt8)).1 (if kind = 3 then _ else _ : List Int × List (List UInt8)).2).bind _) = _
  by_cases h3 : kind = 3
  · rw [if_pos h3, if_pos h3] at e4
    rw [if_pos h3, e4]
    show (if _ then _ else _) = _
    rw [if_pos e2]
  · rw [if_neg h3, if_neg h3] at e4
    rw [if_neg h3, e4]
    show (if _ then _ else _) = _
    rw [if_pos e2]
end Go.Proofs.YtojppmnmhdgnnaaGreat
