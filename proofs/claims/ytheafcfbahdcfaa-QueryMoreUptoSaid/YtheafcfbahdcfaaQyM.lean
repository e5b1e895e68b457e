/- Tables, queries, and what these tell and need: plain data. -/
import Derived.Test.YtheafcfbahdcfaaAkD
import Derived.Test.YtheafcfbahdcfaaAcM
namespace Go.Proofs.Ytheafcfbahdcfaa
open Go.RowKit

structure Tb where
  name : List UInt8
  kinds : List Int
deriving DecidableEq, Inhabited
structure Jn where
  table : List UInt8
  left : Int
  right : Int
structure Ag where
  op : Int
  col : Int
structure Ky where
  col : Int
  down : Bool
structure Qy where
  frm : List UInt8
  joins : List Jn
  asked : List Nd
  by_ : List Int
  aggs : List Ag
  want : List Int
  keys : List Ky

def nameB (c : UInt8) : Bool := decide (97 ≤ c.toNat ∧ c.toNat ≤ 122) || decide (48 ≤ c.toNat ∧ c.toNat ≤ 57) || decide (c.toNat = 95)
def nameOk (s : List UInt8) : Bool := s.all nameB && decide (1 ≤ s.length ∧ s.length ≤ 20)
def kindT (k : Int) : Bool := decide (1 ≤ k ∧ k ≤ 3)
/-- A table's place. -/
def findT : List Tb → List UInt8 → Option Nat
  | [], _ => none
  | t :: l, s => if t.name = s then some 0 else (findT l s).map (· + 1)
def tableOk (t : Tb) : Bool := nameOk t.name && decide (1 ≤ t.kinds.length ∧ t.kinds.length ≤ 8) && t.kinds.all kindT
def tablesOk (l : List Tb) : Bool := decide (1 ≤ l.length ∧ l.length ≤ 4) && l.all tableOk && decide ((l.map Tb.name).Nodup)
def namesM (q : Qy) : List (List UInt8) := q.frm :: q.joins.map Jn.table
def placesM (l : List Tb) : List (List UInt8) → Option (List Nat)
  | [] => some []
  | s :: r => match findT l s with | none => none | some k => (placesM l r).map (k :: ·)
/-- Why tables can't be joined so. -/
def joinedE (l : List Tb) (q : Qy) : Int :=
  if tablesOk l = false then 230 else match placesM l (namesM q) with | none => 231 | some p => if p.Nodup then 0 else 232
def joinedP (l : List Tb) (q : Qy) : List Nat := if joinedE l q = 0 then (placesM l (namesM q)).getD [] else []
def tabK (l : List Tb) (k : Nat) : List Int := (l.getD k default).kinds
/-- The kinds of each table that is joined. -/
def ktabs (l : List Tb) (q : Qy) : List (List Int) := (joinedP l q).map (tabK l)
/-- Where each one's columns begin. -/
def offs : Nat → List (List Int) → List Nat
  | _, [] => []
  | a, k :: t => a :: offs (a + k.length) t
theorem offs_len : ∀ (l : List (List Int)) (a : Nat), (offs a l).length = l.length
  | [], _ => rfl
  | k :: l, a => by rw [offs, List.length_cons, offs_len l, List.length_cons]
theorem offs_snoc : ∀ (l : List (List Int)) (a : Nat) (k : List Int), offs a (l ++ [k]) = offs a l ++ [a + l.flatten.length]
  | [], a, k => by simp [offs]
  | x :: l, a, k => by
    rw [List.cons_append, offs, offs, offs_snoc l, List.cons_append, List.flatten_cons, List.length_append, Nat.add_assoc]
/-- Why joins may not be. -/
def joinsF (kinds : List Int) (first : Nat) : Nat → List (List Int) → List Jn → Bool → Bool → Int
  | a, x :: y :: t, j :: js, st, ch =>
    if j.left < 0 ∨ ((a + x.length : Nat) : Int) ≤ j.left ∨ j.right < 0 ∨ (y.length : Int) ≤ j.right then 1
    else if kinds.getD j.left.toNat 0 ≠ kinds.getD (a + x.length + j.right.toNat) 0 then 7
    else joinsF kinds first (a + x.length) (y :: t) js (st && decide (j.left < (first : Int))) (ch && decide ((a : Int) ≤ j.left))
  | _, _, _, st, ch => if st || ch then 0 else 232
def joinsM (k : List (List Int)) (q : Qy) : Int := joinsF k.flatten (k.headD []).length 0 k q.joins true true
def inK (kinds : List Int) (c : Int) : Bool := decide (0 ≤ c ∧ c < (kinds.length : Int))
def aggOk (kinds : List Int) (x : Ag) : Bool := if x.op = 1 then decide (x.col = 0) else decide (2 ≤ x.op ∧ x.op ≤ 5) && inK kinds x.col
def aggK (kinds : List Int) (x : Ag) : Int := if x.op = 4 ∨ x.op = 5 then kinds.getD x.col.toNat 0 else 2
def aggBad (kinds : List Int) (x : Ag) : Bool := decide (x.op = 3 ∧ kinds.getD x.col.toNat 0 ≠ 2)
/-- The kinds of what is told of groups. -/
def groupK (kinds by_ : List Int) (l : List Ag) : List Int × Int :=
  if 8 < by_.length + l.length then ([], 3)
  else if (by_.all (inK kinds) && decide by_.Nodup) = false then ([], 1)
  else if l.all (aggOk kinds) = false then ([], 1)
  else if l.any (aggBad kinds) = true then ([], 7)
  else (by_.map (fun c => kinds.getD c.toNat 0) ++ l.map (aggK kinds), 0)
def toldM (kinds : List Int) (q : Qy) : List Int × Int :=
  if 0 < q.by_.length + q.aggs.length then (if 0 < q.want.length then ([], 233) else groupK kinds q.by_ q.aggs)
  else if q.want.length < 1 ∨ 8 < q.want.length then ([], 233)
  else if q.want.all (inK kinds) = true then (q.want.map fun c => kinds.getD c.toNat 0, 0) else ([], 233)
def orderE (cols : Nat) (l : List Ky) : Int :=
  if 8 < l.length then 3 else if (l.all (fun k => decide (0 ≤ k.col ∧ k.col < (cols : Int))) && decide (l.map Ky.col).Nodup) = true then 0 else 1
/-- What Check tells of what is joined. -/
def checkK (k : List (List Int)) (q : Qy) : List Int × Int :=
  if joinsM k q ≠ 0 then ([], joinsM k q)
  else if rightN k.flatten q.asked = false then ([], 140)
  else if (toldM k.flatten q).2 ≠ 0 then ([], (toldM k.flatten q).2)
  else if orderE (toldM k.flatten q).1.length q.keys ≠ 0 then ([], orderE (toldM k.flatten q).1.length q.keys)
  else ((toldM k.flatten q).1, 0)
def checkM (l : List Tb) (q : Qy) : List Int × Int := if joinedE l q ≠ 0 then ([], joinedE l q) else checkK (ktabs l q) q
/-- The columns that joins go by. -/
def joinCols : Nat → List (List Int) → List Jn → List Int
  | a, x :: t, j :: js => j.left :: (((a + x.length : Nat) : Int) + j.right) :: joinCols (a + x.length) t js
  | _, _, _ => []
/-- All columns that are asked for, joined by or told. -/
def allCols (k : List (List Int)) (q : Qy) : List Int :=
  colsR q.asked ++ q.by_ ++ q.want ++ (q.aggs.filter fun a => decide (a.op ≠ 1)).map Ag.col ++ joinCols 0 k q.joins
/-- Of one table. -/
def someC (all : List Int) (a n : Nat) : List Int :=
  let l := ((List.range n).filter fun c => decide (((a + c : Nat) : Int) ∈ all)).map fun c : Nat => (c : Int)
  if l = [] then [0] else l
def needsF (all : List Int) : Nat → List (List Int) → List (List Int)
  | _, [] => []
  | a, x :: t => someC all a x.length :: needsF all (a + x.length) t
def needsM (l : List Tb) (q : Qy) : List (List Int) × Int :=
  if (checkM l q).2 ≠ 0 then ([], (checkM l q).2) else (needsF (allCols (ktabs l q) q) 0 (ktabs l q), 0)

/-! ### More tables -/
theorem findT_lt : ∀ (l : List Tb) (s : List UInt8) (k : Nat), findT l s = some k → k < l.length ∧ (l.getD k default).name = s
  | [], _, _, h => by cases h
  | t :: l, s, k, h => by
    rw [findT] at h
    split at h
    · rename_i e
      obtain rfl := Option.some.inj h
      exact ⟨by simp, e⟩
    · obtain ⟨j, hj, rfl⟩ := Option.map_eq_some_iff.1 h
      obtain ⟨h1, h2⟩ := findT_lt l s j hj
      exact ⟨by rw [List.length_cons]; omega, h2⟩
theorem findT_none : ∀ (l : List Tb) (s : List UInt8), findT l s = none ↔ s ∉ l.map Tb.name
  | [], _ => by simp [findT]
  | t :: l, s => by
    rw [findT, List.map_cons, List.mem_cons, not_or]
    split
    · rename_i e
      simp [e]
    · rename_i e
      rw [Option.map_eq_none_iff, findT_none l s]
      exact ⟨fun h => ⟨fun h2 => e h2.symm, h⟩, fun h => h.2⟩
theorem findT_more : ∀ (m l : List Tb) (s : List UInt8), s ∉ m.map Tb.name → findT (m ++ l) s = (findT l s).map (· + m.length)
  | [], l, s, _ => by simp
  | t :: m, l, s, h => by
    rw [List.map_cons, List.mem_cons, not_or] at h
    rw [List.cons_append, findT, if_neg (fun e => h.1 e.symm), findT_more m l s h.2, Option.map_map]
    congr 1
theorem placesM_more {m l : List Tb} (hd : ((m ++ l).map Tb.name).Nodup) : ∀ (r : List (List UInt8)) (p : List Nat), placesM l r = some p → placesM (m ++ l) r = some (p.map (· + m.length))
  | [], p, h => by
    obtain rfl : [] = p := Option.some.inj h
    rfl
  | s :: r, p, h => by
    rw [placesM] at h ⊢
    cases e : findT l s with
    | none => rw [e] at h; cases h
    | some k =>
      rw [e] at h
      obtain ⟨p1, h1, rfl⟩ := Option.map_eq_some_iff.1 (show (placesM l r).map (k :: ·) = some p from h)
      have hin : s ∈ l.map Tb.name := by
        by_cases hs : s ∈ l.map Tb.name
        · exact hs
        · rw [(findT_none l s).2 hs] at e
          cases e
      rw [List.map_append] at hd
      have hs : s ∉ m.map Tb.name := fun h2 => (List.nodup_append.1 hd).2.2 s h2 s hin rfl
      rw [findT_more m l s hs, e, ]
      show (placesM (m ++ l) r).map _ = _
      rw [placesM_more (by rw [List.map_append]; exact hd) r p1 h1]
      rfl
theorem tabK_more (m l : List Tb) (k : Nat) : tabK (m ++ l) (k + m.length) = tabK l k := by
  unfold tabK
  rw [List.getD_eq_getElem?_getD, List.getElem?_append_right (by omega), Nat.add_sub_cancel, ← List.getD_eq_getElem?_getD]
theorem more_same {m l : List Tb} {q : Qy} (h1 : tablesOk (m ++ l) = true) (h2 : joinedE l q = 0) : joinedE (m ++ l) q = 0 ∧ ktabs (m ++ l) q = ktabs l q := by
  have hd : ((m ++ l).map Tb.name).Nodup := by
    unfold tablesOk at h1
    rw [Bool.and_eq_true] at h1
    exact of_decide_eq_true h1.2
  have hx := h2
  unfold joinedE at h2
  split at h2
  · cases h2
  · cases e : placesM l (namesM q) with
    | none => rw [e] at h2; cases h2
    | some p =>
      rw [e] at h2
      have hp : p.Nodup := by
        by_cases hp : p.Nodup
        · exact hp
        · have h9 : (if p.Nodup then (0 : Int) else 232) = 0 := h2
          rw [if_neg hp] at h9
          exact absurd h9 (by decide)
      have e2 := placesM_more hd _ _ e
      have hp2 : (p.map (· + m.length)).Nodup := List.Pairwise.map (· + m.length) (fun a b (h : a ≠ b) => (by omega : a + m.length ≠ b + m.length)) hp
      have hj : joinedE (m ++ l) q = 0 := by
        unfold joinedE
        rw [h1, if_neg (by decide), e2]
        exact if_pos hp2
      refine ⟨hj, ?_⟩
      unfold ktabs joinedP
      rw [if_pos hj, if_pos hx, e2, e]
      show (p.map (· + m.length)).map (tabK (m ++ l)) = p.map (tabK l)
      rw [List.map_map]
      exact List.map_congr_left fun k _ => tabK_more m l k
/-- A query that may be asked may be asked of more tables. -/
theorem check_more {m l : List Tb} {q : Qy} (h1 : tablesOk (m ++ l) = true) (h2 : (checkM l q).2 = 0) : checkM (m ++ l) q = checkM l q ∧ needsM (m ++ l) q = needsM l q := by
  have hj : joinedE l q = 0 := by
    by_cases hj : joinedE l q = 0
    · exact hj
    · unfold checkM at h2
      rw [if_pos hj] at h2
      exact absurd h2 hj
  obtain ⟨h3, h4⟩ := more_same h1 hj
  have h5 : checkM (m ++ l) q = checkM l q := by
    unfold checkM
    rw [h3, hj, h4]
  refine ⟨h5, ?_⟩
  unfold needsM
  rw [h5, h4]
end Go.Proofs.Ytheafcfbahdcfaa
