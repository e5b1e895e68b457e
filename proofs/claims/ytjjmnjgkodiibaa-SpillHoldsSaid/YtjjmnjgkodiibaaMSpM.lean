/- Rows on pages, as plain data: a row's bytes, pages laid one at a time, and what a list of rows comes to. -/
import Derived.Test.YtjjmnjgkodiibaaMSpS
namespace Go.Proofs.Ytjjmnjgkodiibaa
open Go.RowKit

/-- A row's bytes. -/
def rowB (r : RowM) : List UInt8 := numB r.length ++ r.flatMap vput
def rowsB (rs : List RowM) : List UInt8 := rs.flatMap rowB
theorem rowB_take {r : RowM} {j : Nat} (hj : j < r.length) : numB r.length ++ (r.take (j + 1)).flatMap vput = (numB r.length ++ (r.take j).flatMap vput) ++ vput r[j] := by
  rw [List.take_succ_eq_append_getElem hj, List.flatMap_append, List.append_assoc]
  simp
theorem vputs_le : ∀ {r : RowM}, (∀ v ∈ r, rightV v = true) → (∀ v ∈ r, v.ok) → (r.flatMap vput).length ≤ 1034 * r.length
  | [], _, _ => by simp
  | v :: r, h1, h2 => by
    have := vputs_le (r := r) (fun u hu => h1 u (by simp [hu])) (fun u hu => h2 u (by simp [hu]))
    have := vput_le (h1 v (by simp)) (h2 v (by simp))
    rw [List.flatMap_cons, List.length_append, List.length_cons]
    omega
theorem rowB_le {r : RowM} (h1 : ∀ v ∈ r, rightV v = true) (h2 : ∀ v ∈ r, v.ok) (h32 : r.length ≤ 32) : (rowB r).length ≤ 33097 := by
  have := vputs_le h1 h2
  have := numB_len (n := r.length) (by omega)
  unfold rowB
  rw [List.length_append]
  omega
theorem rowsB_take {rs : List RowM} {j : Nat} (hj : j < rs.length) : rowsB (rs.take (j + 1)) = rowsB (rs.take j) ++ rowB rs[j] := by
  unfold rowsB
  rw [List.take_succ_eq_append_getElem hj, List.flatMap_append]
  simp
theorem may_right {r : RowM} (h : mayR r = 0) : r.length ≤ 32 ∧ ∀ v ∈ r, rightV v = true := by
  unfold mayR at h
  split at h
  · cases h
  · split at h
    · rename_i h1 h2
      exact ⟨by omega, List.all_eq_true.1 h2⟩
    · cases h

namespace Pg
/-- The least page that is not taken. -/
def free1 (s : St) : Option Nat := (ids s 1).head?
theorem free1_none {s : St} (h : free1 s = none) : allocE s 1 = 4 ∧ allocL s 1 = [] ∧ allocS s 1 = s := by
  have hu := used_le s
  by_cases hf : 1 ≤ s.length - used s
  · have := length_ids hf
    unfold free1 at h
    rw [List.head?_eq_none_iff] at h
    rw [h] at this
    cases this
  · have he : allocE s 1 = 4 := by unfold allocE; rw [if_neg (by omega), if_pos (by omega)]
    unfold allocL allocS
    rw [he]
    exact ⟨rfl, rfl, rfl⟩
theorem free1_some {s : St} {i : Nat} (h : free1 s = some i) : allocE s 1 = 0 ∧ allocL s 1 = [i] ∧ allocS s 1 = s.set i (some (page i [])) ∧ i < s.length ∧ s[i]? = some none := by
  have hu := used_le s
  by_cases hf : 1 ≤ s.length - used s
  · have hl := length_ids hf
    unfold free1 at h
    obtain ⟨tl, hi⟩ := List.head?_eq_some_iff.1 h
    rw [hi] at hl
    obtain rfl : tl = [] := List.eq_nil_of_length_eq_zero (by simpa using hl)
    have he : allocE s 1 = 0 := by unfold allocE; rw [if_neg (by omega), if_neg (by omega)]
    have hm := mem_ids (s := s) (n := 1) (i := i) (by rw [hi]; simp)
    unfold allocL allocS
    rw [he, if_pos rfl, if_pos rfl, show (1 : Int).toNat = 1 from rfl, hi]
    exact ⟨rfl, rfl, rfl, hm⟩
  · have he : ids s 1 = [] := by
      have := upTo_all s
      unfold ids
      unfold upTo at this
      rw [show s.length - used s = 0 from by omega] at this
      rw [List.eq_nil_of_length_eq_zero this]
      rfl
    unfold free1 at h
    rw [he] at h
    cases h
/-- A page more, with the bytes b. -/
theorem write_new {s : St} {i : Nat} {b : List UInt8} (hi : i < s.length) (hb : b.length ≤ 56) : writeE (s.set i (some (page i []))) (i : Int) b = 0 ∧ writeS (s.set i (some (page i []))) (i : Int) b = s.set i (some (page i b)) := by
  have ha : at_ (s.set i (some (page i []))) (i : Int) = some (page i []) := by rw [at_nat, List.getElem?_set_self hi]; rfl
  unfold writeE writeS
  rw [ha]
  simp only [Int.toNat_natCast, List.set_set]
  rw [if_neg (by omega)]
  constructor
  · rfl
  · rw [if_neg (by omega)]

/-- Pages of 56 bytes are laid, as long as there are so many, and pages. -/
def lay (s : St) (l : List Nat) (b : List UInt8) : St × List Nat × List UInt8 :=
  if _h : 56 ≤ b.length then
    match free1 s with
    | none => (s, l, b)
    | some i => lay (s.set i (some (page i (b.take 56)))) (l ++ [i]) (b.drop 56)
  else (s, l, b)
termination_by b.length
decreasing_by rw [List.length_drop]; omega
theorem lay_end {s : St} {l : List Nat} {b : List UInt8} (h : b.length < 56) : lay s l b = (s, l, b) := by
  rw [lay, dif_neg (by omega)]
theorem lay_no {s : St} {l : List Nat} {b : List UInt8} (h : free1 s = none) : lay s l b = (s, l, b) := by
  rw [lay]
  split
  · rw [h]
  · rfl
theorem lay_yes {s : St} {l : List Nat} {b : List UInt8} {i : Nat} (h : 56 ≤ b.length) (hi : free1 s = some i) : lay s l b = lay (s.set i (some (page i (b.take 56)))) (l ++ [i]) (b.drop 56) := by
  rw [lay, dif_pos h, hi]

/-- Rows are laid, up to the first that may not be, or for which there is no page: the store, the pages, the bytes that no page holds yet, the error. -/
def run : St → List Nat → List UInt8 → List RowM → St × List Nat × List UInt8 × Int
  | s, l, b, [] => (s, l, b, 0)
  | s, l, b, r :: rs =>
    if mayR r = 0 then
      if (lay s l (b ++ rowB r)).2.2.length < 56 then run (lay s l (b ++ rowB r)).1 (lay s l (b ++ rowB r)).2.1 (lay s l (b ++ rowB r)).2.2 rs
      else ((lay s l (b ++ rowB r)).1, (lay s l (b ++ rowB r)).2.1, (lay s l (b ++ rowB r)).2.2, 4)
    else (s, l, b, mayR r)
theorem run_may {s : St} {l : List Nat} {b : List UInt8} {r : RowM} {rs : List RowM} (h : mayR r ≠ 0) : run s l b (r :: rs) = (s, l, b, mayR r) := by rw [run, if_neg h]
theorem run_full {s s' : St} {l l' : List Nat} {b b' : List UInt8} {r : RowM} {rs : List RowM} (h : mayR r = 0) (hl : lay s l (b ++ rowB r) = (s', l', b')) (hb : 56 ≤ b'.length) : run s l b (r :: rs) = (s', l', b', 4) := by
  rw [run, if_pos h, hl, if_neg (by dsimp only; omega)]
theorem run_on {s s' : St} {l l' : List Nat} {b b' : List UInt8} {r : RowM} {rs : List RowM} (h : mayR r = 0) (hl : lay s l (b ++ rowB r) = (s', l', b')) (hb : b'.length < 56) : run s l b (r :: rs) = run s' l' b' rs := by
  rw [run, if_pos h, hl, if_pos hb]
/-- The rest is laid. -/
def last (s : St) (l : List Nat) (b : List UInt8) : St × List Nat × Int :=
  if b = [] then (s, l, 0) else match free1 s with | none => (s, l, 4) | some i => (s.set i (some (page i b)), l ++ [i], 0)
/-- All: the error; the pages; the store. -/
def putRE (s : St) (rs : List RowM) : Int := if (run s [] [] rs).2.2.2 = 0 then (last (run s [] [] rs).1 (run s [] [] rs).2.1 (run s [] [] rs).2.2.1).2.2 else (run s [] [] rs).2.2.2
def putRL (s : St) (rs : List RowM) : List Nat := if putRE s rs = 0 then (last (run s [] [] rs).1 (run s [] [] rs).2.1 (run s [] [] rs).2.2.1).2.1 else []
def putRS (s : St) (rs : List RowM) : St :=
  if putRE s rs = 0 then (last (run s [] [] rs).1 (run s [] [] rs).2.1 (run s [] [] rs).2.2.1).1 else dropS (run s [] [] rs).1 ((run s [] [] rs).2.1.map Int.ofNat)
/-- What has been laid up to a row decides the rest. -/
theorem putR_bad {s s' : St} {l : List Nat} {b : List UInt8} {e : Int} {rs : List RowM} (h : run s [] [] rs = (s', l, b, e)) (he : e ≠ 0) : putRE s rs = e ∧ putRL s rs = [] ∧ putRS s rs = dropS s' (l.map Int.ofNat) := by
  have h1 : putRE s rs = e := by unfold putRE; rw [h, if_neg he]
  unfold putRL putRS
  rw [h1, if_neg he, if_neg he, h]
  exact ⟨rfl, rfl, rfl⟩
theorem putR_none {s s' : St} {l : List Nat} {rs : List RowM} (h : run s [] [] rs = (s', l, [], 0)) : putRE s rs = 0 ∧ putRL s rs = l ∧ putRS s rs = s' := by
  have hl : last s' l [] = (s', l, 0) := by unfold last; rw [if_pos rfl]
  have h1 : putRE s rs = 0 := by unfold putRE; rw [h, if_pos rfl, hl]
  unfold putRL putRS
  rw [h1, if_pos rfl, if_pos rfl, h, hl]
  exact ⟨rfl, rfl, rfl⟩
theorem putR_full {s s' : St} {l : List Nat} {b : List UInt8} {rs : List RowM} (h : run s [] [] rs = (s', l, b, 0)) (hb : b ≠ []) (hf : free1 s' = none) : putRE s rs = 4 ∧ putRL s rs = [] ∧ putRS s rs = dropS s' (l.map Int.ofNat) := by
  have hl : last s' l b = (s', l, 4) := by unfold last; rw [if_neg hb, hf]
  have h1 : putRE s rs = 4 := by unfold putRE; rw [h, if_pos rfl, hl]
  unfold putRL putRS
  rw [h1, if_neg (by decide), if_neg (by decide), h]
  exact ⟨rfl, rfl, rfl⟩
theorem putR_some {s s' : St} {l : List Nat} {b : List UInt8} {i : Nat} {rs : List RowM} (h : run s [] [] rs = (s', l, b, 0)) (hb : b ≠ []) (hf : free1 s' = some i) : putRE s rs = 0 ∧ putRL s rs = l ++ [i] ∧ putRS s rs = s'.set i (some (page i b)) := by
  have hl : last s' l b = (s'.set i (some (page i b)), l ++ [i], 0) := by unfold last; rw [if_neg hb, hf]
  have h1 : putRE s rs = 0 := by unfold putRE; rw [h, if_pos rfl, hl]
  unfold putRL putRS
  rw [h1, if_pos rfl, if_pos rfl, h, hl]
  exact ⟨rfl, rfl, rfl⟩
/-- Pages that are one's own. -/
structure Mine (s : St) (l : List Nat) : Prop where
  in_ : ∀ i ∈ l, i < s.length
  le : l.length ≤ used s
theorem Mine.nil (s : St) : Mine s [] := ⟨fun i h => by simp at h, Nat.zero_le _⟩
theorem Mine.max {s : St} {l : List Nat} (h : Mine s l) : l.length ≤ s.length := Nat.le_trans h.le (used_le s)
theorem Mine.step {s : St} {l : List Nat} (h : Mine s l) {i : Nat} (hi : free1 s = some i) (b : List UInt8) : Mine (s.set i (some (page i b))) (l ++ [i]) := by
  obtain ⟨_, _, _, h1, h2⟩ := free1_some hi
  refine ⟨fun j hj => ?_, ?_⟩
  · rw [List.length_set]
    rcases List.mem_append.1 hj with hj | hj
    · exact h.in_ j hj
    · rw [List.mem_singleton.1 hj]
      exact h1
  · rw [used_set h2, List.length_append]
    have := h.le
    simp
    omega
theorem Mine.lay : ∀ (n : Nat) {s : St} {l : List Nat} {b : List UInt8}, b.length ≤ n → Mine s l → Mine (Pg.lay s l b).1 (Pg.lay s l b).2.1
  | n, s, l, b, hn, h => by
    by_cases hb : 56 ≤ b.length
    · cases hf : free1 s with
      | none => rw [lay_no hf]; exact h
      | some i =>
        rw [lay_yes hb hf]
        cases n with
        | zero => omega
        | succ n => exact Mine.lay n (by rw [List.length_drop]; omega) (h.step hf _)
    · rw [lay_end (by omega)]
      exact h
/-- As many pages are taken as one has. -/
theorem lay_len : ∀ (n : Nat) (s : St) (l : List Nat) (b : List UInt8), b.length ≤ n → (lay s l b).1.length = s.length
  | n, s, l, b, hn => by
    by_cases h : 56 ≤ b.length
    · cases hf : free1 s with
      | none => rw [lay_no hf]
      | some i =>
        rw [lay_yes h hf]
        cases n with
        | zero => omega
        | succ n => rw [lay_len n _ _ _ (by rw [List.length_drop]; omega), List.length_set]
    · rw [lay_end (by omega)]
theorem run_len : ∀ (rs : List RowM) (s : St) (l : List Nat) (b : List UInt8), (run s l b rs).1.length = s.length
  | [], s, l, b => by rw [run]
  | r :: rs, s, l, b => by
    rw [run]
    split
    · split
      · rw [run_len rs, lay_len _ _ _ _ (Nat.le_refl _)]
      · exact lay_len _ _ _ _ (Nat.le_refl _)
    · rfl
theorem last_len (s : St) (l : List Nat) (b : List UInt8) : (last s l b).1.length = s.length := by
  unfold last
  split
  · rfl
  · split
    · rfl
    · exact List.length_set ..
theorem putRS_len (s : St) (rs : List RowM) : (putRS s rs).length = s.length := by
  unfold putRS
  split
  · rw [last_len, run_len]
  · rw [length_dropS, run_len]
theorem Mine.run : ∀ (rs : List RowM) {s : St} {l : List Nat} {b : List UInt8}, Mine s l → Mine (Pg.run s l b rs).1 (Pg.run s l b rs).2.1
  | [], s, l, b, h => by rw [Pg.run]; exact h
  | r :: rs, s, l, b, h => by
    rw [Pg.run]
    split
    · split
      · exact Mine.run rs (Mine.lay _ (Nat.le_refl _) h)
      · exact Mine.lay _ (Nat.le_refl _) h
    · exact h
theorem Mine.last {s : St} {l : List Nat} (h : Mine s l) (b : List UInt8) : Mine (Pg.last s l b).1 (Pg.last s l b).2.1 := by
  unfold Pg.last
  split
  · exact h
  · split
    · exact h
    · exact h.step (by assumption) b
theorem putRL_mine (s : St) (rs : List RowM) : putRE s rs = 0 → Mine (putRS s rs) (putRL s rs) := fun h => by
  unfold putRS putRL
  rw [if_pos h, if_pos h]
  exact (Mine.run rs (Mine.nil s)).last _
end Pg
end Go.Proofs.Ytjjmnjgkodiibaa
