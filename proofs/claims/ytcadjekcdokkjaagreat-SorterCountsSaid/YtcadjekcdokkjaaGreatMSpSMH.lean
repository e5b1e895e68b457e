/- Words for memory, on: what the spill texts stand on. Rows on pages, as plain data: a row's bytes, pages laid one at a time, and what a list of rows comes to. What lies on pages behind a writer's rows: a plain law, with no program in sight. -/
import Derived.Test.YtcadjekcdokkjaaGreatMPgD
import Derived.Test.YtcadjekcdokkjaaGreatMStSt
import Derived.Test.YtcadjekcdokkjaaGreatMOcUV
import Derived.Test.YtcadjekcdokkjaaGreatMOwX
namespace Go.Proofs.YtcadjekcdokkjaaGreat
set_option linter.unusedVariables false
set_option linter.unusedSimpArgs false
open Go.RowKit
def rowB (r : RowM) : List UInt8 := numB r.length ++ r.flatMap vput
def rowsB (rs : List RowM) : List UInt8 := rs.flatMap rowB
theorem rowB_take {r : RowM} {j : Nat} (hj : j < r.length) : numB r.length ++ (r.take (j + 1)).flatMap vput = (numB r.length ++ (r.take j).flatMap vput) ++ vput r[j] := by
 rw [List.take_succ_eq_append_getElem hj, List.flatMap_append, List.append_assoc]
 simp
theorem vputs_le : ∀ {r : RowM}, (∀ v ∈ r, rightV v = true) → (∀ v ∈ r, v.ok) → (r.flatMap vput).length ≤ 1034 * r.length
 | [], _, _ => by simp
 | v :: r, h1, h2 => by
  have := vputs_le (r := r) (fun u hu => h1 u (by simp [hu])) (fun u hu => h2 u (by simp [hu]))
  have := vput_le (h1 v (by simp)) (h2 v (by simp))
  rw [List.flatMap_cons, List.length_append, List.length_cons]
  omega
theorem rowB_le {r : RowM} (h1 : ∀ v ∈ r, rightV v = true) (h2 : ∀ v ∈ r, v.ok) (h32 : r.length ≤ 32) : (rowB r).length ≤ 33097 := by
 have := vputs_le h1 h2
 have := numB_len (n := r.length) (by omega)
 unfold rowB
 rw [List.length_append]
 omega
theorem rowsB_take {rs : List RowM} {j : Nat} (hj : j < rs.length) : rowsB (rs.take (j + 1)) = rowsB (rs.take j) ++ rowB rs[j] := by
 unfold rowsB
 rw [List.take_succ_eq_append_getElem hj, List.flatMap_append]
 simp
theorem may_right {r : RowM} (h : mayR r = 0) : r.length ≤ 32 ∧ ∀ v ∈ r, rightV v = true := by
 unfold mayR at h
 split at h
 ·cases h
 ·split at h
  ·rename_i h1 h2
   exact ⟨by omega, List.all_eq_true.1 h2⟩
  ·cases h
namespace Pg
def free1 (s : St) : Option Nat := (ids s 1).head?
theorem free1_none {s : St} (h : free1 s = none) : allocE s 1 = 4 ∧ allocL s 1 = [] ∧ allocS s 1 = s := by
 have hu := used_le s
 by_cases hf : 1 ≤ s.length - used s
 ·have := length_ids hf
  unfold free1 at h
  rw [List.head?_eq_none_iff] at h
  rw [h] at this
  cases this
 ·have he : allocE s 1 = 4 := by unfold allocE; rw [if_neg (by omega), if_pos (by omega)]
  unfold allocL allocS
  rw [he]
  exact ⟨rfl, rfl, rfl⟩
theorem free1_some {s : St} {i : Nat} (h : free1 s = some i) : allocE s 1 = 0 ∧ allocL s 1 = [i] ∧ allocS s 1 = s.set i (some (page i [])) ∧ i < s.length ∧ s[i]? = some none := by
 have hu := used_le s
 by_cases hf : 1 ≤ s.length - used s
 ·have hl := length_ids hf
  unfold free1 at h
  obtain ⟨tl, hi⟩ := List.head?_eq_some_iff.1 h
  rw [hi] at hl
  obtain rfl : tl = [] := List.eq_nil_of_length_eq_zero (by simpa using hl)
  have he : allocE s 1 = 0 := by unfold allocE; rw [if_neg (by omega), if_neg (by omega)]
  have hm := mem_ids (s := s) (n := 1) (i := i) (by rw [hi]; simp)
  unfold allocL allocS
  rw [he, if_pos rfl, if_pos rfl, show (1 : Int).toNat = 1 from rfl, hi]
  exact ⟨rfl, rfl, rfl, hm⟩
 ·have he : ids s 1 = [] := by
   have := upTo_all s
   unfold ids
   unfold upTo at this
   rw [show s.length - used s = 0 from by omega] at this
   rw [List.eq_nil_of_length_eq_zero this]
   rfl
  unfold free1 at h
  rw [he] at h
  cases h
theorem write_new {s : St} {i : Nat} {b : List UInt8} (hi : i < s.length) (hb : b.length ≤ 56) : writeE (s.set i (some (page i []))) (i : Int) b = 0 ∧ writeS (s.set i (some (page i []))) (i : Int) b = s.set i (some (page i b)) := by
 have ha : at_ (s.set i (some (page i []))) (i : Int) = some (page i []) := by rw [at_nat, List.getElem?_set_self hi]; rfl
 unfold writeE writeS
 rw [ha]
 simp only [Int.toNat_natCast, List.set_set]
 rw [if_neg (by omega)]
 constructor
 ·rfl
 ·rw [if_neg (by omega)]
def lay (s : St) (l : List Nat) (b : List UInt8) : St × List Nat × List UInt8 :=
 if _h : 56 ≤ b.length then
  match free1 s with
  | none => (s, l, b)
  | some i => lay (s.set i (some (page i (b.take 56)))) (l ++ [i]) (b.drop 56)
 else (s, l, b)
termination_by b.length
decreasing_by rw [List.length_drop]; omega
theorem lay_end {s : St} {l : List Nat} {b : List UInt8} (h : b.length < 56) : lay s l b = (s, l, b) := by
 rw [lay, dif_neg (by omega)]
theorem lay_no {s : St} {l : List Nat} {b : List UInt8} (h : free1 s = none) : lay s l b = (s, l, b) := by
 rw [lay]
 split
 ·rw [h]
 ·rfl
theorem lay_yes {s : St} {l : List Nat} {b : List UInt8} {i : Nat} (h : 56 ≤ b.length) (hi : free1 s = some i) : lay s l b = lay (s.set i (some (page i (b.take 56)))) (l ++ [i]) (b.drop 56) := by
 rw [lay, dif_pos h, hi]
def run : St → List Nat → List UInt8 → List RowM → St × List Nat × List UInt8 × Int
 | s, l, b, [] => (s, l, b, 0)
 | s, l, b, r :: rs =>
  if mayR r = 0 then
   if (lay s l (b ++ rowB r)).2.2.length < 56 then run (lay s l (b ++ rowB r)).1 (lay s l (b ++ rowB r)).2.1 (lay s l (b ++ rowB r)).2.2 rs
   else ((lay s l (b ++ rowB r)).1, (lay s l (b ++ rowB r)).2.1, (lay s l (b ++ rowB r)).2.2, 4)
  else (s, l, b, mayR r)
theorem run_may {s : St} {l : List Nat} {b : List UInt8} {r : RowM} {rs : List RowM} (h : mayR r ≠ 0) : run s l b (r :: rs) = (s, l, b, mayR r) := by rw [run, if_neg h]
theorem run_full {s s' : St} {l l' : List Nat} {b b' : List UInt8} {r : RowM} {rs : List RowM} (h : mayR r = 0) (hl : lay s l (b ++ rowB r) = (s', l', b')) (hb : 56 ≤ b'.length) : run s l b (r :: rs) = (s', l', b', 4) := by
 rw [run, if_pos h, hl, if_neg (by dsimp only; omega)]
theorem run_on {s s' : St} {l l' : List Nat} {b b' : List UInt8} {r : RowM} {rs : List RowM} (h : mayR r = 0) (hl : lay s l (b ++ rowB r) = (s', l', b')) (hb : b'.length < 56) : run s l b (r :: rs) = run s' l' b' rs := by
 rw [run, if_pos h, hl, if_pos hb]
def last (s : St) (l : List Nat) (b : List UInt8) : St × List Nat × Int :=
 if b = [] then (s, l, 0) else match free1 s with | none => (s, l, 4) | some i => (s.set i (some (page i b)), l ++ [i], 0)
def putRE (s : St) (rs : List RowM) : Int := if (run s [] [] rs).2.2.2 = 0 then (last (run s [] [] rs).1 (run s [] [] rs).2.1 (run s [] [] rs).2.2.1).2.2 else (run s [] [] rs).2.2.2
def putRL (s : St) (rs : List RowM) : List Nat := if putRE s rs = 0 then (last (run s [] [] rs).1 (run s [] [] rs).2.1 (run s [] [] rs).2.2.1).2.1 else []
def putRS (s : St) (rs : List RowM) : St :=
 if putRE s rs = 0 then (last (run s [] [] rs).1 (run s [] [] rs).2.1 (run s [] [] rs).2.2.1).1 else dropS (run s [] [] rs).1 ((run s [] [] rs).2.1.map Int.ofNat)
theorem putR_bad {s s' : St} {l : List Nat} {b : List UInt8} {e : Int} {rs : List RowM} (h : run s [] [] rs = (s', l, b, e)) (he : e ≠ 0) : putRE s rs = e ∧ putRL s rs = [] ∧ putRS s rs = dropS s' (l.map Int.ofNat) := by
 have h1 : putRE s rs = e := by unfold putRE; rw [h, if_neg he]
 unfold putRL putRS
 rw [h1, if_neg he, if_neg he, h]
 exact ⟨rfl, rfl, rfl⟩
theorem putR_none {s s' : St} {l : List Nat} {rs : List RowM} (h : run s [] [] rs = (s', l, [], 0)) : putRE s rs = 0 ∧ putRL s rs = l ∧ putRS s rs = s' := by
 have hl : last s' l [] = (s', l, 0) := by unfold last; rw [if_pos rfl]
 have h1 : putRE s rs = 0 := by unfold putRE; rw [h, if_pos rfl, hl]
 unfold putRL putRS
 rw [h1, if_pos rfl, if_pos rfl, h, hl]
 exact ⟨rfl, rfl, rfl⟩
theorem putR_full {s s' : St} {l : List Nat} {b : List UInt8} {rs : List RowM} (h : run s [] [] rs = (s', l, b, 0)) (hb : b ≠ []) (hf : free1 s' = none) : putRE s rs = 4 ∧ putRL s rs = [] ∧ putRS s rs = dropS s' (l.map Int.ofNat) := by
 have hl : last s' l b = (s', l, 4) := by unfold last; rw [if_neg hb, hf]
 have h1 : putRE s rs = 4 := by unfold putRE; rw [h, if_pos rfl, hl]
 unfold putRL putRS
 rw [h1, if_neg (by decide), if_neg (by decide), h]
 exact ⟨rfl, rfl, rfl⟩
theorem putR_some {s s' : St} {l : List Nat} {b : List UInt8} {i : Nat} {rs : List RowM} (h : run s [] [] rs = (s', l, b, 0)) (hb : b ≠ []) (hf : free1 s' = some i) : putRE s rs = 0 ∧ putRL s rs = l ++ [i] ∧ putRS s rs = s'.set i (some (page i b)) := by
 have hl : last s' l b = (s'.set i (some (page i b)), l ++ [i], 0) := by unfold last; rw [if_neg hb, hf]
 have h1 : putRE s rs = 0 := by unfold putRE; rw [h, if_pos rfl, hl]
 unfold putRL putRS
 rw [h1, if_pos rfl, if_pos rfl, h, hl]
 exact ⟨rfl, rfl, rfl⟩
structure Mine (s : St) (l : List Nat) : Prop where
 in_ : ∀ i ∈ l, i < s.length
 le : l.length ≤ used s
theorem Mine.nil (s : St) : Mine s [] := ⟨fun i h => by simp at h, Nat.zero_le _⟩
theorem Mine.max {s : St} {l : List Nat} (h : Mine s l) : l.length ≤ s.length := Nat.le_trans h.le (used_le s)
theorem Mine.step {s : St} {l : List Nat} (h : Mine s l) {i : Nat} (hi : free1 s = some i) (b : List UInt8) : Mine (s.set i (some (page i b))) (l ++ [i]) := by
 obtain ⟨_, _, _, h1, h2⟩ := free1_some hi
 refine ⟨fun j hj => ?_, ?_⟩
 ·rw [List.length_set]
  rcases List.mem_append.1 hj with hj | hj
  ·exact h.in_ j hj
  ·rw [List.mem_singleton.1 hj]
   exact h1
 ·rw [used_set h2, List.length_append]
  have := h.le
  simp
  omega
theorem Mine.lay : ∀ (n : Nat) {s : St} {l : List Nat} {b : List UInt8}, b.length ≤ n → Mine s l → Mine (Pg.lay s l b).1 (Pg.lay s l b).2.1
 | n, s, l, b, hn, h => by
  by_cases hb : 56 ≤ b.length
  ·cases hf : free1 s with
   | none => rw [lay_no hf]; exact h
   | some i =>
    rw [lay_yes hb hf]
    cases n with
    | zero => omega
    | succ n => exact Mine.lay n (by rw [List.length_drop]; omega) (h.step hf _)
  ·rw [lay_end (by omega)]
   exact h
end Pg
end Go.Proofs.YtcadjekcdokkjaaGreat
namespace Go.Proofs.YtcadjekcdokkjaaGreat
set_option linter.unusedVariables false
set_option linter.unusedSimpArgs false
open Go.RowKit
namespace Pg
structure Laid (s0 s : St) (l : List Nat) (T b : List UInt8) : Prop where
 le : 56 * l.length ≤ T.length
 rest : b = T.drop (56 * l.length)
 at_ : ∀ (k i : Nat), l[k]? = some i → s[i]? = some (some (page i ((T.drop (56 * k)).take 56)))
 used : used s = used s0 + l.length
 len : s.length = s0.length
 nodup : l.Nodup
theorem Laid.nil (s : St) : Laid s s [] [] [] := ⟨Nat.zero_le _, rfl, (fun k i h => by simp at h), rfl, rfl, List.nodup_nil⟩
theorem Laid.add {s0 s : St} {l : List Nat} {T b : List UInt8} (h : Laid s0 s l T b) (U : List UInt8) : Laid s0 s l (T ++ U) (b ++ U) := by
 refine ⟨by rw [List.length_append]; exact Nat.le_trans h.le (Nat.le_add_right _ _), ?_, fun k i hk => ?_, h.used, h.len, h.nodup⟩
 ·rw [h.rest, List.drop_append_of_le_length h.le]
 ·have hl := (List.getElem?_eq_some_iff.1 hk).1
  have := h.le
  rw [List.drop_append_of_le_length (by omega), List.take_append_of_le_length (by rw [List.length_drop]; omega)]
  exact h.at_ k i hk
theorem free1_is {s : St} (h : Pg.used s < s.length) : ∃ i, free1 s = some i := by
 have hl := length_ids (s := s) (n := 1) (by omega)
 unfold free1
 cases e : ids s 1 with
 | nil => rw [e] at hl; cases hl
 | cons i _ => exact ⟨i, rfl⟩
theorem Laid.ne {s0 s : St} {l : List Nat} {T b : List UInt8} (h : Laid s0 s l T b) {i : Nat} (hi : s[i]? = some none) : i ∉ l := fun hm => by
 obtain ⟨k, hk⟩ := List.getElem?_of_mem hm
 rw [h.at_ k i hk] at hi
 cases hi
theorem Laid.step {s0 s : St} {l : List Nat} {T b : List UInt8} (h : Laid s0 s l T b) {i : Nat} (hb : 56 ≤ b.length) (hi : free1 s = some i) : Laid s0 (s.set i (some (page i (b.take 56)))) (l ++ [i]) T (b.drop 56) := by
 obtain ⟨_, _, _, h1, h2⟩ := free1_some hi
 have hT : b.length = T.length - 56 * l.length := by rw [h.rest, List.length_drop]
 have hle := h.le
 have hni := h.ne h2
 refine ⟨?_, ?_, fun k j hk => ?_, ?_, ?_, ?_⟩
 ·rw [List.length_append, List.length_cons, List.length_nil]
  omega
 ·rw [h.rest, List.drop_drop, List.length_append, List.length_cons, List.length_nil, show 56 * (l.length + (0 + 1)) = 56 * l.length + 56 from by omega]
 ·rw [List.getElem?_append] at hk
  split at hk
  ·rw [List.getElem?_set_ne (fun e => hni (by rw [e]; exact List.mem_of_getElem? hk))]
   exact h.at_ k j hk
  ·have hk0 : k = l.length := by
    have := (List.getElem?_eq_some_iff.1 hk).1
    simp at this
    omega
   subst hk0
   rw [Nat.sub_self] at hk
   injection hk with hk
   subst hk
   rw [List.getElem?_set_self h1, h.rest]
 ·rw [used_set h2, h.used, List.length_append]
  rfl
 ·rw [List.length_set, h.len]
 ·rw [List.nodup_append]
  refine ⟨h.nodup, by simp, fun x hx y hy e => ?_⟩
  rw [List.mem_singleton.1 hy] at e
  exact hni (e ▸ hx)
theorem Laid.lay : ∀ (n : Nat) {s0 s : St} {l : List Nat} {T b : List UInt8}, b.length ≤ n → Laid s0 s l T b → T.length / 56 ≤ s0.length - Pg.used s0 →
  Laid s0 (Pg.lay s l b).1 (Pg.lay s l b).2.1 T (Pg.lay s l b).2.2 ∧ (Pg.lay s l b).2.2.length < 56
 | n, s0, s, l, T, b, hn, h, hr => by
  by_cases hb : 56 ≤ b.length
  ·have hT : b.length = T.length - 56 * l.length := by rw [h.rest, List.length_drop]
   have hu := used_le s0
   obtain ⟨i, hi⟩ := free1_is (s := s) (by have := h.used; have := h.len; have := h.le; omega)
   rw [lay_yes hb hi]
   cases n with
   | zero => omega
   | succ n => exact Laid.lay n (by rw [List.length_drop]; omega) (h.step hb hi) hr
  ·rw [lay_end (by omega)]
   exact ⟨h, by show b.length < 56; omega⟩
theorem Laid.run : ∀ (rs : List RowM) {s0 s : St} {l : List Nat} {T b : List UInt8}, Laid s0 s l T b → b.length < 56 → (∀ r ∈ rs, mayR r = 0) → (T ++ rowsB rs).length / 56 ≤ s0.length - Pg.used s0 →
  ∃ s' l' b', Pg.run s l b rs = (s', l', b', 0) ∧ Laid s0 s' l' (T ++ rowsB rs) b' ∧ b'.length < 56
 | [], s0, s, l, T, b, h, hb, _, _ => ⟨s, l, b, by rw [Pg.run], by rw [show rowsB [] = [] from rfl, List.append_nil]; exact h, hb⟩
 | r :: rs, s0, s, l, T, b, h, hb, hm, hr => by
  have e : rowsB (r :: rs) = rowB r ++ rowsB rs := by simp [rowsB]
  rw [e, ← List.append_assoc] at hr ⊢
  have hr1 : (T ++ rowB r).length / 56 ≤ s0.length - Pg.used s0 := by
   rw [List.length_append] at hr
   omega
  have h1 := Laid.lay _ (Nat.le_refl _) (h.add (rowB r)) hr1
  obtain ⟨s1, l1, b1, hl⟩ : ∃ s1 l1 b1, Pg.lay s l (b ++ rowB r) = (s1, l1, b1) := ⟨_, _, _, rfl⟩
  rw [hl] at h1
  rw [run_on (hm r (by simp)) hl h1.2]
  exact Laid.run rs h1.1 h1.2 (fun q hq => hm q (by simp [hq])) hr
structure PutAt (s0 : St) (rs : List RowM) : Prop where
 ok : putRE s0 rs = 0
 holds : Holds (putRS s0 rs) (putRL s0 rs) (rowsB rs)
 used : Pg.used (putRS s0 rs) = Pg.used s0 + need (rowsB rs).length
 len : (putRS s0 rs).length = s0.length
 nodup : (putRL s0 rs).Nodup
 lt : ∀ i ∈ putRL s0 rs, i < s0.length
theorem need_div {n k : Nat} (h1 : 56 * k ≤ n) (h2 : n - 56 * k < 56) : need n = if n - 56 * k = 0 then k else k + 1 := by
 unfold need
 split <;> split <;> omega
theorem put_at {s0 : St} {rs : List RowM} (hm : ∀ r ∈ rs, mayR r = 0) (hr : need (rowsB rs).length ≤ s0.length - Pg.used s0) : PutAt s0 rs := by
 have hr' : ([] ++ rowsB rs).length / 56 ≤ s0.length - Pg.used s0 := by
  rw [List.nil_append]
  unfold need at hr
  split at hr <;> omega
 obtain ⟨s', l', b', h1, h2, h3⟩ := Laid.run rs (Laid.nil s0) (by decide) hm hr'
 rw [List.nil_append] at h2
 have hle := h2.le
 have hbl : b'.length = (rowsB rs).length - 56 * l'.length := by rw [h2.rest, List.length_drop]
 have hlt : ∀ (s : St) (l : List Nat), s.length = s0.length → (∀ (k i : Nat), l[k]? = some i → ∃ x, s[i]? = some (some x)) → ∀ i ∈ l, i < s0.length := fun s l hl ha i hi => by
  obtain ⟨k, hk⟩ := List.getElem?_of_mem hi
  obtain ⟨x, hx⟩ := ha k i hk
  rw [← hl]
  exact (List.getElem?_eq_some_iff.1 hx).1
 by_cases hb : b' = []
 ·subst hb
  obtain ⟨e1, e2, e3⟩ := putR_none h1
  have hz : (rowsB rs).length - 56 * l'.length = 0 := hbl.symm
  have hn : need (rowsB rs).length = l'.length := by rw [need_div hle (by omega), if_pos hz]
  refine ⟨e1, ?_, ?_, ?_, ?_, ?_⟩
  ·rw [e2, e3]
   exact ⟨hn.symm, fun k i hk => by rw [at_nat, h2.at_ k i hk]; rfl⟩
  ·rw [e3, h2.used, hn]
  ·rw [e3, h2.len]
  ·rw [e2]; exact h2.nodup
  ·rw [e2]; exact hlt s' l' h2.len fun k i hk => ⟨_, h2.at_ k i hk⟩
 ·have hbp : 0 < b'.length := List.length_pos_iff.2 hb
  have hn : need (rowsB rs).length = l'.length + 1 := by rw [need_div hle (by omega), if_neg (by omega)]
  obtain ⟨i, hi⟩ := free1_is (s := s') (by have := h2.used; have := h2.len; have := used_le s0; omega)
  obtain ⟨_, _, _, hi1, hi2⟩ := free1_some hi
  have hni := h2.ne hi2
  obtain ⟨e1, e2, e3⟩ := putR_some h1 hb hi
  have hat : ∀ (k j : Nat), (l' ++ [i])[k]? = some j → (s'.set i (some (page i b')))[j]? = some (some (page j (((rowsB rs).drop (56 * k)).take 56))) := fun k j hk => by
   rw [List.getElem?_append] at hk
   split at hk
   ·rw [List.getElem?_set_ne (fun e => hni (by rw [e]; exact List.mem_of_getElem? hk))]
    exact h2.at_ k j hk
   ·have hk0 : k = l'.length := by
     have := (List.getElem?_eq_some_iff.1 hk).1
     simp at this
     omega
    subst hk0
    rw [Nat.sub_self] at hk
    injection hk with hk
    subst hk
    rw [List.getElem?_set_self hi1, ← h2.rest, List.take_of_length_le (by omega)]
  refine ⟨e1, ?_, ?_, ?_, ?_, ?_⟩
  ·rw [e2, e3]
   exact ⟨by rw [hn, List.length_append]; rfl, fun k j hk => by rw [at_nat, hat k j hk]; rfl⟩
  ·rw [e3, used_set hi2, h2.used, hn]
   omega
  ·rw [e3, List.length_set, h2.len]
  ·rw [e2, List.nodup_append]
   refine ⟨h2.nodup, by simp, fun x hx y hy e => ?_⟩
   rw [List.mem_singleton.1 hy] at e
   exact hni (e ▸ hx)
  ·rw [e2]
   exact hlt (s'.set i (some (page i b'))) _ (by rw [List.length_set, h2.len]) fun k j hk => ⟨_, hat k j hk⟩
end Pg
end Go.Proofs.YtcadjekcdokkjaaGreat
