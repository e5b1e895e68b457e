/- A cell of a row of the call's own is set. Each column that a query needs is there; truths of columns in a row: plain data. -/
import Derived.Test.YtheafcfbahdcfaaDoorMGrA
import Derived.Test.YtheafcfbahdcfaaDoorMGrJ
namespace Go.Proofs.YtheafcfbahdcfaaDoor
set_option linter.unusedVariables false
set_option linter.unusedSimpArgs false
open Go.RowKit

theorem grown_set (w : World) (g i : Nat) (u : Value) : w.grownBy (w.setCell ⟨g, i, none⟩ u) (some g) := by
  refine ⟨rfl, rfl, rfl, ?_, fun k hk hn => ?_⟩
  · have := size_setCells g [u] i w
    exact Nat.le_of_eq this.symm
  · exact heap_setCell_other _ _ _ _ (fun e => hn (by rw [e]))
/-- A cell of a row of the call's own is set. -/
theorem Own.put {w : World} {base : Nat} {e : TypeId} {size g n c : Nat} {xs : List Value} (h : Own w base e size (some ⟨g, 0, none⟩) n c xs) {i : Nat} (hi : i < n * size) (u : Value) :
    Own (w.setCell ⟨g, i, none⟩ u) base e size (some ⟨g, 0, none⟩) n c (xs.set i u) ∧ w.grownBy (w.setCell ⟨g, i, none⟩ u) (some g) ∧ w.frozen? ⟨g, i, none⟩ = false := by
  have hl := h.1
  rcases h.2 with ⟨hv, _⟩ | ⟨g', cap, cur, hv, hg, hh, hnc, hcm, hcs, ht⟩
  · cases hv
  · injection hv with h1 h2 h3
    injection h1 with h1
    injection h1 with h1
    subst h1
    subst h3
    have hB : Blk w g e cur.toList := hh
    have hB2 := hB.set_ i u
    refine ⟨⟨by rw [List.length_set, hl], .inr ⟨g, c, (cur.toList.set i u).toArray, rfl, hg, hB2, hnc, hcm, ?_, ?_⟩⟩, ?_, hB.frozen i⟩
    · rw [List.size_toArray, List.length_set, Array.length_toList, hcs]
    · show List.take (n * size) (cur.toList.set i u) = _
      rw [← ht, List.take_set]
    · exact grown_set w g i u

end Go.Proofs.YtheafcfbahdcfaaDoor
namespace Go.Proofs.YtheafcfbahdcfaaDoor
set_option linter.unusedVariables false
set_option linter.unusedSimpArgs false
open Go.RowKit

theorem checkK_parts {k : List (List Int)} {q : Qy} (h : (checkK k q).2 = 0) : joinsM k q = 0 ∧ rightN k.flatten q.asked = true ∧ (toldM k.flatten q).2 = 0 := by
  have hj := checkK_zero h
  unfold checkK at h
  rw [if_neg (fun e => e hj)] at h
  cases hr : rightN k.flatten q.asked with
  | false =>
    rw [hr, if_pos rfl] at h
    exact absurd h (by decide)
  | true =>
    rw [hr, if_neg (by decide)] at h
    by_cases ht : (toldM k.flatten q).2 = 0
    · exact ⟨hj, rfl, ht⟩
    · rw [if_pos ht] at h
      exact absurd h ht
theorem told_in {kinds : List Int} {q : Qy} (h : (toldM kinds q).2 = 0) : (∀ c ∈ q.by_, inK kinds c = true) ∧ (∀ c ∈ q.want, inK kinds c = true) ∧ ∀ a ∈ q.aggs, a.op ≠ 1 → inK kinds a.col = true := by
  unfold toldM at h
  split at h
  · split at h
    · exact absurd h (by decide)
    · rename_i hw
      have hw0 : q.want = [] := List.eq_nil_of_length_eq_zero (by omega)
      unfold groupK at h
      split at h
      · exact absurd h (by decide)
      · split at h
        · exact absurd h (by decide)
        · rename_i hb
          split at h
          · exact absurd h (by decide)
          · rename_i ha
            rw [Bool.not_eq_false, Bool.and_eq_true] at hb
            rw [Bool.not_eq_false] at ha
            refine ⟨List.all_eq_true.1 hb.1, (by rw [hw0]; intro c hc; cases hc), fun a ham hop => ?_⟩
            have := List.all_eq_true.1 ha a ham
            unfold aggOk at this
            rw [if_neg hop, Bool.and_eq_true] at this
            exact this.2
  · rename_i hz
    have hb0 : q.by_ = [] := List.eq_nil_of_length_eq_zero (by omega)
    have ha0 : q.aggs = [] := List.eq_nil_of_length_eq_zero (by omega)
    split at h
    · exact absurd h (by decide)
    · split at h
      · rename_i hw
        exact ⟨(by rw [hb0]; intro c hc; cases hc), List.all_eq_true.1 hw, (by rw [ha0]; intro a ha; cases ha)⟩
      · exact absurd h (by decide)
theorem inK_iff {kinds : List Int} {c : Int} : inK kinds c = true ↔ 0 ≤ c ∧ c < (kinds.length : Int) := by
  unfold inK
  exact decide_eq_true_iff
theorem mayN_in {kinds : List Int} {n : Nd} (h : mayN kinds n = true) (ha : n.asks = true) : inK kinds n.col = true := by
  unfold mayN at h
  split at h
  · cases h
  · split at h
    · cases h
    · rename_i h2
      rw [inK_iff]
      constructor
      · by_cases e : n.col < 0
        · exact absurd (.inr ⟨ha, .inl e⟩) h2
        · omega
      · by_cases e : (kinds.length : Int) ≤ n.col
        · exact absurd (.inr ⟨ha, .inr e⟩) h2
        · omega
theorem asked_in {kinds : List Int} {l : List Nd} (h : rightN kinds l = true) : ∀ c ∈ colsR l, inK kinds c = true := by
  intro c hc
  unfold rightN at h
  rw [Bool.and_eq_true, Bool.and_eq_true] at h
  have h2 := (fold_spec l [] List.Pairwise.nil).2 c
  rcases h2.1 hc with h3 | h3
  · cases h3
  · unfold colsL at h3
    obtain ⟨n, hn, rfl⟩ := List.mem_map.1 h3
    rw [List.mem_filter] at hn
    exact mayN_in (List.all_eq_true.1 h.1.2 n hn.1) hn.2
theorem joins_all {ks : List (List Int)} {q : Qy} (hk : ks.length = q.joins.length + 1) (h : joinsM ks q = 0) : ∀ (j i : Nat) (hi : i < q.joins.length), i < j → ¬ jBad ks i q.joins[i] ∧ ¬ jTyp ks i q.joins[i]
  | 0, i, hi, hij => absurd hij (Nat.not_lt_zero _)
  | j + 1, i, hi, hij => by
    by_cases e : i < j
    · exact joins_all hk h j i hi e
    · obtain rfl : i = j := by omega
      have hb : ¬ jBad ks i q.joins[i] := fun hb => by
        have h9 := joins_bad hk i hi (fun a ha hai => joins_all hk h i a ha hai) hb
        rw [h] at h9
        exact absurd h9 (by decide)
      refine ⟨hb, fun ht => ?_⟩
      have h9 := joins_typ hk i hi (fun a ha hai => joins_all hk h i a ha hai) hb ht
      rw [h] at h9
      exact absurd h9 (by decide)
/-- Where joins go by: both columns are there. -/
theorem join_in {ks : List (List Int)} {q : Qy} (hk : ks.length = q.joins.length + 1) (h : joinsM ks q = 0) (i : Nat) (hi : i < q.joins.length) :
    0 ≤ (q.joins[i]).left ∧ (q.joins[i]).left < (ks.flatten.length : Int) ∧ 0 ≤ (q.joins[i]).right ∧ (preL ks (i + 1) : Int) + (q.joins[i]).right < (ks.flatten.length : Int) := by
  have hb := (joins_all hk h (i + 1) i hi (by omega)).1
  unfold jBad at hb
  have h1 := preL_le ks (i + 1)
  have h2 := preL_le ks (i + 2)
  omega
/-- The columns that are asked for or told. -/
def askedC (q : Qy) : List Int := ((colsR q.asked ++ q.by_) ++ q.want) ++ (q.aggs.filter fun a => decide (a.op ≠ 1)).map Ag.col
theorem askedC_in {ks : List (List Int)} {q : Qy} (h : (checkK ks q).2 = 0) : ∀ c ∈ askedC q, 0 ≤ c ∧ c < (ks.flatten.length : Int) := by
  obtain ⟨-, h1, h2⟩ := checkK_parts h
  obtain ⟨h3, h4, h5⟩ := told_in h2
  intro c hc
  rw [← inK_iff]
  unfold askedC at hc
  rw [List.mem_append, List.mem_append, List.mem_append] at hc
  rcases hc with ((hc | hc) | hc) | hc
  · exact asked_in h1 c hc
  · exact h3 c hc
  · exact h4 c hc
  · obtain ⟨a, ha, rfl⟩ := List.mem_map.1 hc
    rw [List.mem_filter] at ha
    exact h5 a ha.1 (of_decide_eq_true ha.2)
theorem allC_mem (ks : List (List Int)) (q : Qy) (c : Int) : c ∈ joinCols 0 ks q.joins ++ askedC q ↔ c ∈ allCols ks q := by
  unfold askedC allCols
  simp only [List.mem_append]
  constructor
  · rintro (h | h)
    · exact .inr h
    · exact .inl h
  · rintro (h | h)
    · exact .inr h
    · exact .inl h

/-! ### Truths of columns -/
def onc (n : Nat) (S : List Int) : List Value := (List.range n).map fun c : Nat => .bool (decide ((c : Int) ∈ S))
theorem onc_len (n : Nat) (S : List Int) : (onc n S).length = n := by simp [onc]
theorem onc_get {n : Nat} (S : List Int) {c : Nat} (h : c < n) : (onc n S)[c]? = some (.bool (decide ((c : Int) ∈ S))) := by
  unfold onc
  rw [List.getElem?_map, List.getElem?_eq_getElem (by simpa using h)]
  simp
theorem onc_set {n : Nat} {S S' : List Int} {c : Nat} (h : c < n) (hs : ∀ x, x ∈ S' ↔ x = (c : Int) ∨ x ∈ S) : (onc n S).set c (.bool true) = onc n S' := by
  apply List.ext_getElem?
  intro i
  by_cases hi : i < n
  · rw [onc_get S' hi]
    by_cases e : c = i
    · subst e
      rw [List.getElem?_set_self (by rw [onc_len]; exact h), decide_eq_true ((hs _).2 (.inl rfl))]
    · rw [List.getElem?_set_ne e, onc_get S hi]
      congr 2
      by_cases hm : (i : Int) ∈ S
      · rw [decide_eq_true hm, decide_eq_true ((hs _).2 (.inr hm))]
      · rw [decide_eq_false hm, decide_eq_false]
        intro hm2
        rcases (hs _).1 hm2 with h3 | h3
        · exact e (by omega)
        · exact hm h3
  · rw [List.getElem?_eq_none (by rw [List.length_set, onc_len]; omega), List.getElem?_eq_none (by rw [onc_len]; omega)]
theorem onc_nil (n : Nat) : onc n [] = List.replicate n (.bool false) := by
  apply List.ext_getElem?
  intro i
  by_cases hi : i < n
  · rw [onc_get [] hi, List.getElem?_replicate, if_pos hi]
    simp
  · rw [List.getElem?_eq_none (by rw [onc_len]; omega), List.getElem?_eq_none (by simp; omega)]
theorem onc_congr {n : Nat} {S S' : List Int} (hs : ∀ x, x ∈ S' ↔ x ∈ S) : onc n S = onc n S' := by
  unfold onc
  refine List.map_congr_left fun c _ => ?_
  by_cases hm : (c : Int) ∈ S
  · rw [decide_eq_true hm, decide_eq_true ((hs _).2 hm)]
  · rw [decide_eq_false hm, decide_eq_false (fun h => hm ((hs _).1 h))]
theorem make_bools (n : Nat) : (madeCells (Value.cells (.bool false)) (n * 1)).toList = onc n [] := by
  rw [show (Value.cells (.bool false)) = #[.bool false] from rfl, Nat.mul_one, toList_madeCells_one, onc_nil]
theorem EboolQ : ElemT Tryd.prog 68 4 1 1 (.bool false) := ElemT.mk' (by kernel_rfl) (by kernel_rfl) rfl (by omega)
/-- Which columns are needed, in memory. -/
def OnAt (n : Nat) (S : List Int) (g base : Nat) (w wr : World) : Prop :=
  Own wr base 4 1 (some ⟨g, 0, none⟩) n n (onc n S) ∧ Below base w wr
theorem OnAt.cell {n : Nat} {S : List Int} {g base : Nat} {w wr : World} (h : OnAt n S g base w wr) {c : Nat} (hc : c < n) : wr.cell? ⟨g, c, none⟩ = some (.bool (decide ((c : Int) ∈ S))) ∧ wr.frozen? ⟨g, c, none⟩ = false := by
  obtain ⟨b', o, e, hr⟩ := h.1.rd (by intro e; have := congrArg List.length e; rw [onc_len, List.length_nil] at this; omega)
  cases e
  have := hr c _ (onc_get S hc)
  rw [Nat.zero_add] at this
  exact ⟨this, (h.1.put (i := c) (by omega) (.bool true)).2.2⟩
theorem OnAt.put {n : Nat} {S S' : List Int} {g base : Nat} {w wr : World} (h : OnAt n S g base w wr) {c : Nat} (hc : c < n) (hs : ∀ x, x ∈ S' ↔ x = (c : Int) ∨ x ∈ S) : OnAt n S' g base w (wr.setCell ⟨g, c, none⟩ (.bool true)) := by
  have h1 := h.1.put (i := c) (by omega) (.bool true)
  rw [onc_set hc hs] at h1
  exact ⟨h1.1, h.2.setCell (p := ⟨g, c, none⟩) (h.1.row_ge g rfl) _⟩
theorem OnAt.below {n : Nat} {S : List Int} {g base : Nat} {w wr wx : World} (h : OnAt n S g base w wr) (hb : Below wr.heap.size wr wx) (hz : base ≤ wr.heap.size) : OnAt n S g base w wx :=
  ⟨h.1.below hb, h.2.trans (hb.mono hz)⟩
/-- What one table needs, as far as its columns were looked at. -/
def someK (all : List Int) (a n : Nat) : List Int := ((List.range n).filter fun c => decide (((a + c : Nat) : Int) ∈ all)).map fun c : Nat => (c : Int)
theorem someK_succ (all : List Int) (a c : Nat) : someK all a (c + 1) = if ((a + c : Nat) : Int) ∈ all then someK all a c ++ [(c : Int)] else someK all a c := by
  unfold someK
  rw [List.range_succ, List.filter_append, List.map_append]
  by_cases h : ((a + c : Nat) : Int) ∈ all
  · rw [if_pos h]
    have e : [c].filter (fun c : Nat => decide (((a + c : Nat) : Int) ∈ all)) = [c] := by rw [List.filter_cons, if_pos (decide_eq_true h)]; rfl
    rw [e]
    rfl
  · rw [if_neg h]
    have e : [c].filter (fun c : Nat => decide (((a + c : Nat) : Int) ∈ all)) = [] := by rw [List.filter_cons, if_neg (by rw [decide_eq_false h]; decide)]; rfl
    rw [e]
    exact List.append_nil _
theorem someC_of (all : List Int) (a n : Nat) : someC all a n = if someK all a n = [] then [0] else someK all a n := rfl
end Go.Proofs.YtheafcfbahdcfaaDoor
