/- A row of n cells as a function of the place. Walks: whether a text is like a pattern, as the reference finds it: a table of all places. Walks: what comes of a node that asks a column; whether nodes are one with its parts. Walks: what comes of a node that asks a column, as the reference has it. -/
import Derived.Test.YtheafcfbahdcfaaDoorMGrA
import Derived.Laws.OwnMore
import Derived.Test.YtheafcfbahdcfaaDoorMGrO
import Derived.Test.YtheafcfbahdcfaaDoorMGrN
import Derived.Test.YtheafcfbahdcfaaDoorMAkR
namespace Go.Proofs.YtheafcfbahdcfaaDoor
set_option linter.unusedVariables false
set_option linter.unusedSimpArgs false
open Go.RowKit

def tbl (n : Nat) (f : Nat → Value) : List Value := (List.range n).map f
theorem tbl_len (n : Nat) (f : Nat → Value) : (tbl n f).length = n := by simp [tbl]
theorem tbl_get {n i : Nat} (hi : i < n) (f : Nat → Value) : (tbl n f)[i]? = some (f i) := by simp [tbl, List.getElem?_range hi]
theorem tbl_ext {n : Nat} {f g : Nat → Value} (h : ∀ i, i < n → f i = g i) : tbl n f = tbl n g := List.map_congr_left fun i hi => h i (List.mem_range.1 hi)
theorem tbl_set (n : Nat) (f : Nat → Value) (i : Nat) (v : Value) : (tbl n f).set i v = tbl n fun p => if p = i then v else f p := by
  apply List.ext_getElem?
  intro j
  rw [List.getElem?_set, tbl_len]
  by_cases hj : j < n
  · have h1 : (tbl n fun p => if p = i then v else f p)[j]? = some (if j = i then v else f j) := tbl_get hj _
    rw [h1]
    by_cases e : i = j
    · rw [if_pos e, if_pos (by omega), if_pos e.symm]
    · rw [if_neg e, tbl_get hj, if_neg (fun e2 => e e2.symm)]
  · have h1 : (tbl n fun p => if p = i then v else f p)[j]? = none := List.getElem?_eq_none (by rw [tbl_len]; omega)
    have h2 : (tbl n f)[j]? = none := List.getElem?_eq_none (by rw [tbl_len]; omega)
    rw [h1, h2]
    by_cases e : i = j
    · rw [if_pos e, if_neg (by omega)]
    · rw [if_neg e]
theorem tbl_rep (n : Nat) (v : Value) : List.replicate n v = tbl n fun _ => v := by
  apply List.ext_getElem?
  intro j
  rw [List.getElem?_replicate]
  by_cases h : j < n
  · rw [if_pos h, tbl_get h]
  · rw [if_neg h, List.getElem?_eq_none (by rw [tbl_len]; omega)]
end Go.Proofs.YtheafcfbahdcfaaDoor
namespace Go.Proofs.YtheafcfbahdcfaaDoor
set_option linter.unusedVariables false
set_option linter.unusedSimpArgs false
open Go.RowKit

attribute [local go_sem ↓] Go.wp_at_zero Go.wp_at_succ

theorem Ebool : ElemT Tryd.prog 68 4 1 1 (.bool false) := ElemT.mk' (by kernel_rfl) (by kernel_rfl) rfl (by omega)
/-- Where a part lies. -/
theorem rpart_cells {w : World} {A : Option Addr} {l : List Pt} {j : Nat} (hA : Rd w A (rpcells l)) (h : j < l.length) :
    ∃ b o, A = some ⟨b, o, none⟩ ∧ b < w.heap.size ∧ w.cell? ⟨b, o + j * 3, none⟩ = some (.bool (l[j].kind == 37)) ∧ w.cell? ⟨b, o + j * 3 + 1, none⟩ = some (.bool (l[j].kind == 95)) ∧ w.cell? ⟨b, o + j * 3 + 2, none⟩ = some (.string (St8 l[j].letter)) := by
  have hne : rpcells l ≠ [] := by
    intro e
    have := congrArg List.length e
    rw [rpcells_len, List.length_nil] at this
    omega
  obtain ⟨b, o, e, hr⟩ := hA hne
  have key : ∀ t v, (rpcell l[j])[t]? = some v → t < 3 → w.cell? ⟨b, o + j * 3 + t, none⟩ = some v := fun t v hv ht => by
    rw [Nat.add_assoc]
    exact hr (j * 3 + t) v (by rw [rpcells_get l j _ t (List.getElem?_eq_getElem h) ht]; exact hv)
  exact ⟨b, o, e, lt_of_range hr hne, key 0 _ rfl (by omega), key 1 _ rfl (by omega), key 2 _ rfl (by omega)⟩

theorem partsF_kind : ∀ (l : List (Nat × List UInt8)) (e : Bool), ∀ x ∈ (partsF e l).1, x.kind = 0 ∨ x.kind = 37 ∨ x.kind = 95
  | [], e, x, h => by rw [partsF] at h; cases h
  | y :: t, e, x, h => by
    rw [partsF] at h
    rcases List.mem_append.1 h with h | h
    · unfold stepP at h
      split at h
      · rw [List.mem_singleton.1 h]; exact .inl rfl
      · split at h
        · cases h
        · split at h
          · rename_i h2
            rw [List.mem_singleton.1 h]
            show (y.1 : Int) = 0 ∨ (y.1 : Int) = 37 ∨ (y.1 : Int) = 95
            omega
          · rw [List.mem_singleton.1 h]; exact .inl rfl
    · exact partsF_kind t _ x h
theorem partsM_kind (p : List UInt8) : ∀ x ∈ (partsM p).1, x.kind = 0 ∨ x.kind = 37 ∨ x.kind = 95 := partsF_kind _ _
theorem one_zero {P : Pt} {x : List UInt8} (h : P.kind = 0) : decide (P.kind = 95 ∨ P = ⟨0, x⟩) = decide (P.letter = x) := by
  obtain ⟨k, l⟩ := P
  dsimp only at h ⊢
  subst h
  by_cases e : l = x
  · rw [decide_eq_true e, decide_eq_true (.inr (by rw [e]))]
  · rw [decide_eq_false e, decide_eq_false]
    rintro (h | h)
    · omega
    · cases h; exact e rfl

/-- What is written so far of the next row. -/
def upto (k : Nat) (f : Nat → Bool) : Nat → Value := fun j => .bool (if j < k then f j else false)
theorem upto_set (n k : Nat) (f : Nat → Bool) (b : Bool) (hb : f k = b) : (tbl n (upto k f)).set k (.bool b) = tbl n (upto (k + 1) f) := by
  rw [tbl_set]
  apply tbl_ext
  intro i _
  unfold upto
  by_cases e : i = k
  · subst e
    rw [if_pos rfl, if_pos (by omega), hb]
  · rw [if_neg e]
    by_cases h : i < k
    · rw [if_pos h, if_pos (by omega)]
    · rw [if_neg h, if_neg (by omega)]

end Go.Proofs.YtheafcfbahdcfaaDoor
namespace Go.Proofs.YtheafcfbahdcfaaDoor
set_option linter.unusedVariables false
set_option linter.unusedSimpArgs false
open Go.RowKit

attribute [local go_sem ↓] Go.wp_at_zero Go.wp_at_succ

theorem fine_parts {cols : Nat} {x : Nd} (h : fineN cols x = true) : 0 ≤ x.parts ∧ x.parts ≤ 40 := by
  unfold fineN Nd.many at h
  unfold Nd.parts
  simp only [Bool.and_eq_true, Bool.not_eq_true', Bool.and_eq_false_iff, decide_eq_true_eq, decide_eq_false_iff_not] at h
  obtain ⟨⟨h1, h2⟩, h3⟩ := h
  split
  · rcases h3 with h3 | h3 <;> omega
  · split <;> omega

end Go.Proofs.YtheafcfbahdcfaaDoor
namespace Go.Proofs.YtheafcfbahdcfaaDoor
set_option linter.unusedVariables false
set_option linter.unusedSimpArgs false
open Go.RowKit

attribute [local go_sem ↓] Go.wp_at_zero Go.wp_at_succ

theorem cmpI_zero {a b : Int} : cmpI a b = 0 ↔ a = b := by
  unfold cmpI
  split
  · omega
  · split <;> omega
theorem cmpS_zero {a b : List UInt8} : cmpS a b = 0 ↔ a = b := by
  unfold cmpS
  constructor
  · intro h
    split at h
    · omega
    · split at h
      · assumption
      · omega
  · rintro rfl
    rw [bless_irrefl, if_neg (by decide), if_pos rfl]
theorem cmpVa_zero {a b : Va} : cmpVa a b = 0 ↔ a = b := by
  obtain ⟨k, n, s⟩ := a
  obtain ⟨k', n', s'⟩ := b
  unfold cmpVa or3
  dsimp only
  constructor
  · intro h
    split at h
    · rename_i h1
      exact absurd h h1
    · rename_i h1
      split at h
      · rename_i h2
        exact absurd h h2
      · rename_i h2
        have e1 := cmpI_zero.1 (Classical.not_not.1 h1)
        have e2 := cmpI_zero.1 (Classical.not_not.1 h2)
        have e3 := cmpS_zero.1 h
        rw [e1, e2, e3]
  · intro h
    cases h
    rw [cmpI_zero.2 rfl, cmpI_zero.2 rfl, cmpS_zero.2 rfl]
    rfl
theorem cmpVa_eq (a b : Va) : decide (cmpVa a b = 0) = decide (a = b) := by
  by_cases h : a = b
  · rw [decide_eq_true h, decide_eq_true (cmpVa_zero.2 h)]
  · rw [decide_eq_false h, decide_eq_false (fun e => h (cmpVa_zero.1 e))]

set_option maxRecDepth 100000 in
theorem column_c (op : Int) (w : World) : Calls Tryd.prog 57 #[.int .u8 op] w fun e w' => e = .returned (.bool (decide (5 ≤ op ∧ op ≤ 8))) ∧ w = w' := by
  by_cases h5 : op = 5
  · subst h5
    go_enter Tryd.func57, Tryd.ntmps57
    go_wp2_with fail
    go_ret
    exact ⟨rfl, rfl⟩
  · have e5 : (op == 5) = false := by rw [beq_eq_false_iff_ne]; exact h5
    by_cases h6 : op = 6
    · subst h6
      go_enter Tryd.func57, Tryd.ntmps57
      go_wp2_with fail
      go_ret
      exact ⟨rfl, rfl⟩
    · have e6 : (op == 6) = false := by rw [beq_eq_false_iff_ne]; exact h6
      by_cases h7 : op = 7
      · subst h7
        go_enter Tryd.func57, Tryd.ntmps57
        go_wp2_with fail
        go_ret
        exact ⟨rfl, rfl⟩
      · have e7 : (op == 7) = false := by rw [beq_eq_false_iff_ne]; exact h7
        have hR : Hid (decide (5 ≤ op ∧ op ≤ 8) = (op == 8)) := by
          show _ = _
          by_cases h8 : op = 8
          · subst h8; rfl
          · rw [decide_eq_false (by omega)]
            exact (beq_eq_false_iff_ne.2 h8).symm
        rw [hR.out]
        go_enter Tryd.func57, Tryd.ntmps57
        go_wp2_with fail
        go_ret
        exact ⟨rfl, rfl⟩

def rkids (n : Nd) : Int := if n.op = 4 then 1 else n.kids
set_option maxRecDepth 100000 in
theorem rkids_c (n : Nd) (w : World) : Calls Tryd.prog 65 #[n.agg] w fun e w' => e = .returned (.int .i64 (rkids n)) ∧ Below w.heap.size w w' := by
  have hv : Hid (rkids n = if n.op = 4 then 1 else n.kids) := rfl
  generalize rkids n = R at *
  obtain ⟨op, col, kids, k, nn, s⟩ := n
  unfold Nd.agg
  dsimp only at hv ⊢
  have hb0 : Hid (Below w.heap.size w (w.alloc (.cells #[.int .u8 op, .int .i64 col, .int .i64 kids, .int .u8 k, .int .i64 nn, .string (St8 s)] 50))) := (Below.refl _ _).alloc (Nat.le_refl _) _
  by_cases h4 : op = 4
  · subst h4
    rw [if_pos rfl] at hv
    go_enter Tryd.func65, Tryd.ntmps65
    go_wp2_with fail
    go_ret
    rw [hv.out]
    exact ⟨rfl, hb0.out⟩
  · have e4 : (op == 4) = false := by rw [beq_eq_false_iff_ne]; exact h4
    rw [if_neg h4] at hv
    go_enter Tryd.func65, Tryd.ntmps65
    go_wp2_with fail
    go_ret
    rw [hv.out]
    exact ⟨rfl, hb0.out⟩

end Go.Proofs.YtheafcfbahdcfaaDoor
