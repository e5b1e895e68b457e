/- What comes of nodes: plain laws. Walks: what comes of a row (ask.Eval), part by part. Walks: ask.Eval. Walks: where nodes end, and why something can't be asked, as the reference finds it; what comes of nodes from the last one on: plain laws. -/
import Derived.Test.YtheafcfbahdcfaaDoorMGrC
import Derived.Test.YtheafcfbahdcfaaDoorMGrN
import Derived.Test.YtheafcfbahdcfaaDoorMGrP
import Derived.Deep.RegionHeld3
import Derived.Laws.EntriesVeiled
import Derived.Test.YtheafcfbahdcfaaDoorMGlO
namespace Go.Proofs.YtheafcfbahdcfaaDoor
set_option linter.unusedVariables false
set_option linter.unusedSimpArgs false

theorem asks_parts {n : Nd} (h : n.asks = true) : n.parts = 0 := by
  unfold Nd.asks at h
  have := of_decide_eq_true h
  unfold Nd.parts
  rw [if_neg (by omega), if_neg (by omega)]
theorem leafM_bounds (n : Nd) (v : Va) : 0 ≤ leafM n v ∧ leafM n v ≤ 2 := by
  unfold leafM truthV
  repeat' split
  all_goals omega
theorem joinT_bounds {op a x : Int} (ha : 0 ≤ a ∧ a ≤ 2) (hx : 0 ≤ x ∧ x ≤ 2) : 0 ≤ joinT op a x ∧ joinT op a x ≤ 2 := by
  unfold joinT
  split
  · exact andT_bounds (by omega) (by omega)
  · split
    · exact orT_bounds (by omega) (by omega)
    · exact notT_bounds (by omega)
theorem firstT_bounds (op : Int) : 0 ≤ firstT op ∧ firstT op ≤ 2 := by
  unfold firstT
  split <;> omega

theorem evs_bounds {g : List Nd → Option (Int × List Nd)} (hg : ∀ t x t', g t = some (x, t') → 0 ≤ x ∧ x ≤ 2) (op : Int) : ∀ (k : Nat) (a : Int) (t : List Nd) (x : Int) (t' : List Nd), 0 ≤ a ∧ a ≤ 2 → evs g op k a t = some (x, t') → 0 ≤ x ∧ x ≤ 2
  | 0, a, t, x, t', ha, h => by
    rw [evs] at h
    cases h
    exact ha
  | k + 1, a, t, x, t', ha, h => by
    rw [evs] at h
    split at h
    · cases h
    · rename_i y t1 hy
      exact evs_bounds hg op k _ t1 x t' (joinT_bounds ha (hg _ _ _ hy)) h
theorem ev_bounds (r : RowM) : ∀ (f : Nat) (t : List Nd) (x : Int) (t' : List Nd), ev r f t = some (x, t') → 0 ≤ x ∧ x ≤ 2
  | 0, t, x, t', h => by rw [ev] at h; cases h
  | f + 1, [], x, t', h => by rw [ev] at h; cases h
  | f + 1, n :: t, x, t', h => by
    rw [ev] at h
    split at h
    · cases h
      exact leafM_bounds _ _
    · exact evs_bounds (ev_bounds r f) _ _ _ _ _ _ (firstT_bounds _) h

theorem evs_suffix {g : List Nd → Option (Int × List Nd)} (hg : ∀ t x t', g t = some (x, t') → ∃ p, t = p ++ t') (op : Int) : ∀ (k : Nat) (a : Int) (t : List Nd) (x : Int) (t' : List Nd), evs g op k a t = some (x, t') → ∃ p, t = p ++ t'
  | 0, a, t, x, t', h => by
    rw [evs] at h
    cases h
    exact ⟨[], rfl⟩
  | k + 1, a, t, x, t', h => by
    rw [evs] at h
    split at h
    · cases h
    · rename_i y t1 hy
      obtain ⟨p1, e1⟩ := hg _ _ _ hy
      obtain ⟨p2, e2⟩ := evs_suffix hg op k _ t1 x t' h
      exact ⟨p1 ++ p2, by rw [List.append_assoc, ← e2]; exact e1⟩
theorem ev_suffix (r : RowM) : ∀ (f : Nat) (t : List Nd) (x : Int) (t' : List Nd), ev r f t = some (x, t') → ∃ p, t = p ++ t'
  | 0, t, x, t', h => by rw [ev] at h; cases h
  | f + 1, [], x, t', h => by rw [ev] at h; cases h
  | f + 1, n :: t, x, t', h => by
    rw [ev] at h
    split at h
    · cases h
      exact ⟨[n], rfl⟩
    · obtain ⟨p, e⟩ := evs_suffix (ev_suffix r f) _ _ _ _ _ _ h
      exact ⟨n :: p, by rw [List.cons_append, ← e]⟩

/-- Behind others nothing turns, nor with more depth. -/
theorem evs_more {g g' : List Nd → Option (Int × List Nd)} {m : List Nd} (hg : ∀ t x t', g t = some (x, t') → g' (t ++ m) = some (x, t' ++ m)) (op : Int) : ∀ (k : Nat) (a : Int) (t : List Nd) (x : Int) (t' : List Nd), evs g op k a t = some (x, t') → evs g' op k a (t ++ m) = some (x, t' ++ m)
  | 0, a, t, x, t', h => by
    rw [evs] at h ⊢
    cases h
    rfl
  | k + 1, a, t, x, t', h => by
    rw [evs] at h ⊢
    split at h
    · cases h
    · rename_i y t1 hy
      rw [hg _ _ _ hy]
      exact evs_more hg op k _ t1 x t' h
theorem ev_more (r : RowM) (m : List Nd) : ∀ (f f' : Nat) (t : List Nd) (x : Int) (t' : List Nd), f ≤ f' → ev r f t = some (x, t') → ev r f' (t ++ m) = some (x, t' ++ m)
  | 0, f', t, x, t', _, h => by rw [ev] at h; cases h
  | f + 1, f', [], x, t', _, h => by rw [ev] at h; cases h
  | f + 1, 0, n :: t, x, t', hf, h => by omega
  | f + 1, f' + 1, n :: t, x, t', hf, h => by
    rw [ev] at h
    rw [List.cons_append, ev]
    split at h
    · rename_i ha
      rw [if_pos ha]
      cases h
      rfl
    · rename_i ha
      rw [if_neg ha]
      exact evs_more (fun t x t' => ev_more r m f f' t x t' (by omega)) _ _ _ _ _ _ h

theorem evs_ends {g : List Nd → Option (Int × List Nd)} (N : Nat) (op : Int)
    (hg : ∀ (t : List Nd) (k : Nat), t.length ≤ N → (∀ n ∈ t, 0 ≤ n.parts) → ends ((k : Int) + 1) t = true → ∃ x t', g t = some (x, t') ∧ ends (k : Int) t' = true ∧ (∀ n ∈ t', n ∈ t) ∧ t'.length ≤ t.length) :
    ∀ (K : Nat) (a : Int) (t : List Nd) (k : Nat), t.length ≤ N → (∀ n ∈ t, 0 ≤ n.parts) → ends ((k : Int) + K) t = true → ∃ x t', evs g op K a t = some (x, t') ∧ ends (k : Int) t' = true ∧ (∀ n ∈ t', n ∈ t) ∧ t'.length ≤ t.length
  | 0, a, t, k, hl, hp, h => ⟨a, t, rfl, by rw [show (k : Int) + ((0 : Nat) : Int) = (k : Int) from by omega] at h; exact h, fun n hn => hn, Nat.le_refl _⟩
  | K + 1, a, t, k, hl, hp, h => by
    obtain ⟨y, t1, h1, h2, h3, h4⟩ := hg t (k + K) hl hp (by rw [show ((k + K : Nat) : Int) + 1 = (k : Int) + ((K + 1 : Nat) : Int) from by omega]; exact h)
    obtain ⟨x, t', e1, e2, e3, e4⟩ := evs_ends N op hg K (joinT op a y) t1 k (by omega) (fun n hn => hp n (h3 n hn)) (by rw [show (k : Int) + (K : Int) = ((k + K : Nat) : Int) from by omega]; exact h2)
    exact ⟨x, t', by rw [evs, h1]; exact e1, e2, fun n hn => h3 n (e3 n hn), by omega⟩
theorem ev_ends (r : RowM) : ∀ (f : Nat) (t : List Nd) (k : Nat), t.length ≤ f → (∀ n ∈ t, 0 ≤ n.parts) → ends ((k : Int) + 1) t = true → ∃ x t', ev r f t = some (x, t') ∧ ends (k : Int) t' = true ∧ (∀ n ∈ t', n ∈ t) ∧ t'.length ≤ t.length
  | f, [], k, hl, hp, h => by
    rw [ends] at h
    have := of_decide_eq_true h
    omega
  | 0, n :: t, k, hl, hp, h => by simp at hl
  | f + 1, n :: t, k, hl, hp, h => by
    rw [ends] at h
    have h := (Bool.and_eq_true_iff.1 h).2
    have hn := hp n (List.mem_cons_self ..)
    by_cases ha : n.asks = true
    · rw [asks_parts ha, show (k : Int) + 1 + (0 - 1) = (k : Int) from by omega] at h
      exact ⟨_, t, by rw [ev, if_pos ha], h, fun m hm => List.mem_cons_of_mem _ hm, by simp⟩
    · obtain ⟨x, t', e1, e2, e3, e4⟩ := evs_ends f n.op (fun t k => ev_ends r f t k) n.parts.toNat (firstT n.op) t k (by simp at hl; omega) (fun m hm => hp m (List.mem_cons_of_mem _ hm)) (by
        rw [show (k : Int) + ((n.parts.toNat : Nat) : Int) = (k : Int) + 1 + (n.parts - 1) from by omega]
        exact h)
      exact ⟨x, t', by rw [ev, if_neg ha]; exact e1, e2, fun m hm => List.mem_cons_of_mem _ (e3 m hm), by rw [List.length_cons]; omega⟩

theorem fine_parts0 {cols : Nat} {x : Nd} (h : fineN cols x = true) : 0 ≤ x.parts := by
  unfold fineN Nd.many at h
  unfold Nd.parts
  simp only [Bool.and_eq_true, Bool.not_eq_true', Bool.and_eq_false_iff, decide_eq_true_eq, decide_eq_false_iff_not] at h
  obtain ⟨⟨h1, h2⟩, h3⟩ := h
  split
  · rcases h3 with h3 | h3 <;> omega
  · split <;> omega
theorem whole_ev (r : RowM) {cols : Nat} {l : List Nd} (h : wholeN cols l = true) : ∃ x, ev r l.length l = some (x, []) := by
  unfold wholeN at h
  obtain ⟨h1, h2⟩ := Bool.and_eq_true_iff.1 h
  obtain ⟨_, h3⟩ := Bool.and_eq_true_iff.1 h1
  obtain ⟨x, t', e1, e2, _, _⟩ := ev_ends r l.length l 0 (Nat.le_refl _) (fun n hn => fine_parts0 (List.all_eq_true.1 h3 n hn)) (by rw [show ((0 : Nat) : Int) + 1 = 1 from rfl]; exact h2)
  refine ⟨x, ?_⟩
  cases t' with
  | nil => exact e1
  | cons n t =>
    rw [ends] at e2
    simp at e2
theorem evalM_of {l : List Nd} {r : RowM} {x : Int} (h : wholeN r.length l = true) (he : ev r l.length l = some (x, [])) : evalM l r = x := by
  unfold evalM
  rw [if_pos h, he]
  rfl
theorem evalM_bounds (l : List Nd) (r : RowM) : 0 ≤ evalM l r ∧ evalM l r ≤ 2 := by
  by_cases h : wholeN r.length l = true
  · obtain ⟨x, hx⟩ := whole_ev r h
    rw [evalM_of h hx]
    exact ev_bounds r _ _ _ _ hx
  · unfold evalM
    rw [if_neg h]
    omega

/-- What may be asked is whole. -/
theorem may_fine {kinds : List Int} {x : Nd} (h : mayN kinds x = true) : fineN kinds.length x = true := by
  have hop : 1 ≤ x.op ∧ x.op ≤ 8 := by
    unfold mayN at h
    repeat' split at h
    all_goals first | (cases h; done) | omega | skip
  unfold mayN at h
  unfold fineN Nd.many Nd.asks
  unfold Nd.asks at h
  simp only [Bool.and_eq_true, Bool.not_eq_true', Bool.and_eq_false_iff, decide_eq_true_eq, decide_eq_false_iff_not]
  split at h
  · cases h
  · split at h
    · cases h
    · rename_i h1 h2
      simp only [decide_eq_true_eq, decide_eq_false_iff_not] at h2
      refine ⟨⟨hop, ?_⟩, ?_⟩
      · by_cases ha : 5 ≤ x.op ∧ x.op ≤ 8
        · right
          intro hc
          exact h2 (.inr ⟨ha, hc⟩)
        · exact .inl ha
      · by_cases hm : x.op = 2 ∨ x.op = 3
        · right
          rw [if_neg (by omega), if_pos hm] at h
          have := of_decide_eq_true h
          omega
        · exact .inl hm
theorem right_whole {kinds : List Int} {l : List Nd} (h : rightN kinds l = true) : wholeN kinds.length l = true := by
  unfold rightN at h
  unfold wholeN
  obtain ⟨h1, h2⟩ := Bool.and_eq_true_iff.1 h
  obtain ⟨h3, h4⟩ := Bool.and_eq_true_iff.1 h1
  rw [h3, h2, Bool.and_true, Bool.true_and, List.all_eq_true]
  exact fun x hx => may_fine (List.all_eq_true.1 h4 x hx)

/-! ### Asked all together -/
def and2 : Nd := ⟨2, 0, 2, Va.nil⟩
theorem ends_append : ∀ (a b : List Nd) (k : Int), ends (k + 1) a = true → (∀ n ∈ a, 0 ≤ n.parts) → ∀ (k0 : Int), 0 ≤ k → 0 < k0 → ends (k + 1) a = true → ends (k + 1 + k0) (a ++ b) = ends k0 b
  | [], b, k, h, _, k0, hk, hk0, _ => by
    rw [ends] at h
    have := of_decide_eq_true h
    omega
  | n :: t, b, k, h, hp, k0, hk, hk0, _ => by
    rw [ends] at h
    have h2 := (Bool.and_eq_true_iff.1 h).2
    have hn := hp n (List.mem_cons_self ..)
    rw [List.cons_append, ends, decide_eq_true (by omega), Bool.true_and]
    by_cases hz : k + 1 + (n.parts - 1) = 0
    · rw [hz] at h2
      have ht : t = [] := by
        cases t with
        | nil => rfl
        | cons m t => rw [ends] at h2; simp at h2
      subst ht
      rw [show k + 1 + k0 + (n.parts - 1) = k0 from by omega, List.nil_append]
    · rw [show k + 1 + k0 + (n.parts - 1) = (k + n.parts - 1) + 1 + k0 from by omega]
      exact ends_append t b (k + n.parts - 1) (by rw [show k + n.parts - 1 + 1 = k + 1 + (n.parts - 1) from by omega]; exact h2) (fun m hm => hp m (List.mem_cons_of_mem _ hm)) k0 (by omega) hk0 (by rw [show k + n.parts - 1 + 1 = k + 1 + (n.parts - 1) from by omega]; exact h2)
theorem may_parts0 {kinds : List Int} {x : Nd} (h : mayN kinds x = true) : 0 ≤ x.parts := fine_parts0 (may_fine h)
theorem right_all {kinds : List Int} {a b : List Nd} (ha : rightN kinds a = true) (hb : rightN kinds b = true) (hl : (and2 :: (a ++ b)).length ≤ 40) : rightN kinds (and2 :: (a ++ b)) = true := by
  unfold rightN at ha hb ⊢
  obtain ⟨a1, a2⟩ := Bool.and_eq_true_iff.1 ha
  obtain ⟨a3, a4⟩ := Bool.and_eq_true_iff.1 a1
  obtain ⟨b1, b2⟩ := Bool.and_eq_true_iff.1 hb
  obtain ⟨b3, b4⟩ := Bool.and_eq_true_iff.1 b1
  have hm : mayN kinds and2 = true := by
    unfold mayN
    rfl
  rw [decide_eq_true ⟨by simp, hl⟩, List.all_cons, List.all_append, hm, a4, b4, ends]
  show (true && (true && (true && true)) && (decide ((0 : Int) < 1) && ends (1 + ((2 : Int) - 1)) (a ++ b))) = true
  have := ends_append a b 0 (by rw [Int.zero_add]; exact a2) (fun n hn => may_parts0 (List.all_eq_true.1 a4 n hn)) 1 (by omega) (by omega) (by rw [Int.zero_add]; exact a2)
  rw [show (1 : Int) + (2 - 1) = 0 + 1 + 1 from rfl, this, b2]
  rfl
theorem eval_all {kinds : List Int} {a b : List Nd} {r : RowM} (hr : r.length = kinds.length) (ha : rightN kinds a = true) (hb : rightN kinds b = true) (hl : (and2 :: (a ++ b)).length ≤ 40) : evalM (and2 :: (a ++ b)) r = andT (evalM a r) (evalM b r) := by
  have wa := right_whole ha
  have wb := right_whole hb
  have wc := right_whole (right_all ha hb hl)
  rw [← hr] at wa wb wc
  obtain ⟨x, hx⟩ := whole_ev r wa
  obtain ⟨y, hy⟩ := whole_ev r wb
  rw [evalM_of wa hx, evalM_of wb hy]
  have bx := ev_bounds r _ _ _ _ hx
  have hx2 := ev_more r b a.length (a ++ b).length a x [] (by rw [List.length_append]; omega) hx
  have hy2 := ev_more r [] b.length (a ++ b).length b y [] (by rw [List.length_append]; omega) hy
  rw [List.append_nil] at hy2
  rw [List.nil_append] at hx2
  refine evalM_of wc ?_
  rw [List.length_cons, ev]
  have hna : ¬ and2.asks = true := by decide
  rw [if_neg hna]
  show evs (ev r (a ++ b).length) 2 2 2 (a ++ b) = _
  rw [evs, hx2]
  show evs (ev r (a ++ b).length) 2 1 (joinT 2 2 x) b = _
  rw [evs, hy2]
  show some (joinT 2 (joinT 2 2 x) y, _) = _
  have e1 : joinT 2 2 x = x := by
    unfold joinT andT known
    rw [if_pos rfl]
    rw [if_neg (by omega), if_neg (by omega)]
    omega
  rw [e1]
  rfl
end Go.Proofs.YtheafcfbahdcfaaDoor
namespace Go.Proofs.YtheafcfbahdcfaaDoor
set_option linter.unusedVariables false
set_option linter.unusedSimpArgs false
open Go.RowKit

attribute [local go_sem ↓] Go.wp_at_zero Go.wp_at_succ

theorem drop_suffix {l p t : List Nd} {i n : Nat} (hl : l.length = n) (hi : i ≤ n) (h : l.drop i = p ++ t) : l.drop (n - t.length) = t ∧ n - t.length ≤ n ∧ t.length ≤ n := by
  have e : l = (l.take i ++ p) ++ t := by rw [List.append_assoc, ← h, List.take_append_drop]
  have hlen := congrArg List.length e
  rw [List.length_append, hl] at hlen
  refine ⟨?_, by omega, by omega⟩
  rw [e, List.drop_append_of_le_length (by omega), List.drop_eq_nil_of_le (by omega), List.nil_append]

theorem colAt_get {r : RowM} {cj : Nat} (h : cj < r.length) : colAt r (cj : Int) = r[cj] := by
  unfold colAt
  rw [if_neg (by omega), Int.toNat_natCast, List.getD, List.getElem?_eq_getElem h]
  rfl

theorem fine_op {cols : Nat} {x : Nd} (h : fineN cols x = true) : 1 ≤ x.op ∧ x.op ≤ 8 := by
  unfold fineN at h
  simp only [Bool.and_eq_true, decide_eq_true_eq] at h
  exact h.1.1
theorem fine_col {cols : Nat} {x : Nd} (h : fineN cols x = true) (ha : x.asks = true) : 0 ≤ x.col ∧ x.col < (cols : Int) := by
  unfold fineN at h
  rw [ha] at h
  simp only [Bool.true_and, Bool.and_eq_true, Bool.not_eq_true', decide_eq_false_iff_not] at h
  have := h.1.2
  omega
theorem ask_none {n : Nd} (h : n.asks = false) : ¬ (5 ≤ n.op ∧ n.op ≤ 8) := by
  unfold Nd.asks at h
  exact of_decide_eq_false h

end Go.Proofs.YtheafcfbahdcfaaDoor
namespace Go.Proofs.YtheafcfbahdcfaaDoor
set_option linter.unusedVariables false
set_option linter.unusedSimpArgs false
open Go.RowKit

attribute [local go_sem ↓] Go.wp_at_zero Go.wp_at_succ

end Go.Proofs.YtheafcfbahdcfaaDoor
namespace Go.Proofs.YtheafcfbahdcfaaDoor
set_option linter.unusedVariables false
set_option linter.unusedSimpArgs false
open Go.RowKit

attribute [local go_sem ↓] Go.wp_at_zero Go.wp_at_succ

theorem may_kids {kinds : List Int} {x : Nd} (h : mayN kinds x = true) : rkids x = x.parts := by
  obtain ⟨op, col, kids, v⟩ := x
  rw [mayN_ref] at h
  unfold rkids Nd.parts
  dsimp only
  split at h
  · cases h
  · split at h
    · cases h
    · rename_i h1 h2
      by_cases h4 : op = 4
      · rw [if_pos h4, if_neg (by omega), if_pos h4]
      · rw [if_neg h4]
        by_cases hm : op = 2 ∨ op = 3
        · rw [if_pos hm]
        · rw [if_neg hm, if_neg h4]
          omega
theorem may_op {kinds : List Int} {x : Nd} (h : mayN kinds x = true) : 1 ≤ x.op ∧ x.op ≤ 8 := by
  obtain ⟨op, col, kids, v⟩ := x
  rw [mayN_ref] at h
  split at h
  · cases h
  · dsimp only; omega
theorem may_col {kinds : List Int} {x : Nd} (h : mayN kinds x = true) (ha : x.asks = true) : 0 ≤ x.col ∧ x.col < (kinds.length : Int) := by
  obtain ⟨op, col, kids, v⟩ := x
  unfold Nd.asks at ha
  have ha := of_decide_eq_true ha
  rw [mayN_ref] at h
  dsimp only at ha ⊢
  split at h
  · cases h
  · split at h
    · cases h
    · split at h
      · cases h
      · omega

set_option maxHeartbeats 4000000 in
set_option maxRecDepth 100000 in
theorem rend_c (kinds : List Int) (l : List Nd) (L : Option Addr) (n c : Nat) (w : World) (hl : l.length = n) (hL : Rd w L (ncells l)) (hn : n ≤ 1000) (hm : ∀ x ∈ l, mayN kinds x = true) :
    Calls Tryd.prog 50 #[.slice L n c, .int .i64 0] w fun e w' => (∃ E : Int, e = .returned (.int .i64 E) ∧ (E = (n : Int) ↔ ends 1 l = true)) ∧ Below w.heap.size w w' := by
  have Hl := Lib.hid hl
  have HL := Lib.hid hL
  have Hk := Lib.hid hm
  clear hl hL hm
  go_enter Tryd.func50, Tryd.ntmps50
  go_wp2_with fail
  go_loopw [1, 5] (fun va vn wr => ∃ (j d : Nat), va = .int .i64 j ∧ vn = .int .i64 d ∧ j ≤ n ∧ d ≤ 1 + 40 * j ∧ Hid (ends 1 l = ends (d : Int) (l.drop j)) ∧ Hid (Below w.heap.size w wr)) (fun va _ _ => n - (intOf va).toNat)
  case atStart => exact ⟨0, 1, rfl, rfl, by omega, by omega, rfl, Below.refl _ _⟩
  case round =>
    obtain ⟨j, d, rfl, rfl, hj, hd, Heq, Hb⟩ := hrel
    by_cases hd0 : 0 < d
    · have hdI : (0 : Int) < (d : Int) := by omega
      by_cases hjn : j < n
      · have hjI : (j : Int) < (n : Int) := by omega
        have hjI' : ¬ (n : Int) ≤ (j : Int) := by omega
        have hjI0 : (0 : Int) ≤ (j : Int) := by omega
        have hjl : j < l.length := by rw [Hl.out]; exact hjn
        have hg := List.getElem?_eq_getElem hjl
        have hdr := List.drop_eq_getElem_cons hjl
        obtain ⟨b, o, rfl, c0, c1, c2, c3, c4, c5⟩ := node_cells (HL.out.below Hb.out) hg
        have hmx := Hk.out l[j] (List.getElem_mem hjl)
        have hpx := may_parts hmx
        have heq := Heq.out
        rw [hdr, ends, decide_eq_true hdI, Bool.true_and] at heq
        have hK := fun w' => rkids_c l[j] w'
        rw [may_kids hmx] at hK
        have hK := Lib.hid hK
        clear hmx
        generalize l[j] = x at *
        obtain ⟨op, col, kids, k, nn, s⟩ := x
        unfold Nd.agg at hK
        dsimp only at c0 c1 c2 c3 c4 c5 hK
        generalize (Nd.mk op col kids ⟨k, nn, s⟩).parts = P at *
        obtain ⟨p, rfl⟩ := Int.eq_ofNat_of_zero_le hpx.1
        have hw1 : IntKind.i64.wrap ((d : Int) - 1) = (d : Int) - 1 := by rw [IntKind.wrap_i64]; omega
        have hw2 : IntKind.i64.wrap ((d : Int) - 1 + (p : Int)) = (d : Int) - 1 + (p : Int) := by rw [IntKind.wrap_i64]; omega
        have Heq2 := Lib.hid heq
        clear heq hg hdr hjl Heq
        go_wp2_with fail
        refine (hK.out _).mono ?_
        rintro e w1 ⟨rfl, hb1⟩
        have Hb1 := Lib.hid (Hb.out.trans (hb1.mono Hb.out.size))
        clear hb1 c0 c1 c2 c3 c4 c5
        go_wp2_with fail
        go_roundw
        case rel => exact ⟨j + 1, d + p - 1, by go_num, by go_num, by omega, by omega, (by show _ = _; rw [Heq2.out]; congr 1; omega), Hb1⟩
        case measure => simp [intOf]; omega
      · obtain rfl : j = n := by omega
        have hf : Hid (ends 1 l = false) := by
          show _ = _
          rw [Heq.out, List.drop_eq_nil_of_le (by rw [Hl.out]; omega), ends]
          exact decide_eq_false (by omega)
        clear Heq
        go_wp2_with fail
        go_ret
        rw [hf.out]
        exact ⟨⟨-1, rfl, by constructor; omega; intro h; cases h⟩, Hb.out⟩
    · obtain rfl : d = 0 := by omega
      have hf : Hid (j = n ↔ ends 1 l = true) := by
        show _ ↔ _
        rw [Heq.out, show ((0 : Nat) : Int) = 0 from rfl, ends_zero, decide_eq_true_iff, List.drop_eq_nil_iff, Hl.out]
        omega
      clear Heq
      go_wp2_with fail
      go_ret
      exact ⟨⟨j, rfl, by rw [← hf.out]; omega⟩, Hb.out⟩

set_option maxHeartbeats 4000000 in
set_option maxRecDepth 100000 in
theorem rright_c (kinds : List Int) (K : Option Addr) (kn kc : Nat) (l : List Nd) (L : Option Addr) (n c : Nat) (w : World) (hK : Rd w K (kcells kinds)) (hkn : kinds.length = kn) (hs : ∀ x ∈ l, x.v.s.length ≤ 1000000) (hl : l.length = n) (hL : Rd w L (ncells l)) (hn : n ≤ 1000000) (hT : Lib.Utf8Tabs 0 1 w) :
    Calls Tryd.prog 26 #[.slice K kn kc, .slice L n c] w fun e w' => e = .returned (.int .i64 (if rightN kinds l = true then 0 else 140)) ∧ Below w.heap.size w w' := by
  have hR : Hid (rightN kinds l = (decide (1 ≤ l.length ∧ l.length ≤ 40) && l.all (mayN kinds) && ends 1 l)) := rfl
  rw [hl] at hR
  have ho := Lib.hid (fun x (hx : x ∈ l) w' (hb : Below w.heap.size w w') => rone_c kinds K kn kc x w' (hK.below hb) hkn (hs x hx) (Utf8Tabs_below hT hb))
  have he := Lib.hid (fun (hm : l.all (mayN kinds) = true) (hn40 : n ≤ 1000) w' (hb : Below w.heap.size w w') => rend_c kinds l L n c w' hl (hL.below hb) hn40 (List.all_eq_true.1 hm))
  have Hl := Lib.hid hl
  have HL := Lib.hid hL
  generalize rightN kinds l = R at *
  obtain ⟨V, hV⟩ : ∃ V : Int, V = if R = true then 0 else 140 := ⟨_, rfl⟩
  rw [← hV]
  have HV := Lib.hid hV
  clear hV hK hkn hs hl hL hT
  by_cases h1 : n < 1
  · rw [decide_eq_false (by omega), Bool.false_and, Bool.false_and] at hR
    have h1I : (n : Int) < 1 := by omega
    clear he ho
    go_enter Tryd.func26, Tryd.ntmps26
    go_wp2_with fail
    go_ret
    rw [HV.out, hR.out]
    exact ⟨rfl, Below.refl _ _⟩
  · have h1I : ¬ (n : Int) < 1 := by omega
    by_cases h40 : 40 < n
    · rw [decide_eq_false (by omega), Bool.false_and, Bool.false_and] at hR
      have h40I : (40 : Int) < (n : Int) := by omega
      clear he ho
      go_enter Tryd.func26, Tryd.ntmps26
      go_wp2_with fail
      go_ret
      rw [HV.out, hR.out]
      exact ⟨rfl, Below.refl _ _⟩
    · rw [decide_eq_true (by omega), Bool.true_and] at hR
      have h40I : ¬ (40 : Int) < (n : Int) := by omega
      go_enter Tryd.func26, Tryd.ntmps26
      go_wp2_with fail
      go_loopw [5] (fun vi wr => ∃ j : Nat, vi = .int .i64 j ∧ j ≤ n ∧ Hid ((l.take j).all (mayN kinds) = true) ∧ Hid (Below w.heap.size w wr)) (fun vi _ => n - (intOf vi).toNat)
      case atStart => exact ⟨0, rfl, by omega, rfl, Below.refl _ _⟩
      case round =>
        obtain ⟨j, rfl, hj, Hall, Hb⟩ := hrel
        by_cases hjn : j < n
        · have hjI : (j : Int) < (n : Int) := by omega
          have hjI0 : (0 : Int) ≤ (j : Int) := by omega
          have hjl : j < l.length := by rw [Hl.out]; exact hjn
          have hg := List.getElem?_eq_getElem hjl
          obtain ⟨b, o, rfl, c0, c1, c2, c3, c4, c5⟩ := node_cells (HL.out.below Hb.out) hg
          have hx := ho.out l[j] (List.getElem_mem hjl) wr Hb.out
          have Htk := Lib.hid (List.take_succ_eq_append_getElem hjl)
          have Hmm := Lib.hid (List.getElem_mem hjl)
          generalize l[j] = x at *
          have hRx : mayN kinds x = true ∨ mayN kinds x = false := by cases mayN kinds x <;> simp
          obtain ⟨op, col, kids, k, nn, s⟩ := x
          unfold Nd.agg at hx
          dsimp only at c0 c1 c2 c3 c4 c5 hx
          rcases hRx with hRx | hRx
          · rw [hRx] at hx
            have Hx := Lib.hid hx
            have HR := Lib.hid hRx
            clear hx hg hjl hRx
            go_wp2_with fail
            refine Hx.out.mono ?_
            rintro e w1 ⟨rfl, hb1⟩
            have Hb1 := Lib.hid (Hb.out.trans (hb1.mono Hb.out.size))
            go_wp2_with fail
            go_roundw
            case rel => exact ⟨j + 1, by go_num, by omega, (by show _ = _; rw [Htk.out, List.all_append, Hall.out]; simp [HR.out]), Hb1⟩
            case measure => simp [intOf]; omega
          · rw [hRx] at hx
            have Hx := Lib.hid hx
            have HR : Hid (l.all (mayN kinds) = false) := by
              show _ = _
              rw [List.all_eq_false]
              exact ⟨_, Hmm.out, by rw [hRx]; simp⟩
            clear hx hg hjl hRx he
            go_wp2_with fail
            refine Hx.out.mono ?_
            rintro e w1 ⟨rfl, hb1⟩
            have Hb1 := Lib.hid (Hb.out.trans (hb1.mono Hb.out.size))
            go_wp2_with fail
            go_ret
            rw [HV.out, hR.out, HR.out]
            exact ⟨rfl, Hb1.out⟩
        · have HA : l.all (mayN kinds) = true := by
            have := Hall.out
            rw [List.take_of_length_le (by rw [Hl.out]; omega)] at this
            exact this
          have He := Lib.hid (he.out HA (by omega) wr Hb.out)
          rw [HA, Bool.true_and] at hR
          clear he HA Hall ho
          go_wp2_with fail
          refine He.out.mono ?_
          rintro e w2 ⟨⟨E, rfl, hE⟩, hb2⟩
          have Hb2 := Lib.hid (Hb.out.trans (hb2.mono Hb.out.size))
          rw [← hR.out] at hE
          clear hb2 He hR
          cases R
          · have hne : (E != (n : Int)) = true := by
              have : ¬ E = (n : Int) := fun h => by have := hE.1 h; cases this
              simpa using this
            clear hE
            go_wp2_with fail
            go_ret
            rw [HV.out]
            exact ⟨rfl, Hb2.out⟩
          · obtain rfl : E = (n : Int) := hE.2 rfl
            clear hE
            go_wp2_with fail
            go_ret
            rw [HV.out]
            exact ⟨rfl, Hb2.out⟩

/-! ### From the last node on -/
def pops (op : Int) : Nat → Int → List Int → Option (Int × List Int)
  | 0, a, st => some (a, st)
  | k + 1, a, x :: st => pops op k (joinT op a x) st
  | _ + 1, _, [] => none
def fo (r : RowM) : List Nd → Option (List Int)
  | [] => some []
  | n :: t => (fo r t).bind fun st => if n.asks then some (leafM n (colAt r n.col) :: st) else (pops n.op n.parts.toNat (firstT n.op) st).map fun p => p.1 :: p.2
theorem evs_pops {r : RowM} {g : List Nd → Option (Int × List Nd)} (hg : ∀ t x t' st', g t = some (x, t') → fo r t' = some st' → fo r t = some (x :: st')) (op : Int) :
    ∀ (k : Nat) (a : Int) (t : List Nd) (x : Int) (t' : List Nd) (st' : List Int), evs g op k a t = some (x, t') → fo r t' = some st' → ∃ st, fo r t = some st ∧ pops op k a st = some (x, st')
  | 0, a, t, x, t', st', h, hf => by
    rw [evs] at h
    cases h
    exact ⟨st', hf, rfl⟩
  | k + 1, a, t, x, t', st', h, hf => by
    rw [evs] at h
    split at h
    · cases h
    · rename_i y t1 hy
      obtain ⟨st1, h1, h2⟩ := evs_pops hg op k _ t1 x t' st' h hf
      exact ⟨y :: st1, hg _ _ _ _ hy h1, h2⟩
theorem ev_fo (r : RowM) : ∀ (f : Nat) (t : List Nd) (x : Int) (t' : List Nd) (st' : List Int), ev r f t = some (x, t') → fo r t' = some st' → fo r t = some (x :: st')
  | 0, t, x, t', st', h, _ => by rw [ev] at h; cases h
  | f + 1, [], x, t', st', h, _ => by rw [ev] at h; cases h
  | f + 1, n :: t, x, t', st', h, hf => by
    rw [ev] at h
    rw [fo]
    split at h
    · rename_i ha
      cases h
      rw [hf, Option.bind_some, if_pos ha]
    · rename_i ha
      obtain ⟨st, h1, h2⟩ := evs_pops (fun t x t' st' => ev_fo r f t x t' st') _ _ _ _ _ _ _ h hf
      rw [h1, Option.bind_some, if_neg ha, h2]
      rfl
theorem fo_drop (r : RowM) : ∀ (l : List Nd) (j : Nat), (fo r l).isSome = true → (fo r (l.drop j)).isSome = true
  | l, 0, h => h
  | [], j + 1, h => h
  | n :: t, j + 1, h => by
    rw [List.drop_succ_cons]
    refine fo_drop r t j ?_
    rw [fo] at h
    cases hf : fo r t with
    | none => rw [hf] at h; cases h
    | some st => rfl
theorem right_fo {kinds : List Int} {l : List Nd} {r : RowM} (hr : r.length = kinds.length) (h : rightN kinds l = true) : fo r l = some [evalM l r] := by
  have wl := right_whole h
  rw [← hr] at wl
  obtain ⟨x, hx⟩ := whole_ev r wl
  rw [evalM_of wl hx]
  exact ev_fo r _ _ _ _ _ hx rfl
end Go.Proofs.YtheafcfbahdcfaaDoor
