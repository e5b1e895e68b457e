/- What comes of nodes: plain laws. What may come of rows, by what is known of each column: plain data. (Printed by gen_mym.py.) What is known of values: plain data. -/
import Derived.Test.YtipnglidepfkbaaDoorMGrC
import Derived.Test.YtipnglidepfkbaaDoorMGrN
namespace Go.Proofs.YtipnglidepfkbaaDoor
set_option linter.unusedVariables false
set_option linter.unusedSimpArgs false

theorem asks_parts {n : Nd} (h : n.asks = true) : n.parts = 0 := by
  unfold Nd.asks at h
  have := of_decide_eq_true h
  unfold Nd.parts
  rw [if_neg (by omega), if_neg (by omega)]
theorem leafM_bounds (n : Nd) (v : Va) : 0 ≤ leafM n v ∧ leafM n v ≤ 2 := by
  unfold leafM truthV
  repeat' split
  all_goals omega
theorem joinT_bounds {op a x : Int} (ha : 0 ≤ a ∧ a ≤ 2) (hx : 0 ≤ x ∧ x ≤ 2) : 0 ≤ joinT op a x ∧ joinT op a x ≤ 2 := by
  unfold joinT
  split
  · exact andT_bounds (by omega) (by omega)
  · split
    · exact orT_bounds (by omega) (by omega)
    · exact notT_bounds (by omega)
theorem firstT_bounds (op : Int) : 0 ≤ firstT op ∧ firstT op ≤ 2 := by
  unfold firstT
  split <;> omega

theorem evs_bounds {g : List Nd → Option (Int × List Nd)} (hg : ∀ t x t', g t = some (x, t') → 0 ≤ x ∧ x ≤ 2) (op : Int) : ∀ (k : Nat) (a : Int) (t : List Nd) (x : Int) (t' : List Nd), 0 ≤ a ∧ a ≤ 2 → evs g op k a t = some (x, t') → 0 ≤ x ∧ x ≤ 2
  | 0, a, t, x, t', ha, h => by
    rw [evs] at h
    cases h
    exact ha
  | k + 1, a, t, x, t', ha, h => by
    rw [evs] at h
    split at h
    · cases h
    · rename_i y t1 hy
      exact evs_bounds hg op k _ t1 x t' (joinT_bounds ha (hg _ _ _ hy)) h
theorem ev_bounds (r : RowM) : ∀ (f : Nat) (t : List Nd) (x : Int) (t' : List Nd), ev r f t = some (x, t') → 0 ≤ x ∧ x ≤ 2
  | 0, t, x, t', h => by rw [ev] at h; cases h
  | f + 1, [], x, t', h => by rw [ev] at h; cases h
  | f + 1, n :: t, x, t', h => by
    rw [ev] at h
    split at h
    · cases h
      exact leafM_bounds _ _
    · exact evs_bounds (ev_bounds r f) _ _ _ _ _ _ (firstT_bounds _) h

theorem evs_suffix {g : List Nd → Option (Int × List Nd)} (hg : ∀ t x t', g t = some (x, t') → ∃ p, t = p ++ t') (op : Int) : ∀ (k : Nat) (a : Int) (t : List Nd) (x : Int) (t' : List Nd), evs g op k a t = some (x, t') → ∃ p, t = p ++ t'
  | 0, a, t, x, t', h => by
    rw [evs] at h
    cases h
    exact ⟨[], rfl⟩
  | k + 1, a, t, x, t', h => by
    rw [evs] at h
    split at h
    · cases h
    · rename_i y t1 hy
      obtain ⟨p1, e1⟩ := hg _ _ _ hy
      obtain ⟨p2, e2⟩ := evs_suffix hg op k _ t1 x t' h
      exact ⟨p1 ++ p2, by rw [List.append_assoc, ← e2]; exact e1⟩
theorem ev_suffix (r : RowM) : ∀ (f : Nat) (t : List Nd) (x : Int) (t' : List Nd), ev r f t = some (x, t') → ∃ p, t = p ++ t'
  | 0, t, x, t', h => by rw [ev] at h; cases h
  | f + 1, [], x, t', h => by rw [ev] at h; cases h
  | f + 1, n :: t, x, t', h => by
    rw [ev] at h
    split at h
    · cases h
      exact ⟨[n], rfl⟩
    · obtain ⟨p, e⟩ := evs_suffix (ev_suffix r f) _ _ _ _ _ _ h
      exact ⟨n :: p, by rw [List.cons_append, ← e]⟩

/-- Behind others nothing turns, nor with more depth. -/
theorem evs_more {g g' : List Nd → Option (Int × List Nd)} {m : List Nd} (hg : ∀ t x t', g t = some (x, t') → g' (t ++ m) = some (x, t' ++ m)) (op : Int) : ∀ (k : Nat) (a : Int) (t : List Nd) (x : Int) (t' : List Nd), evs g op k a t = some (x, t') → evs g' op k a (t ++ m) = some (x, t' ++ m)
  | 0, a, t, x, t', h => by
    rw [evs] at h ⊢
    cases h
    rfl
  | k + 1, a, t, x, t', h => by
    rw [evs] at h ⊢
    split at h
    · cases h
    · rename_i y t1 hy
      rw [hg _ _ _ hy]
      exact evs_more hg op k _ t1 x t' h
theorem ev_more (r : RowM) (m : List Nd) : ∀ (f f' : Nat) (t : List Nd) (x : Int) (t' : List Nd), f ≤ f' → ev r f t = some (x, t') → ev r f' (t ++ m) = some (x, t' ++ m)
  | 0, f', t, x, t', _, h => by rw [ev] at h; cases h
  | f + 1, f', [], x, t', _, h => by rw [ev] at h; cases h
  | f + 1, 0, n :: t, x, t', hf, h => by omega
  | f + 1, f' + 1, n :: t, x, t', hf, h => by
    rw [ev] at h
    rw [List.cons_append, ev]
    split at h
    · rename_i ha
      rw [if_pos ha]
      cases h
      rfl
    · rename_i ha
      rw [if_neg ha]
      exact evs_more (fun t x t' => ev_more r m f f' t x t' (by omega)) _ _ _ _ _ _ h

theorem evs_ends {g : List Nd → Option (Int × List Nd)} (N : Nat) (op : Int)
    (hg : ∀ (t : List Nd) (k : Nat), t.length ≤ N → (∀ n ∈ t, 0 ≤ n.parts) → ends ((k : Int) + 1) t = true → ∃ x t', g t = some (x, t') ∧ ends (k : Int) t' = true ∧ (∀ n ∈ t', n ∈ t) ∧ t'.length ≤ t.length) :
    ∀ (K : Nat) (a : Int) (t : List Nd) (k : Nat), t.length ≤ N → (∀ n ∈ t, 0 ≤ n.parts) → ends ((k : Int) + K) t = true → ∃ x t', evs g op K a t = some (x, t') ∧ ends (k : Int) t' = true ∧ (∀ n ∈ t', n ∈ t) ∧ t'.length ≤ t.length
  | 0, a, t, k, hl, hp, h => ⟨a, t, rfl, by rw [show (k : Int) + ((0 : Nat) : Int) = (k : Int) from by omega] at h; exact h, fun n hn => hn, Nat.le_refl _⟩
  | K + 1, a, t, k, hl, hp, h => by
    obtain ⟨y, t1, h1, h2, h3, h4⟩ := hg t (k + K) hl hp (by rw [show ((k + K : Nat) : Int) + 1 = (k : Int) + ((K + 1 : Nat) : Int) from by omega]; exact h)
    obtain ⟨x, t', e1, e2, e3, e4⟩ := evs_ends N op hg K (joinT op a y) t1 k (by omega) (fun n hn => hp n (h3 n hn)) (by rw [show (k : Int) + (K : Int) = ((k + K : Nat) : Int) from by omega]; exact h2)
    exact ⟨x, t', by rw [evs, h1]; exact e1, e2, fun n hn => h3 n (e3 n hn), by omega⟩
theorem ev_ends (r : RowM) : ∀ (f : Nat) (t : List Nd) (k : Nat), t.length ≤ f → (∀ n ∈ t, 0 ≤ n.parts) → ends ((k : Int) + 1) t = true → ∃ x t', ev r f t = some (x, t') ∧ ends (k : Int) t' = true ∧ (∀ n ∈ t', n ∈ t) ∧ t'.length ≤ t.length
  | f, [], k, hl, hp, h => by
    rw [ends] at h
    have := of_decide_eq_true h
    omega
  | 0, n :: t, k, hl, hp, h => by simp at hl
  | f + 1, n :: t, k, hl, hp, h => by
    rw [ends] at h
    have h := (Bool.and_eq_true_iff.1 h).2
    have hn := hp n (List.mem_cons_self ..)
    by_cases ha : n.asks = true
    · rw [asks_parts ha, show (k : Int) + 1 + (0 - 1) = (k : Int) from by omega] at h
      exact ⟨_, t, by rw [ev, if_pos ha], h, fun m hm => List.mem_cons_of_mem _ hm, by simp⟩
    · obtain ⟨x, t', e1, e2, e3, e4⟩ := evs_ends f n.op (fun t k => ev_ends r f t k) n.parts.toNat (firstT n.op) t k (by simp at hl; omega) (fun m hm => hp m (List.mem_cons_of_mem _ hm)) (by
        rw [show (k : Int) + ((n.parts.toNat : Nat) : Int) = (k : Int) + 1 + (n.parts - 1) from by omega]
        exact h)
      exact ⟨x, t', by rw [ev, if_neg ha]; exact e1, e2, fun m hm => List.mem_cons_of_mem _ (e3 m hm), by rw [List.length_cons]; omega⟩

theorem fine_parts0 {cols : Nat} {x : Nd} (h : fineN cols x = true) : 0 ≤ x.parts := by
  unfold fineN Nd.many at h
  unfold Nd.parts
  simp only [Bool.and_eq_true, Bool.not_eq_true', Bool.and_eq_false_iff, decide_eq_true_eq, decide_eq_false_iff_not] at h
  obtain ⟨⟨h1, h2⟩, h3⟩ := h
  split
  · rcases h3 with h3 | h3 <;> omega
  · split <;> omega
theorem whole_ev (r : RowM) {cols : Nat} {l : List Nd} (h : wholeN cols l = true) : ∃ x, ev r l.length l = some (x, []) := by
  unfold wholeN at h
  obtain ⟨h1, h2⟩ := Bool.and_eq_true_iff.1 h
  obtain ⟨_, h3⟩ := Bool.and_eq_true_iff.1 h1
  obtain ⟨x, t', e1, e2, _, _⟩ := ev_ends r l.length l 0 (Nat.le_refl _) (fun n hn => fine_parts0 (List.all_eq_true.1 h3 n hn)) (by rw [show ((0 : Nat) : Int) + 1 = 1 from rfl]; exact h2)
  refine ⟨x, ?_⟩
  cases t' with
  | nil => exact e1
  | cons n t =>
    rw [ends] at e2
    simp at e2
theorem evalM_of {l : List Nd} {r : RowM} {x : Int} (h : wholeN r.length l = true) (he : ev r l.length l = some (x, [])) : evalM l r = x := by
  unfold evalM
  rw [if_pos h, he]
  rfl
theorem evalM_bounds (l : List Nd) (r : RowM) : 0 ≤ evalM l r ∧ evalM l r ≤ 2 := by
  by_cases h : wholeN r.length l = true
  · obtain ⟨x, hx⟩ := whole_ev r h
    rw [evalM_of h hx]
    exact ev_bounds r _ _ _ _ hx
  · unfold evalM
    rw [if_neg h]
    omega

/-- What may be asked is whole. -/
theorem may_fine {kinds : List Int} {x : Nd} (h : mayN kinds x = true) : fineN kinds.length x = true := by
  have hop : 1 ≤ x.op ∧ x.op ≤ 8 := by
    unfold mayN at h
    repeat' split at h
    all_goals first | (cases h; done) | omega | skip
  unfold mayN at h
  unfold fineN Nd.many Nd.asks
  unfold Nd.asks at h
  simp only [Bool.and_eq_true, Bool.not_eq_true', Bool.and_eq_false_iff, decide_eq_true_eq, decide_eq_false_iff_not]
  split at h
  · cases h
  · split at h
    · cases h
    · rename_i h1 h2
      simp only [decide_eq_true_eq, decide_eq_false_iff_not] at h2
      refine ⟨⟨hop, ?_⟩, ?_⟩
      · by_cases ha : 5 ≤ x.op ∧ x.op ≤ 8
        · right
          intro hc
          exact h2 (.inr ⟨ha, hc⟩)
        · exact .inl ha
      · by_cases hm : x.op = 2 ∨ x.op = 3
        · right
          rw [if_neg (by omega), if_pos hm] at h
          have := of_decide_eq_true h
          omega
        · exact .inl hm
theorem right_whole {kinds : List Int} {l : List Nd} (h : rightN kinds l = true) : wholeN kinds.length l = true := by
  unfold rightN at h
  unfold wholeN
  obtain ⟨h1, h2⟩ := Bool.and_eq_true_iff.1 h
  obtain ⟨h3, h4⟩ := Bool.and_eq_true_iff.1 h1
  rw [h3, h2, Bool.and_true, Bool.true_and, List.all_eq_true]
  exact fun x hx => may_fine (List.all_eq_true.1 h4 x hx)

/-! ### Asked all together -/
def and2 : Nd := ⟨2, 0, 2, Va.nil⟩
theorem ends_append : ∀ (a b : List Nd) (k : Int), ends (k + 1) a = true → (∀ n ∈ a, 0 ≤ n.parts) → ∀ (k0 : Int), 0 ≤ k → 0 < k0 → ends (k + 1) a = true → ends (k + 1 + k0) (a ++ b) = ends k0 b
  | [], b, k, h, _, k0, hk, hk0, _ => by
    rw [ends] at h
    have := of_decide_eq_true h
    omega
  | n :: t, b, k, h, hp, k0, hk, hk0, _ => by
    rw [ends] at h
    have h2 := (Bool.and_eq_true_iff.1 h).2
    have hn := hp n (List.mem_cons_self ..)
    rw [List.cons_append, ends, decide_eq_true (by omega), Bool.true_and]
    by_cases hz : k + 1 + (n.parts - 1) = 0
    · rw [hz] at h2
      have ht : t = [] := by
        cases t with
        | nil => rfl
        | cons m t => rw [ends] at h2; simp at h2
      subst ht
      rw [show k + 1 + k0 + (n.parts - 1) = k0 from by omega, List.nil_append]
    · rw [show k + 1 + k0 + (n.parts - 1) = (k + n.parts - 1) + 1 + k0 from by omega]
      exact ends_append t b (k + n.parts - 1) (by rw [show k + n.parts - 1 + 1 = k + 1 + (n.parts - 1) from by omega]; exact h2) (fun m hm => hp m (List.mem_cons_of_mem _ hm)) k0 (by omega) hk0 (by rw [show k + n.parts - 1 + 1 = k + 1 + (n.parts - 1) from by omega]; exact h2)
theorem may_parts0 {kinds : List Int} {x : Nd} (h : mayN kinds x = true) : 0 ≤ x.parts := fine_parts0 (may_fine h)
theorem right_all {kinds : List Int} {a b : List Nd} (ha : rightN kinds a = true) (hb : rightN kinds b = true) (hl : (and2 :: (a ++ b)).length ≤ 40) : rightN kinds (and2 :: (a ++ b)) = true := by
  unfold rightN at ha hb ⊢
  obtain ⟨a1, a2⟩ := Bool.and_eq_true_iff.1 ha
  obtain ⟨a3, a4⟩ := Bool.and_eq_true_iff.1 a1
  obtain ⟨b1, b2⟩ := Bool.and_eq_true_iff.1 hb
  obtain ⟨b3, b4⟩ := Bool.and_eq_true_iff.1 b1
  have hm : mayN kinds and2 = true := by
    unfold mayN
    rfl
  rw [decide_eq_true ⟨by simp, hl⟩, List.all_cons, List.all_append, hm, a4, b4, ends]
  show (true && (true && (true && true)) && (decide ((0 : Int) < 1) && ends (1 + ((2 : Int) - 1)) (a ++ b))) = true
  have := ends_append a b 0 (by rw [Int.zero_add]; exact a2) (fun n hn => may_parts0 (List.all_eq_true.1 a4 n hn)) 1 (by omega) (by omega) (by rw [Int.zero_add]; exact a2)
  rw [show (1 : Int) + (2 - 1) = 0 + 1 + 1 from rfl, this, b2]
  rfl
theorem eval_all {kinds : List Int} {a b : List Nd} {r : RowM} (hr : r.length = kinds.length) (ha : rightN kinds a = true) (hb : rightN kinds b = true) (hl : (and2 :: (a ++ b)).length ≤ 40) : evalM (and2 :: (a ++ b)) r = andT (evalM a r) (evalM b r) := by
  have wa := right_whole ha
  have wb := right_whole hb
  have wc := right_whole (right_all ha hb hl)
  rw [← hr] at wa wb wc
  obtain ⟨x, hx⟩ := whole_ev r wa
  obtain ⟨y, hy⟩ := whole_ev r wb
  rw [evalM_of wa hx, evalM_of wb hy]
  have bx := ev_bounds r _ _ _ _ hx
  have hx2 := ev_more r b a.length (a ++ b).length a x [] (by rw [List.length_append]; omega) hx
  have hy2 := ev_more r [] b.length (a ++ b).length b y [] (by rw [List.length_append]; omega) hy
  rw [List.append_nil] at hy2
  rw [List.nil_append] at hx2
  refine evalM_of wc ?_
  rw [List.length_cons, ev]
  have hna : ¬ and2.asks = true := by decide
  rw [if_neg hna]
  show evs (ev r (a ++ b).length) 2 2 2 (a ++ b) = _
  rw [evs, hx2]
  show evs (ev r (a ++ b).length) 2 1 (joinT 2 2 x) b = _
  rw [evs, hy2]
  show some (joinT 2 (joinT 2 2 x) y, _) = _
  have e1 : joinT 2 2 x = x := by
    unfold joinT andT known
    rw [if_pos rfl]
    rw [if_neg (by omega), if_neg (by omega)]
    omega
  rw [e1]
  rfl
end Go.Proofs.YtipnglidepfkbaaDoor
namespace Go.Proofs.YtipnglidepfkbaaDoor
set_option linter.unusedVariables false
set_option linter.unusedSimpArgs false
open Go.RowKit

/-- What is known of a column. -/
structure Zo where
  least : Va
  most : Va
  nulls : Int
  many : Int
deriving DecidableEq
namespace Zo
def cells (z : Zo) : List Value := [.int .u8 z.least.k, .int .i64 z.least.n, .string (St8 z.least.s), .int .u8 z.most.k, .int .i64 z.most.n, .string (St8 z.most.s), .int .i64 z.nulls, .int .i64 z.many]
def agg (z : Zo) : Value := .agg #[.int .u8 z.least.k, .int .i64 z.least.n, .string (St8 z.least.s), .int .u8 z.most.k, .int .i64 z.most.n, .string (St8 z.most.s), .int .i64 z.nulls, .int .i64 z.many]
def nil : Zo := ⟨Va.nil, Va.nil, 0, 0⟩
end Zo
def zcells (l : List Zo) : List Value := l.flatMap Zo.cells
theorem zcells_len : ∀ l : List Zo, (zcells l).length = l.length * 8
  | [] => rfl
  | z :: l => by
    have := zcells_len l
    unfold zcells at *
    rw [List.flatMap_cons, List.length_append, this, List.length_cons]
    show 8 + _ = _
    omega
theorem zcells_append (l m : List Zo) : zcells (l ++ m) = zcells l ++ zcells m := List.flatMap_append
/-- Which truths may come. -/
structure T3 where
  no : Bool
  un : Bool
  ye : Bool
deriving DecidableEq
namespace T3
def cells (t : T3) : List Value := [.bool t.no, .bool t.un, .bool t.ye]
def agg (t : T3) : Value := .agg #[.bool t.no, .bool t.un, .bool t.ye]
def rev (t : T3) : T3 := ⟨t.ye, t.un, t.no⟩
def get (t : T3) : Nat → Bool
  | 0 => t.no
  | 1 => t.un
  | _ => t.ye
def set_ (t : T3) : Nat → T3
  | 0 => ⟨true, t.un, t.ye⟩
  | 1 => ⟨t.no, true, t.ye⟩
  | _ => ⟨t.no, t.un, true⟩
end T3
def accT (or : Bool) (a b : T3) : Nat → T3
  | 0 => ⟨false, false, false⟩
  | k + 1 => if (a.get (k / 3) && b.get (k % 3)) = true then (accT or a b k).set_ (if or = true then max (k / 3) (k % 3) else min (k / 3) (k % 3)) else accT or a b k
def bothZ (or : Bool) (a b : T3) : T3 := accT or a b 9

def mayF (z : Zo) (v : Va) (no ye : Bool) : T3 := ⟨decide (z.nulls < z.many ∧ v.k ≠ 0) && no, decide (0 < z.nulls) || decide (v.k = 0 ∧ 0 < z.many), decide (z.nulls < z.many ∧ v.k ≠ 0) && ye⟩
def equalZ (z : Zo) (v : Va) : T3 := mayF z v (decide (v ≠ z.least ∨ v ≠ z.most)) (decide (0 ≤ cmpVa v z.least ∧ cmpVa v z.most ≤ 0))
def lessZ (z : Zo) (v : Va) : T3 := mayF z v (decide (0 ≤ cmpVa z.most v)) (decide (cmpVa z.least v < 0))
def nullZ (z : Zo) : T3 := ⟨decide (z.nulls < z.many), false, decide (0 < z.nulls)⟩
/-- What texts that are like a pattern begin with. -/
def fixF : List Pt → List UInt8
  | [] => []
  | p :: l => if p.kind = 0 then p.letter ++ fixF l else []
def fixedM (p : List UInt8) : List UInt8 := fixF (partsM p).1
def alikeZ (z : Zo) (p : List UInt8) : T3 :=
  ⟨decide (z.nulls < z.many) && decide (p ≠ [37]), decide (0 < z.nulls), decide (z.nulls < z.many) && (!Op.bytesLess z.most.s (fixedM p) && (!Op.bytesLess (fixedM p) z.least.s || decide (fixedM p <+: z.least.s)))⟩
def knownZ (n : Nd) (z : Zo) : T3 :=
  if n.op = 5 then equalZ z n.v else if n.op = 6 then lessZ z n.v else if n.op = 8 then nullZ z else alikeZ z n.v.s
def zAt (l : List Zo) (c : Int) : Zo := if c < 0 then Zo.nil else l.getD c.toNat Zo.nil
def joinZ (op : Int) (a : Bool × T3) (x : T3) : Bool × T3 := (false, if op = 4 then x.rev else if a.1 = true then x else bothZ (decide (op = 3)) a.2 x)
def firstZ (_ : Int) : Bool × T3 := (true, ⟨false, false, true⟩)
def evsT (g : List Nd → Option (T3 × List Nd)) (op : Int) : Nat → Bool × T3 → List Nd → Option (T3 × List Nd)
  | 0, a, t => some (a.2, t)
  | k + 1, a, t => match g t with
    | none => none
    | some (x, t1) => evsT g op k (joinZ op a x) t1
def evT (z : List Zo) : Nat → List Nd → Option (T3 × List Nd)
  | 0, _ => none
  | _ + 1, [] => none
  | f + 1, n :: t => if n.asks then some (knownZ n (zAt z n.col), t) else evsT (evT z f) n.op n.parts.toNat (firstZ n.op) t
def mayM (l : List Nd) (z : List Zo) : T3 := if wholeN z.length l = true then ((evT z l.length l).map Prod.fst).getD ⟨true, true, true⟩ else ⟨true, true, true⟩
def popsT (op : Int) : Nat → Bool × T3 → List T3 → Option (T3 × List T3)
  | 0, a, st => some (a.2, st)
  | k + 1, a, x :: st => popsT op k (joinZ op a x) st
  | _ + 1, _, [] => none
def foT (z : List Zo) : List Nd → Option (List T3)
  | [] => some []
  | n :: t => (foT z t).bind fun st => if n.asks then some (knownZ n (zAt z n.col) :: st) else (popsT n.op n.parts.toNat (firstZ n.op) st).map fun p => p.1 :: p.2
theorem evsT_suffix {g : List Nd → Option (T3 × List Nd)} (hg : ∀ t x t', g t = some (x, t') → ∃ p, t = p ++ t') (op : Int) : ∀ (k : Nat) (a : Bool × T3) (t : List Nd) (x : T3) (t' : List Nd), evsT g op k a t = some (x, t') → ∃ p, t = p ++ t'
  | 0, a, t, x, t', h => by
    rw [evsT] at h
    cases h
    exact ⟨[], rfl⟩
  | k + 1, a, t, x, t', h => by
    rw [evsT] at h
    split at h
    · cases h
    · rename_i y t1 hy
      obtain ⟨p1, e1⟩ := hg _ _ _ hy
      obtain ⟨p2, e2⟩ := evsT_suffix hg op k _ t1 x t' h
      exact ⟨p1 ++ p2, by rw [List.append_assoc, ← e2]; exact e1⟩
theorem evT_suffix (z : List Zo) : ∀ (f : Nat) (t : List Nd) (x : T3) (t' : List Nd), evT z f t = some (x, t') → ∃ p, t = p ++ t'
  | 0, t, x, t', h => by rw [evT] at h; cases h
  | f + 1, [], x, t', h => by rw [evT] at h; cases h
  | f + 1, n :: t, x, t', h => by
    rw [evT] at h
    split at h
    · cases h
      exact ⟨[n], rfl⟩
    · obtain ⟨p, e⟩ := evsT_suffix (evT_suffix z f) _ _ _ _ _ _ h
      exact ⟨n :: p, by rw [List.cons_append, ← e]⟩
theorem evsT_ends {g : List Nd → Option (T3 × List Nd)} (N : Nat) (op : Int)
    (hg : ∀ (t : List Nd) (k : Nat), t.length ≤ N → (∀ n ∈ t, 0 ≤ n.parts) → ends ((k : Int) + 1) t = true → ∃ x t', g t = some (x, t') ∧ ends (k : Int) t' = true ∧ (∀ n ∈ t', n ∈ t) ∧ t'.length ≤ t.length) :
    ∀ (K : Nat) (a : Bool × T3) (t : List Nd) (k : Nat), t.length ≤ N → (∀ n ∈ t, 0 ≤ n.parts) → ends ((k : Int) + K) t = true → ∃ x t', evsT g op K a t = some (x, t') ∧ ends (k : Int) t' = true ∧ (∀ n ∈ t', n ∈ t) ∧ t'.length ≤ t.length
  | 0, a, t, k, hl, hp, h => ⟨a.2, t, rfl, by rw [show (k : Int) + ((0 : Nat) : Int) = (k : Int) from by omega] at h; exact h, fun n hn => hn, Nat.le_refl _⟩
  | K + 1, a, t, k, hl, hp, h => by
    obtain ⟨y, t1, h1, h2, h3, h4⟩ := hg t (k + K) hl hp (by rw [show ((k + K : Nat) : Int) + 1 = (k : Int) + ((K + 1 : Nat) : Int) from by omega]; exact h)
    obtain ⟨x, t', e1, e2, e3, e4⟩ := evsT_ends N op hg K (joinZ op a y) t1 k (by omega) (fun n hn => hp n (h3 n hn)) (by rw [show (k : Int) + (K : Int) = ((k + K : Nat) : Int) from by omega]; exact h2)
    exact ⟨x, t', by rw [evsT, h1]; exact e1, e2, fun n hn => h3 n (e3 n hn), by omega⟩
theorem evT_ends (z : List Zo) : ∀ (f : Nat) (t : List Nd) (k : Nat), t.length ≤ f → (∀ n ∈ t, 0 ≤ n.parts) → ends ((k : Int) + 1) t = true → ∃ x t', evT z f t = some (x, t') ∧ ends (k : Int) t' = true ∧ (∀ n ∈ t', n ∈ t) ∧ t'.length ≤ t.length
  | f, [], k, hl, hp, h => by
    rw [ends] at h
    have := of_decide_eq_true h
    omega
  | 0, n :: t, k, hl, hp, h => by simp at hl
  | f + 1, n :: t, k, hl, hp, h => by
    rw [ends] at h
    have h := (Bool.and_eq_true_iff.1 h).2
    have hn := hp n (List.mem_cons_self ..)
    by_cases ha : n.asks = true
    · rw [asks_parts ha, show (k : Int) + 1 + (0 - 1) = (k : Int) from by omega] at h
      exact ⟨_, t, by rw [evT, if_pos ha], h, fun m hm => List.mem_cons_of_mem _ hm, by simp⟩
    · obtain ⟨x, t', e1, e2, e3, e4⟩ := evsT_ends f n.op (fun t k => evT_ends z f t k) n.parts.toNat (firstZ n.op) t k (by simp at hl; omega) (fun m hm => hp m (List.mem_cons_of_mem _ hm)) (by
        rw [show (k : Int) + ((n.parts.toNat : Nat) : Int) = (k : Int) + 1 + (n.parts - 1) from by omega]
        exact h)
      exact ⟨x, t', by rw [evT, if_neg ha]; exact e1, e2, fun m hm => List.mem_cons_of_mem _ (e3 m hm), by rw [List.length_cons]; omega⟩

theorem whole_evT (z : List Zo) {cols : Nat} {l : List Nd} (h : wholeN cols l = true) : ∃ x, evT z l.length l = some (x, []) := by
  unfold wholeN at h
  obtain ⟨h1, h2⟩ := Bool.and_eq_true_iff.1 h
  obtain ⟨_, h3⟩ := Bool.and_eq_true_iff.1 h1
  obtain ⟨x, t', e1, e2, _, _⟩ := evT_ends z l.length l 0 (Nat.le_refl _) (fun n hn => fine_parts0 (List.all_eq_true.1 h3 n hn)) (by rw [show ((0 : Nat) : Int) + 1 = 1 from rfl]; exact h2)
  refine ⟨x, ?_⟩
  cases t' with
  | nil => exact e1
  | cons n t =>
    rw [ends] at e2
    simp at e2
theorem evsT_pops {z : List Zo} {g : List Nd → Option (T3 × List Nd)} (hg : ∀ t x t' st', g t = some (x, t') → foT z t' = some st' → foT z t = some (x :: st')) (op : Int) :
    ∀ (k : Nat) (a : Bool × T3) (t : List Nd) (x : T3) (t' : List Nd) (st' : List T3), evsT g op k a t = some (x, t') → foT z t' = some st' → ∃ st, foT z t = some st ∧ popsT op k a st = some (x, st')
  | 0, a, t, x, t', st', h, hf => by
    rw [evsT] at h
    cases h
    exact ⟨st', hf, rfl⟩
  | k + 1, a, t, x, t', st', h, hf => by
    rw [evsT] at h
    split at h
    · cases h
    · rename_i y t1 hy
      obtain ⟨st1, h1, h2⟩ := evsT_pops hg op k _ t1 x t' st' h hf
      exact ⟨y :: st1, hg _ _ _ _ hy h1, h2⟩
theorem evT_foT (z : List Zo) : ∀ (f : Nat) (t : List Nd) (x : T3) (t' : List Nd) (st' : List T3), evT z f t = some (x, t') → foT z t' = some st' → foT z t = some (x :: st')
  | 0, t, x, t', st', h, _ => by rw [evT] at h; cases h
  | f + 1, [], x, t', st', h, _ => by rw [evT] at h; cases h
  | f + 1, n :: t, x, t', st', h, hf => by
    rw [evT] at h
    rw [foT]
    split at h
    · rename_i ha
      cases h
      rw [hf, Option.bind_some, if_pos ha]
    · rename_i ha
      obtain ⟨st, h1, h2⟩ := evsT_pops (fun t x t' st' => evT_foT z f t x t' st') _ _ _ _ _ _ _ h hf
      rw [h1, Option.bind_some, if_neg ha, h2]
      rfl
theorem foT_drop (z : List Zo) : ∀ (l : List Nd) (j : Nat), (foT z l).isSome = true → (foT z (l.drop j)).isSome = true
  | l, 0, h => h
  | [], j + 1, h => h
  | n :: t, j + 1, h => by
    rw [List.drop_succ_cons]
    refine foT_drop z t j ?_
    rw [foT] at h
    cases hf : foT z t with
    | none => rw [hf] at h; cases h
    | some st => rfl
theorem mayM_of {l : List Nd} {z : List Zo} {x : T3} (h : wholeN z.length l = true) (he : evT z l.length l = some (x, [])) : mayM l z = x := by
  unfold mayM
  rw [if_pos h, he]
  rfl
theorem right_foT {kinds : List Int} {l : List Nd} {z : List Zo} (hr : z.length = kinds.length) (h : rightN kinds l = true) : foT z l = some [mayM l z] := by
  have wl := right_whole h
  rw [← hr] at wl
  obtain ⟨x, hx⟩ := whole_evT z wl
  rw [mayM_of wl hx]
  exact evT_foT z _ _ _ _ _ hx rfl
end Go.Proofs.YtipnglidepfkbaaDoor
namespace Go.Proofs.YtipnglidepfkbaaDoor
set_option linter.unusedVariables false
set_option linter.unusedSimpArgs false
open Go.RowKit

def oneZ (v : Va) : Zo := if v.k = 0 then ⟨Va.nil, Va.nil, 1, 1⟩ else ⟨v, v, 0, 1⟩
def chooseV (a b : Va) (way : Int) : Va := if a.k = 0 ∧ b.k = 0 then Va.nil else if a.k = 0 then b else if b.k = 0 ∨ cmpVa a b = way then a else b
def mergeZ (a b : Zo) : Zo := ⟨chooseV a.least b.least (-1), chooseV a.most b.most 1, a.nulls + b.nulls, a.many + b.many⟩
def ofF (z : Zo) : List Va → Zo
  | [] => z
  | v :: l => ofF (mergeZ z (oneZ v)) l
def ofZ (l : List Va) : Zo := ofF Zo.nil l
theorem ofF_append : ∀ (l m : List Va) (z : Zo), ofF z (l ++ m) = ofF (ofF z l) m
  | [], _, _ => rfl
  | v :: l, m, z => by
    rw [List.cons_append, ofF, ofF]
    exact ofF_append l m _
theorem ofZ_snoc (l : List Va) (v : Va) : ofZ (l ++ [v]) = mergeZ (ofZ l) (oneZ v) := by
  unfold ofZ
  rw [ofF_append]
  rfl
theorem oneZ_many (v : Va) : (oneZ v).many = 1 := by unfold oneZ; split <;> rfl
theorem oneZ_nulls (v : Va) : (oneZ v).nulls = 0 ∨ (oneZ v).nulls = 1 := by
  unfold oneZ
  split
  · exact .inr rfl
  · exact .inl rfl
theorem ofF_many : ∀ (l : List Va) (z : Zo), (ofF z l).many = z.many + (l.length : Int)
  | [], z => by rw [ofF]; simp
  | v :: l, z => by
    rw [ofF, ofF_many l, List.length_cons]
    show z.many + (oneZ v).many + _ = _
    rw [oneZ_many]
    omega
theorem ofF_nulls : ∀ (l : List Va) (z : Zo), z.nulls ≤ (ofF z l).nulls ∧ (ofF z l).nulls ≤ z.nulls + (l.length : Int)
  | [], z => by rw [ofF]; simp
  | v :: l, z => by
    rw [ofF, List.length_cons]
    have h := ofF_nulls l (mergeZ z (oneZ v))
    have h2 : (mergeZ z (oneZ v)).nulls = z.nulls + (oneZ v).nulls := rfl
    have h3 := oneZ_nulls v
    omega
theorem ofZ_many (l : List Va) : (ofZ l).many = (l.length : Int) := by
  unfold ofZ
  rw [ofF_many]
  show 0 + _ = _
  omega
theorem ofZ_nulls (l : List Va) : 0 ≤ (ofZ l).nulls ∧ (ofZ l).nulls ≤ (l.length : Int) := by
  have h := ofF_nulls l Zo.nil
  have h2 : Zo.nil.nulls = 0 := rfl
  unfold ofZ
  omega
/-- The values of what is known of others are of these, or nothing. -/
theorem chooseV_mem (a b : Va) (way : Int) : chooseV a b way = Va.nil ∨ chooseV a b way = a ∨ chooseV a b way = b := by
  unfold chooseV
  split
  · exact .inl rfl
  · split
    · exact .inr (.inr rfl)
    · split
      · exact .inr (.inl rfl)
      · exact .inr (.inr rfl)
theorem oneZ_all {p : Va → Prop} (h0 : p Va.nil) {v : Va} (hv : p v) : p (oneZ v).least ∧ p (oneZ v).most := by
  unfold oneZ
  split
  · exact ⟨h0, h0⟩
  · exact ⟨hv, hv⟩
theorem mergeZ_all {p : Va → Prop} (h0 : p Va.nil) {a b : Zo} (ha : p a.least ∧ p a.most) (hb : p b.least ∧ p b.most) : p (mergeZ a b).least ∧ p (mergeZ a b).most := by
  constructor
  · show p (chooseV _ _ _)
    rcases chooseV_mem a.least b.least (-1) with h | h | h <;> rw [h]
    · exact h0
    · exact ha.1
    · exact hb.1
  · show p (chooseV _ _ _)
    rcases chooseV_mem a.most b.most 1 with h | h | h <;> rw [h]
    · exact h0
    · exact ha.2
    · exact hb.2
theorem ofF_all {p : Va → Prop} (h0 : p Va.nil) : ∀ (l : List Va) (z : Zo), p z.least ∧ p z.most → (∀ v ∈ l, p v) → p (ofF z l).least ∧ p (ofF z l).most
  | [], _, hz, _ => hz
  | v :: l, z, hz, h => by
    rw [ofF]
    exact ofF_all h0 l _ (mergeZ_all h0 hz (oneZ_all h0 (h v (List.mem_cons_self ..)))) (fun x hx => h x (List.mem_cons_of_mem _ hx))
theorem ofZ_all {p : Va → Prop} (h0 : p Va.nil) (l : List Va) (h : ∀ v ∈ l, p v) : p (ofZ l).least ∧ p (ofZ l).most := ofF_all h0 l Zo.nil ⟨h0, h0⟩ h
end Go.Proofs.YtipnglidepfkbaaDoor
