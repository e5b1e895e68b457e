/- A table of rows by their values in a column: what it holds, and what one row more makes of it. -/
import Derived.Test.YtghaffafglfdlaaJoT
namespace Go.Proofs.Ytghaffafglfdlaa
open Go.RowKit

/-- The rows of a table that have a value. -/
def selP (ps : List (Value × RowM)) (col : Int) (v : Va) : List (Value × RowM) := ps.filter fun p => decide (colAt p.2 col = v ∧ v.k ≠ 0)
theorem selP_snoc (ps : List (Value × RowM)) (col : Int) (v : Va) (p : Value × RowM) : selP (ps ++ [p]) col v = selP ps col v ++ (if colAt p.2 col = v ∧ v.k ≠ 0 then [p] else []) := by
  unfold selP
  rw [List.filter_append]
  congr 1
  by_cases h : colAt p.2 col = v ∧ v.k ≠ 0
  · rw [if_pos h]; simp [h]
  · rw [if_neg h]; simp only [List.filter_cons, decide_eq_true_eq]; rw [if_neg h]; rfl
theorem selP_le (ps : List (Value × RowM)) (col : Int) (v : Va) : (selP ps col v).length ≤ ps.length := List.length_filter_le ..

/-- The map at block mb is the table of the rows ps. -/
structure TabF (w : World) (B mb : Nat) (col : Int) (ps : List (Value × RowM)) (N : Nat) (F : Va → Value) : Prop where
  map : MapAt w mb N F
  le : N ≤ ps.length
  ge : B ≤ mb
  own : ∀ v : Va, v.ok → ∃ A c, F v = .slice A (selP ps col v).length c ∧ Own w B 28 1 A (selP ps col v).length c ((selP ps col v).map Prod.fst)
  far : ∀ (u v : Va) (k : Nat), u.ok → v.ok → (F u).ownBlock = some k → (F v).ownBlock = some k → u = v
def Tab (w : World) (B mb : Nat) (col : Int) (ps : List (Value × RowM)) : Prop := ∃ N F, TabF w B mb col ps N F

theorem Own.far {w w' : World} {base : Nat} {e : TypeId} {size : Nat} {A : Option Addr} {n c : Nat} {xs : List Value} {row : Option Nat} (h : Own w base e size A n c xs) (hg : w.grownBy w' row) (hne : ∀ k, (Value.slice A n c).ownBlock = some k → row ≠ some k) : Own w' base e size A n c xs := by
  refine ⟨h.1, ?_⟩
  rcases h.2 with hn | ⟨g, cap, cur, hv, hb, hh, rest⟩
  · exact .inl hn
  · refine .inr ⟨g, cap, cur, hv, hb, ?_, rest⟩
    rw [hg.block g (Array.getElem?_eq_some_iff.1 hh).1 (fun e => hne g (by rw [hv]; rfl) e.symm)]
    exact hh

namespace Tab
variable {w w' : World} {B mb : Nat} {col : Int} {ps : List (Value × RowM)}
theorem made (w : World) (col : Int) : Tab (w.alloc (.map #[] 0)) w.heap.size w.heap.size col [] :=
  ⟨0, _, MapAt.made w, Nat.le_refl _, Nat.le_refl _, fun v _ => ⟨none, 0, rfl, Own.nil _ _ _ _⟩, fun u v k _ _ h _ => by cases h⟩
theorem below (h : Tab w B mb col ps) (hb : Below w.heap.size w w') : Tab w' B mb col ps := by
  obtain ⟨N, F, h⟩ := h
  exact ⟨N, F, h.map.below hb, h.le, h.ge, fun v hv => by
    obtain ⟨A, c, h1, h2⟩ := h.own v hv
    exact ⟨A, c, h1, Own.below h2 hb⟩, h.far⟩
theorem keeps {T : List TypeId} {B' : Nat} (h : Tab w B mb col ps) (ht : 28 ∉ T) (hk : Keeps T B' w w') : Tab w' B mb col ps := by
  obtain ⟨N, F, h⟩ := h
  exact ⟨N, F, h.map.keeps hk, h.le, h.ge, fun v hv => by
    obtain ⟨A, c, h1, h2⟩ := h.own v hv
    exact ⟨A, c, h1, Own.keeps h2 ht hk⟩, h.far⟩
/-- A row whose value is nothing changes nothing. -/
theorem skip (h : Tab w B mb col ps) {x : RowM} (p : Value) (hk : (colAt x col).k = 0) : Tab w B mb col (ps ++ [(p, x)]) := by
  obtain ⟨N, F, h⟩ := h
  have hs : ∀ v, selP (ps ++ [(p, x)]) col v = selP ps col v := fun v => by
    rw [selP_snoc, if_neg, List.append_nil]
    rintro ⟨h1, h2⟩
    exact h2 (by rw [← h1]; exact hk)
  exact ⟨N, F, h.map, by rw [List.length_append]; have := h.le; omega, h.ge, fun v hv => by rw [hs v]; exact h.own v hv, h.far⟩
/-- One row more: its value's entry is read, its header laid behind, the entry stored anew. -/
theorem step (h : Tab w B mb col ps) (hd : Value) {x : RowM} {v : Va} (hx : colAt x col = v) (hv : v.ok) (hk : v.k ≠ 0) (hl : ps.length ≤ 1000000) :
    ∃ (A : Option Addr) (m c : Nat) (w3 : World) (st : Nat), m = (selP ps col v).length ∧
      (Instr.mapEntry 83 (.map (some mb)) v.agg).run Try.prog w = .ok (.tuple #[.slice A m c, .int .i64 (st : Int)]) w3 ∧ Own w3 B 28 1 A m c ((selP ps col v).map Prod.fst) ∧ Cel B w w3 ∧
      ∀ (A4 : Option Addr) (c4 : Nat) (w4 : World), Own w4 B 28 1 A4 (m + 1) c4 ((selP ps col v).map Prod.fst ++ [hd]) → w3.grownBy w4 (Value.slice A m c).ownBlock →
        ((Value.slice A4 (m + 1) c4).ownBlock = (Value.slice A m c).ownBlock ∨ (Value.slice A4 (m + 1) c4).ownBlock = some w3.heap.size) →
        ∃ w5, (Instr.entryStore 83 (.map (some mb)) (.int .i64 (st : Int)) (.slice A4 (m + 1) c4)).run Try.prog w4 = .ok () w5 ∧ Tab w5 B mb col (ps ++ [(hd, x)]) ∧ Cel B w4 w5 := by
  obtain ⟨N, F, h⟩ := h
  obtain ⟨w3, st, hrun, hcel, ⟨es, cl, hm3⟩, hst⟩ := h.map.entry h.ge (by have := h.le; unfold maxLen; omega) hv
  obtain ⟨A, c, hF, ho⟩ := h.own v hv
  rw [hF] at hrun
  refine ⟨A, _, c, w3, st, rfl, hrun, hcel.own ho, hcel, fun A4 c4 w4 ho4 hg4 hat4 => ?_⟩
  have hkeep := (hcel.own ho).apd_keeps hg4
  have hmb : w4.heap[mb]? = w3.heap[mb]? := hkeep.block mb (Array.getElem?_eq_some_iff.1 hm3).1 (.inr fun c t f e => by rw [hm3] at e; cases e)
  obtain ⟨w5, hs5, hmap5, hcel5⟩ := hst w4 (.slice A4 ((selP ps col v).length + 1) c4) hmb
  refine ⟨w5, hs5, ⟨N + 1, _, hmap5, by rw [List.length_append]; have := h.le; simp; omega, h.ge, fun u hu => ?_, fun u u' k hu hu' e e' => ?_⟩, hcel5⟩
  · by_cases huv : u = v
    · subst huv
      have hs : selP (ps ++ [(hd, x)]) col u = selP ps col u ++ [(hd, x)] := by rw [selP_snoc, if_pos ⟨hx, hk⟩]
      refine ⟨A4, c4, ?_, ?_⟩
      · rw [hs, List.length_append]
        exact if_pos rfl
      · rw [hs, List.length_append, List.map_append]
        exact hcel5.own ho4
    · have hs : selP (ps ++ [(hd, x)]) col u = selP ps col u := by
        rw [selP_snoc, if_neg, List.append_nil]
        rintro ⟨h1, _⟩
        exact huv (by rw [← h1]; exact hx)
      obtain ⟨A', c', hF', ho'⟩ := h.own u hu
      refine ⟨A', c', ?_, ?_⟩
      · rw [hs]
        exact (if_neg huv).trans hF'
      · rw [hs]
        refine hcel5.own (Own.far (hcel.own ho') hg4 fun k hk' e => huv (h.far u v k hu hv ?_ ?_))
        · rw [hF']; exact hk'
        · rw [hF]; exact e
  · have hlt : ∀ (z : Va) (q : Nat), z.ok → (F z).ownBlock = some q → q < w3.heap.size := fun z q hz hq => by
      obtain ⟨A', c', hF', ho'⟩ := h.own z hz
      rw [hF'] at hq
      exact ((hcel.own ho').lt q hq).2
    have hnew : ∀ (z : Va), z.ok → z ≠ v → (Value.slice A4 ((selP ps col v).length + 1) c4).ownBlock = some k → (F z).ownBlock = some k → False := fun z hz hzv e1 e2 => by
      rcases hat4 with h1 | h1
      · rw [h1] at e1
        exact hzv (h.far z v k hz hv e2 (by rw [hF]; exact e1))
      · rw [h1] at e1
        injection e1 with e1
        have := hlt z k hz e2
        omega
    by_cases h1 : u = v
    · by_cases h2 : u' = v
      · rw [h1, h2]
      · have e1 : upd F v (.slice A4 ((selP ps col v).length + 1) c4) u = .slice A4 ((selP ps col v).length + 1) c4 := if_pos h1
        have e2 : upd F v (.slice A4 ((selP ps col v).length + 1) c4) u' = F u' := if_neg h2
        rw [e1] at e
        rw [e2] at e'
        exact (hnew u' hu' h2 e e').elim
    · have e1 : upd F v (.slice A4 ((selP ps col v).length + 1) c4) u = F u := if_neg h1
      rw [e1] at e
      by_cases h2 : u' = v
      · have e2 : upd F v (.slice A4 ((selP ps col v).length + 1) c4) u' = .slice A4 ((selP ps col v).length + 1) c4 := if_pos h2
        rw [e2] at e'
        exact (hnew u hu h1 e' e).elim
      · have e2 : upd F v (.slice A4 ((selP ps col v).length + 1) c4) u' = F u' := if_neg h2
        rw [e2] at e'
        exact h.far u u' k hu hu' e e'
/-- What the table holds at a value. -/
theorem look (h : Tab w B mb col ps) {v : Va} (hv : v.ok) : ∃ A c, (Instr.lookup 83 (.map (some mb)) v.agg false).run Try.prog w = .ok (.slice A (selP ps col v).length c) w ∧ Own w B 28 1 A (selP ps col v).length c ((selP ps col v).map Prod.fst) := by
  obtain ⟨N, F, h⟩ := h
  obtain ⟨A, c, hF, ho⟩ := h.own v hv
  have := h.map.look hv
  rw [hF] at this
  exact ⟨A, c, this, ho⟩
theorem looks (h : Tab w B mb col ps) {v : Va} (hv : v.ok) : ∃ A c, Own w B 28 1 A (selP ps col v).length c ((selP ps col v).map Prod.fst) ∧ ∀ w', Below w.heap.size w w' → (Instr.lookup 83 (.map (some mb)) v.agg false).run Try.prog w' = .ok (.slice A (selP ps col v).length c) w' := by
  obtain ⟨N, F, h⟩ := h
  obtain ⟨A, c, hF, ho⟩ := h.own v hv
  refine ⟨A, c, ho, fun w' hb => ?_⟩
  have := (h.map.below hb).look hv
  rw [hF] at this
  exact this
end Tab
end Go.Proofs.Ytghaffafglfdlaa
