/- How a store of package pages lies in memory, and what each write does to it. -/
import Derived.Test.YtjjmnjgkodiibaaPagM
namespace Go.Proofs.Ytjjmnjgkodiibaa
open Go.RowKit

/-- A page's slot. -/
def ptrV (q : Option Nat) : Value := .pointer (q.map fun g => ⟨g, 0, none⟩)

/-- The pointer at a number. -/
def ptrAt (qs : List (Option Nat)) (i : Int) : Option Nat := if 0 ≤ i then (qs[i.toNat]?).join else none

theorem ptrAt_out {qs : List (Option Nat)} {i : Int} (h : i < 0 ∨ (qs.length : Int) ≤ i) : ptrAt qs i = none := by
  unfold ptrAt
  split
  · rw [List.getElem?_eq_none (by omega)]
    rfl
  · rfl
theorem ptrAt_in {qs : List (Option Nat)} {k : Nat} (_h : k < qs.length) : ptrAt qs (k : Int) = qs.getD k none := by
  unfold ptrAt
  rw [if_pos (by omega), Int.toNat_natCast, List.getD]
  cases qs[k]? <;> rfl

/-- The blocks of a store: its struct, its row of pointers, its pages. -/
abbrev StT : List TypeId := [81, 94, 115]

/-- The store at block bs, its pointers at block bp; from block B on; u is what it counts as used. -/
structure StoAt (w : World) (B bs bp : Nat) (qs : List (Option Nat)) (s : Pg.St) (u : Int) : Prop where
  hs : B ≤ bs
  hp : B ≤ bp
  st : Blk w bs 81 [.slice (some ⟨bp, 0, none⟩) s.length s.length, .int .i64 u]
  row : Blk w bp 94 (qs.map ptrV)
  len : qs.length = s.length
  most : s.length ≤ 4096
  some_ : ∀ (i : Nat) (l : List UInt8), s[i]? = some (some l) → ∃ g, qs[i]? = some (some g) ∧ B ≤ g ∧ Blk w g 115 (Bs l) ∧ l.length = 64
  none_ : ∀ (i : Nat), s[i]? = some none → qs[i]? = some none
  inj : ∀ (i j g : Nat), qs[i]? = some (some g) → qs[j]? = some (some g) → i = j

namespace StoAt
variable {w w' : World} {B bs bp : Nat} {qs : List (Option Nat)} {s : Pg.St} {u : Int}

theorem keep (h : StoAt w B bs bp qs s u) (hb : ∀ (k : Nat) (o : Obj), w.heap[k]? = some o → w'.heap[k]? = some o) : StoAt w' B bs bp qs s u := by
  have hk : ∀ g t xs, Blk w g t xs → Blk w' g t xs := fun g t xs hh => hb _ _ hh
  refine ⟨h.hs, h.hp, hk _ _ _ h.st, hk _ _ _ h.row, h.len, h.most, fun i l hi => ?_, h.none_, h.inj⟩
  obtain ⟨g, h1, h2, h3, h4⟩ := h.some_ i l hi
  exact ⟨g, h1, h2, hk _ _ _ h3, h4⟩

theorem below (h : StoAt w B bs bp qs s u) (hb : Below w.heap.size w w') : StoAt w' B bs bp qs s u :=
  h.keep fun k o e => by rw [hb.block k (Array.getElem?_eq_some_iff.1 e).1, e]

theorem keeps {T : List TypeId} {B' : Nat} (h : StoAt w B bs bp qs s u) (hk : Keeps T B' w w') (hT : ∀ t ∈ StT, t ∉ T) : StoAt w' B bs bp qs s u := by
  refine ⟨h.hs, h.hp, h.st.keeps (hT _ (by simp)) hk, h.row.keeps (hT _ (by simp)) hk, h.len, h.most, fun i l hi => ?_, h.none_, h.inj⟩
  obtain ⟨g, h1, h2, h3, h4⟩ := h.some_ i l hi
  exact ⟨g, h1, h2, h3.keeps (hT _ (by simp)) hk, h4⟩

theorem drewN (h : StoAt w B bs bp qs s u) (n : Nat) : StoAt (w.drewN n) B bs bp qs s u := h.keep fun _ _ e => e

theorem cell_ptr (h : StoAt w B bs bp qs s u) {i : Nat} (hi : i < s.length) : w.cell? ⟨bp, i, none⟩ = some (ptrV (qs.getD i none)) := by
  have hl := h.len
  rw [h.row.cell, List.getElem?_map, List.getElem?_eq_getElem (by omega)]
  simp [List.getD, List.getElem?_eq_getElem (show i < qs.length by omega)]

theorem ptr_none (h : StoAt w B bs bp qs s u) {i : Int} (hi : Pg.at_ s i = none) : ptrAt qs i = none := by
  have hl := h.len
  by_cases h0 : 0 ≤ i
  · by_cases h1 : i.toNat < s.length
    · have := h.none_ _ (Pg.at_none hi h0 h1)
      unfold ptrAt
      rw [if_pos h0, this]
      rfl
    · exact ptrAt_out (.inr (by omega))
  · exact ptrAt_out (.inl (by omega))
theorem ptr_some (h : StoAt w B bs bp qs s u) {i : Int} {l : List UInt8} (hi : Pg.at_ s i = some l) :
    ∃ k g, i = (k : Nat) ∧ k < s.length ∧ s[k]? = some (some l) ∧ qs[k]? = some (some g) ∧ ptrAt qs i = some g ∧ B ≤ g ∧ Blk w g 115 (Bs l) ∧ l.length = 64 := by
  obtain ⟨h0, h1, h2⟩ := Pg.at_some hi
  obtain ⟨g, q, b, k, hl⟩ := h.some_ _ _ h2
  refine ⟨i.toNat, g, by omega, h1, h2, q, ?_, b, k, hl⟩
  unfold ptrAt
  rw [if_pos h0, q]
  rfl

theorem ne1 (h : StoAt w B bs bp qs s u) : bs ≠ bp := h.st.ne_of_type h.row (by decide)

/-- A page is laid into a slot. -/
theorem put (h : StoAt w B bs bp qs s u) {i g : Nat} {l : List UInt8} (hi : i < s.length) (hg : B ≤ g) (hk : Blk w g 115 (Bs l)) (hl : l.length = 64) (hn : ∀ j : Nat, qs[j]? ≠ some (some g)) :
    StoAt (w.setCell ⟨bp, i, none⟩ (ptrV (some g))) B bs bp (qs.set i (some g)) (s.set i (some l)) u := by
  have hlen := h.len
  refine ⟨h.hs, h.hp, ?_, ?_, by simpa using hlen, by simpa using h.most, fun j m hj => ?_, fun j hj => ?_, fun j k g' hj hk' => ?_⟩
  · have := h.st.far (p := ⟨bp, i, none⟩) h.ne1 (ptrV (some g))
    simpa using this
  · rw [List.map_set]
    exact h.row.set_ i _
  · rw [List.getElem?_set] at hj
    by_cases e : i = j
    · subst e
      rw [if_pos rfl, if_pos hi] at hj
      injection hj with hj
      injection hj with hj
      subst hj
      exact ⟨g, by rw [List.getElem?_set_self (by omega)], hg, hk.far (p := ⟨bp, i, none⟩) (hk.ne_of_type h.row (by decide)) _, hl⟩
    · rw [if_neg e] at hj
      obtain ⟨g', h1, h2, h3, h4⟩ := h.some_ j m hj
      exact ⟨g', by rw [List.getElem?_set_ne e, h1], h2, h3.far (p := ⟨bp, i, none⟩) (h3.ne_of_type h.row (by decide)) _, h4⟩
  · rw [List.getElem?_set] at hj
    by_cases e : i = j
    · subst e
      rw [if_pos rfl, if_pos hi] at hj
      cases hj
    · rw [if_neg e] at hj
      rw [List.getElem?_set_ne e]
      exact h.none_ j hj
  · rw [List.getElem?_set] at hj hk'
    by_cases e : i = j <;> by_cases e' : i = k
    · omega
    · rw [if_pos e, if_pos (by omega)] at hj
      rw [if_neg e'] at hk'
      injection hj with hj
      injection hj with hj
      subst hj
      exact absurd hk' (hn k)
    · rw [if_neg e] at hj
      rw [if_pos e', if_pos (by omega)] at hk'
      injection hk' with hk'
      injection hk' with hk'
      subst hk'
      exact absurd hj (hn j)
    · rw [if_neg e] at hj
      rw [if_neg e'] at hk'
      exact h.inj j k g' hj hk'

/-- A page is let go of. -/
theorem drop (h : StoAt w B bs bp qs s u) {i : Nat} (hi : i < s.length) :
    StoAt (w.setCell ⟨bp, i, none⟩ (ptrV none)) B bs bp (qs.set i none) (s.set i none) u := by
  have hlen := h.len
  refine ⟨h.hs, h.hp, ?_, ?_, by simpa using hlen, by simpa using h.most, fun j m hj => ?_, fun j hj => ?_, fun j k g' hj hk' => ?_⟩
  · have := h.st.far (p := ⟨bp, i, none⟩) h.ne1 (ptrV none)
    simpa using this
  · rw [List.map_set]
    exact h.row.set_ i _
  · rw [List.getElem?_set] at hj
    by_cases e : i = j
    · subst e
      rw [if_pos rfl, if_pos hi] at hj
      cases hj
    · rw [if_neg e] at hj
      obtain ⟨g', h1, h2, h3, h4⟩ := h.some_ j m hj
      exact ⟨g', by rw [List.getElem?_set_ne e, h1], h2, h3.far (p := ⟨bp, i, none⟩) (h3.ne_of_type h.row (by decide)) _, h4⟩
  · rw [List.getElem?_set] at hj ⊢
    by_cases e : i = j
    · subst e
      rw [if_pos rfl, if_pos (by omega)]
    · rw [if_neg e] at hj ⊢
      exact h.none_ j hj
  · rw [List.getElem?_set] at hj hk'
    by_cases e : i = j <;> by_cases e' : i = k
    · omega
    · rw [if_pos e, if_pos (by omega)] at hj
      cases hj
    · rw [if_pos e', if_pos (by omega)] at hk'
      cases hk'
    · rw [if_neg e] at hj
      rw [if_neg e'] at hk'
      exact h.inj j k g' hj hk'

/-- What is counted as used is set anew. -/
theorem count (h : StoAt w B bs bp qs s u) (u' : Int) : StoAt (w.setCell ⟨bs, 1, none⟩ (.int .i64 u')) B bs bp qs s u' := by
  refine ⟨h.hs, h.hp, h.st.set_ 1 _, h.row.far (p := ⟨bs, 1, none⟩) (Ne.symm h.ne1) _, h.len, h.most, fun i l hi => ?_, h.none_, h.inj⟩
  obtain ⟨g, h1, h2, h3, h4⟩ := h.some_ i l hi
  exact ⟨g, h1, h2, h3.far (p := ⟨bs, 1, none⟩) (h3.ne_of_type h.st (by decide)) _, h4⟩

/-- A byte of a page is set anew. -/
theorem byte (h : StoAt w B bs bp qs s u) {i g k : Nat} {l : List UInt8} (hi : s[i]? = some (some l)) (hq : qs[i]? = some (some g)) (c : UInt8) :
    StoAt (w.setCell ⟨g, k, none⟩ (Ytjjmnjgkodiibaa.B c)) B bs bp qs (s.set i (some (l.set k c))) u := by
  have hlt : i < s.length := (List.getElem?_eq_some_iff.1 hi).1
  obtain ⟨g0, q0, b0, k0, l0⟩ := h.some_ i l hi
  rw [hq] at q0
  injection q0 with q0
  injection q0 with q0
  subst q0
  refine ⟨h.hs, h.hp, ?_, h.row.far (p := ⟨g, k, none⟩) (h.row.ne_of_type k0 (by decide)) _, by simpa using h.len, by simpa using h.most, fun j m hj => ?_, fun j hj => ?_, h.inj⟩
  · have := h.st.far (p := ⟨g, k, none⟩) (h.st.ne_of_type k0 (by decide)) (Ytjjmnjgkodiibaa.B c)
    simpa using this
  · rw [List.getElem?_set] at hj
    by_cases e : i = j
    · subst e
      rw [if_pos rfl, if_pos hlt] at hj
      injection hj with hj
      injection hj with hj
      subst hj
      refine ⟨g, hq, b0, ?_, by simpa using l0⟩
      have := k0.set_ k (Ytjjmnjgkodiibaa.B c)
      rwa [← List.map_set] at this
    · rw [if_neg e] at hj
      obtain ⟨g', h1, h2, h3, h4⟩ := h.some_ j m hj
      refine ⟨g', h1, h2, h3.far (p := ⟨g, k, none⟩) (fun eg => e ?_) _, h4⟩
      subst eg
      exact h.inj i j g' hq h1
  · rw [List.getElem?_set] at hj
    by_cases e : i = j
    · subst e
      rw [if_pos rfl, if_pos hlt] at hj
      cases hj
    · rw [if_neg e] at hj
      exact h.none_ j hj

/-- A block that was not there when the store was last looked at is none of its pages. -/
theorem fresh (h : StoAt w B bs bp qs s u) {g : Nat} (hg : w.heap.size ≤ g) : ∀ j : Nat, qs[j]? ≠ some (some g) := by
  intro j hj
  have hl := h.len
  have hlt : j < qs.length := (List.getElem?_eq_some_iff.1 hj).1
  cases e : s[j]? with
  | none => rw [List.getElem?_eq_none_iff] at e; omega
  | some o =>
    cases o with
    | none => rw [h.none_ j e] at hj; cases hj
    | some l =>
      obtain ⟨g', h1, _, h3, _⟩ := h.some_ j l e
      rw [h1] at hj
      injection hj with hj
      injection hj with hj
      subst hj
      have := h3.lt
      omega
end StoAt

/-- A store whose count is right. -/
def Sto (w : World) (B bs : Nat) (s : Pg.St) : Prop := ∃ bp qs, StoAt w B bs bp qs s (Pg.used s)

theorem Sto.below {w w' : World} {B bs : Nat} {s : Pg.St} (h : Sto w B bs s) (hb : Below w.heap.size w w') : Sto w' B bs s := by
  obtain ⟨bp, qs, h⟩ := h
  exact ⟨bp, qs, h.below hb⟩
theorem Sto.keeps {w w' : World} {B bs : Nat} {s : Pg.St} {T : List TypeId} {B' : Nat} (h : Sto w B bs s) (hk : Keeps T B' w w') (hT : ∀ t ∈ StT, t ∉ T) : Sto w' B bs s := by
  obtain ⟨bp, qs, h⟩ := h
  exact ⟨bp, qs, h.keeps hk hT⟩
theorem Sto.drewN {w : World} {B bs : Nat} {s : Pg.St} (h : Sto w B bs s) (n : Nat) : Sto (w.drewN n) B bs s := by
  obtain ⟨bp, qs, h⟩ := h
  exact ⟨bp, qs, h.drewN n⟩
end Go.Proofs.Ytjjmnjgkodiibaa
