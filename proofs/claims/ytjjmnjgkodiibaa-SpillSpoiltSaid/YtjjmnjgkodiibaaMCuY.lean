/- Walks: Next, on: a cursor with an error, a cursor at its end; a cursor beside others. -/
import Derived.Test.YtjjmnjgkodiibaaMCuX
import Derived.Test.YtjjmnjgkodiibaaMSpY
namespace Go.Proofs.Ytjjmnjgkodiibaa
open Go.RowKit

attribute [local go_sem ↓] Go.wp_at_zero Go.wp_at_succ

theorem Turns.below0 {S : Nat → Prop} {B M : Nat} {w w' : World} (h : Turns S [] B w w') (hs : ∀ k, S k → M ≤ k) (hM : M ≤ w.heap.size) : Below M w w' :=
  ⟨h.os, h.tape, h.output, h.size, fun k hk => h.block k (by omega) (fun hh => Nat.not_lt.2 (hs k hh) hk) (.inr fun _ _ _ _ m => by cases m)⟩

theorem next_err (S : Nat → Prop) (bs bc : Nat) (l : List Nat) (k ic : Nat) (I : Option Addr) (p : List UInt8) (n rc : Nat) (R : Option Addr) (left err : Int) (w : World) (h : CuAt w S bs bc l k ic I p n rc R left err) (he : err ≠ 0) :
    Calls Try.prog 36 #[.pointer (some ⟨bc, 0, none⟩)] w fun e w' => e = .returned (.tuple #[.slice none 0 0, .bool false, .int .i64 err]) ∧ Below w.heap.size w w' := by
  have k4 := h.blk.cell 4
  simp only [List.getElem?_cons_zero, List.getElem?_cons_succ] at k4
  have hne : ¬ err = 0 := he
  clear h
  go_enter Try.func36, Try.ntmps36
  go_wp2_with fail
  go_region
  go_wp2_with fail
  go_ret3
  exact ⟨rfl, (Below.refl _ _).drew⟩

theorem next_done (S : Nat → Prop) (bs bc : Nat) (ic : Nat) (I : Option Addr) (p : List UInt8) (n rc : Nat) (R : Option Addr) (w : World) (h : CuAt w S bs bc [] 0 ic I p n rc R 0 0) (hz : p.any (· != 0) = false) :
    Calls Try.prog 36 #[.pointer (some ⟨bc, 0, none⟩)] w fun e w' => e = .returned (.tuple #[.slice none 0 0, .bool false, .int .i64 0]) ∧ w = w' := by
  have k1 := h.blk.cell 1
  have k2 := h.blk.cell 2
  have k3 := h.blk.cell 3
  have k4 := h.blk.cell 4
  simp only [List.getElem?_cons_zero, List.getElem?_cons_succ] at k1 k2 k3 k4
  have hcap := h.rst.cap
  have hc := containsc_any R p n rc w h.plen (by have := hcap.2; unfold maxLen at this; omega) h.rst.rd
  rw [hz] at hc
  have Hc := Lib.hid hc
  clear h hz hc
  go_enter Try.func36, Try.ntmps36
  go_wp2_with fail
  refine Hc.out.mono ?_
  rintro e w' ⟨rfl, rfl⟩
  go_wp2_with fail
  go_ret3
  exact ⟨rfl, rfl⟩

namespace CuAt
variable {w : World} {S : Nat → Prop} {bs bc : Nat} {l : List Nat} {k ic : Nat} {I : Option Addr} {p : List UInt8} {n rc : Nat} {R : Option Addr} {left err : Int}
theorem bound (h : CuAt w S bs bc l k ic I p n rc R left err) : CuAt w (fun j => S j ∧ j < w.heap.size) bs bc l k ic I p n rc R left err := by
  have hx : ∀ (e : TypeId) (A : Option Addr) (n c : Nat) (xs : List Value), OwnX w 0 e A n c xs → InS S A → InS (fun j => S j ∧ j < w.heap.size) A := fun e A n c xs ho hi b o hb => by
    rcases ho with ⟨h, _⟩ | ⟨g, off, ys, h, _, hk, _⟩
    · rw [h] at hb; cases hb
    · refine ⟨hi b o hb, ?_⟩
      rw [h] at hb
      injection hb with hb
      injection hb with hb _
      rw [← hb]
      exact hk.lt
  exact ⟨⟨h.sc, h.blk.lt⟩, h.blk, h.ids, hx _ _ _ _ _ h.ids h.inI, h.rst, hx _ _ _ _ _ h.rst h.inR⟩
end CuAt

namespace Pg
theorem onP_cons (s : St) (i : Nat) (l : List Nat) : onP s (i :: l) = readB s (i : Int) ++ onP s l := by unfold onP; rw [List.flatMap_cons]
theorem onP_len {s : St} (h64 : ∀ (k : Nat) (l : List UInt8), s[k]? = some (some l) → l.length = 64) : ∀ {l : List Nat}, (∀ i ∈ l, readE s (i : Int) = 0) → (onP s l).length = 56 * l.length
  | [], _ => rfl
  | i :: l, h => by
    rw [onP_cons, List.length_append, readB_len h64 (h i (by simp)), onP_len h64 (fun j hj => h j (by simp [hj])), List.length_cons]
    omega
theorem rowsB_cons (r : RowM) (rs : List RowM) : rowsB (r :: rs) = rowB r ++ rowsB rs := by simp [rowsB]
theorem Hon.len {s : St} (h64 : ∀ (k : Nat) (l : List UInt8), s[k]? = some (some l) → l.length = 64) {l : List Nat} {p : List UInt8} {rs : List RowM} {j : Nat} (h : Hon s l p rs j) : p.length + 56 * l.length = (rowsB rs).length + j := by
  have e := congrArg List.length h.eq
  rw [List.length_append, onP_len h64 h.ok, List.length_append, List.length_replicate] at e
  exact e
theorem Hon.end_ {s : St} (h64 : ∀ (k : Nat) (l : List UInt8), s[k]? = some (some l) → l.length = 64) {l : List Nat} {p : List UInt8} {j : Nat} (h : Hon s l p [] j) (hj : j < 56) : l = [] ∧ p.any (· != 0) = false := by
  have hl := h.len h64
  have h0 : (rowsB []).length = 0 := rfl
  rw [h0] at hl
  have hn : l = [] := List.eq_nil_of_length_eq_zero (by omega)
  subst hn
  refine ⟨rfl, ?_⟩
  have e := h.eq
  have e1 : onP s [] = [] := rfl
  have e2 : rowsB [] = [] := rfl
  rw [e1, e2, List.append_nil, List.nil_append] at e
  rw [e]
  simp
theorem onP_gets (s : St) (l : List Nat) : onP s l = getsB s (l.map Int.ofNat) := by
  unfold onP getsB
  rw [List.flatMap_map]
  rfl
theorem PutAt.hon {s0 : St} {rs : List RowM} (h : PutAt s0 rs) : ∃ j, j < 56 ∧ Hon (putRS s0 rs) (putRL s0 rs) [] rs j := by
  refine ⟨56 * (putRL s0 rs).length - (rowsB rs).length, ?_, ?_, fun i hi => ?_⟩
  · rw [h.holds.len]
    unfold need
    split <;> omega
  · rw [onP_gets, getsB_all _ _ h.holds, List.nil_append]
  · obtain ⟨k, hk⟩ := List.getElem?_of_mem hi
    exact h.holds.read hk
end Pg

/-- A cursor with an own set of blocks, from block M on: the rows ahead of it, and j bytes of nothing behind them. -/
def Cur (w : World) (S : Nat → Prop) (M bs bc : Nat) (s : Pg.St) (rs : List RowM) (j : Nat) (left : Int) : Prop :=
  (∃ l k ic I p n rc R, CuAt w S bs bc l k ic I p n rc R left 0 ∧ Pg.Hon s l p rs j ∧ (∀ i ∈ l, i < 600) ∧ n + 56 * k ≤ 40000) ∧ ∀ b, S b → M ≤ b ∧ b < w.heap.size
namespace Cur
variable {w w' : World} {S : Nat → Prop} {M bs bc : Nat} {s : Pg.St} {rs : List RowM} {j : Nat} {left : Int}
theorem keeps {T : List TypeId} {B : Nat} (h : Cur w S M bs bc s rs j left) (hT : ∀ t ∈ [107, 3, 5], t ∉ T) (hk : Keeps T B w w') : Cur w' S M bs bc s rs j left := by
  obtain ⟨⟨l, k, ic, I, p, n, rc, R, h1, h2⟩, h3⟩ := h
  exact ⟨⟨l, k, ic, I, p, n, rc, R, h1.keeps hT hk, h2⟩, fun b hb => ⟨(h3 b hb).1, Nat.lt_of_lt_of_le (h3 b hb).2 hk.size⟩⟩
theorem below (h : Cur w S M bs bc s rs j left) (hb : Below w.heap.size w w') : Cur w' S M bs bc s rs j left := by
  obtain ⟨⟨l, k, ic, I, p, n, rc, R, h1, h2⟩, h3⟩ := h
  exact ⟨⟨l, k, ic, I, p, n, rc, R, h1.below hb, h2⟩, fun b h' => ⟨(h3 b h').1, Nat.lt_of_lt_of_le (h3 b h').2 hb.size⟩⟩
theorem turns {S' : Nat → Prop} (h : Cur w S M bs bc s rs j left) (hd : ∀ b, S b → ¬ S' b) (hk : Turns S' [] 0 w w') : Cur w' S M bs bc s rs j left := by
  obtain ⟨⟨l, k, ic, I, p, n, rc, R, h1, h2⟩, h3⟩ := h
  exact ⟨⟨l, k, ic, I, p, n, rc, R, h1.turns hd (by simp) hk, h2⟩, fun b hb => ⟨(h3 b hb).1, Nat.lt_of_lt_of_le (h3 b hb).2 hk.size⟩⟩
end Cur

/-- Next, of a cursor whose pages are as they were laid. -/
theorem cur_next (S : Nat → Prop) (M B bs bc : Nat) (s : Pg.St) (r : RowM) (rs : List RowM) (j : Nat) (left : Int) (w : World) (h : Cur w S M bs bc s (r :: rs) j left) (hs : Sto w B bs s) (hr : Pg.Fine r) (h0 : 0 < left) (hle : left ≤ 1000000) (hM : M ≤ w.heap.size) :
    Calls Try.prog 36 #[.pointer (some ⟨bc, 0, none⟩)] w fun e w' => ∃ R rc S', e = .returned (.tuple #[.slice R r.length rc, .bool true, .int .i64 0]) ∧ Own w' w.heap.size 37 3 R r.length rc (rcells r) ∧ Cur w' S' M bs bc s rs j (left - 1) ∧ Sto w' B bs s ∧ Turns S [] 0 w w' ∧ ∀ b, S' b → S b ∨ w.heap.size ≤ b := by
  obtain ⟨⟨l, k, ic, I, p, n, rc, R, h1, h2, h3, h4⟩, h5⟩ := h
  have h64 := sto_64 hs
  have hlen := h2.len h64
  obtain ⟨u, l', e1, e2, d, e3⟩ := h2.next hr
  refine (next_any (fun b => S b ∨ w.heap.size ≤ b) B bs bc s l k ic I p n rc R left w (h1.more fun b hb => .inl hb) hs (fun b hb => .inr hb) h0 hle (by omega) (fun i hi => by have := h3 i hi; omega)).mono ?_
  rintro e w' ⟨⟨er, q1, _⟩ | ⟨r', u', l2, R', rc', k', ic', I', n', rc2, R2, q1, q2, rfl, q3, q4⟩, q5, q6⟩
  · rw [e1] at q1; cases q1
  · rw [e1] at q1
    injection q1 with q1
    injection q1 with q1 q7
    injection q7 with q7 q8
    subst q1; subst q7; subst q8
    have hkl := h1.klen
    have hpl := h1.plen
    have hkl' := q4.klen
    have hpl' := q4.plen
    have hlen' := e2.len h64
    rw [Pg.rowsB_cons, List.length_append] at hlen
    have hz := q6.size
    refine ⟨R', rc', fun b => (S b ∨ w.heap.size ≤ b) ∧ b < w'.heap.size, rfl, q3, ⟨⟨_, _, _, _, _, _, _, _, q4.bound, e2, fun i hi => h3 i (by rw [e3]; simp [hi]), by omega⟩, ?_⟩, q5, q6.more ?_, fun b hb => hb.1⟩
    · rintro b ⟨hb | hb, hb2⟩
      · exact ⟨(h5 b hb).1, hb2⟩
      · exact ⟨by omega, hb2⟩
    · rintro b hb (h | h)
      · exact h
      · omega
end Go.Proofs.Ytjjmnjgkodiibaa
