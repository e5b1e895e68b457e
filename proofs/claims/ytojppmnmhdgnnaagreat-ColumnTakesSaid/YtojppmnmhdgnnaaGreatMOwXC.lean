/- Words for memory, on: a slice of the call's own that begins anywhere in its block, and what a call may have turned: blocks of a set, and a store's. Walks: a reader of bytes: numbers and texts. -/
import Derived.Test.YtojppmnmhdgnnaaGreatMBaCr
import Derived.Test.YtojppmnmhdgnnaaGreatMArIn
import Derived.Deep.AppendSrc
import Derived.ArgAppend
import Derived.Test.YtojppmnmhdgnnaaGreatMDiMO
import Derived.Laws.BitsAllLaws
namespace Go.Proofs.YtojppmnmhdgnnaaGreat
set_option linter.unusedVariables false
set_option linter.unusedSimpArgs false
open Go.RowKit

/-- Only blocks of the set S have turned, and a store's: of the types T, from block B on; and new ones. -/
structure Turns (S : Nat → Prop) (T : List TypeId) (B : Nat) (w w' : World) : Prop where
  os : w'.os = w.os
  tape : w'.tape = w.tape
  output : w'.output = w.output
  size : w.heap.size ≤ w'.heap.size
  block : ∀ k, k < w.heap.size → ¬ S k → (k < B ∨ ∀ c t f, w.heap[k]? = some (.cells c t f) → t ∉ T) → w'.heap[k]? = w.heap[k]?

namespace Turns
variable {S : Nat → Prop} {T : List TypeId} {B : Nat} {w w' w'' : World}
theorem refl (S : Nat → Prop) (T : List TypeId) (B : Nat) (w : World) : Turns S T B w w := ⟨rfl, rfl, rfl, Nat.le_refl _, fun _ _ _ _ => rfl⟩
theorem trans (h : Turns S T B w w') (k : Turns S T B w' w'') : Turns S T B w w'' :=
  ⟨k.os.trans h.os, k.tape.trans h.tape, k.output.trans h.output, Nat.le_trans h.size k.size, fun i hi hs ht => by
    have e := h.block i hi hs ht
    rw [k.block i (Nat.lt_of_lt_of_le hi h.size) hs (by rw [e]; exact ht), e]⟩
theorem of_keeps (h : Keeps T B w w') : Turns S T B w w' := ⟨h.os, h.tape, h.output, h.size, fun k hk _ ht => h.block k hk ht⟩
theorem of_below (h : Below w.heap.size w w') : Turns S T B w w' := ⟨h.os, h.tape, h.output, h.size, fun k hk _ _ => h.block k hk⟩
theorem of_grown {row : Option Nat} (h : w.grownBy w' row) (hr : ∀ k, row = some k → S k) : Turns S T B w w' :=
  ⟨h.os, h.tape, h.output, h.size, fun k hk hs _ => h.block k hk fun e => hs (hr k e.symm)⟩
theorem setCell (w : World) {g i : Nat} (hs : S g) (u : Value) : Turns S T B w (w.setCell ⟨g, i, none⟩ u) :=
  ⟨rfl, rfl, rfl, by simp [World.setCell], fun k _ hn _ => heap_setCell_other w _ k u (fun e => hn (by rw [e]; exact hs))⟩
theorem drewN (h : Turns S T B w w') (n : Nat) : Turns S T B w (w'.drewN n) := ⟨h.os, h.tape, h.output, h.size, h.block⟩
theorem alloc (h : Turns S T B w w') (o : Obj) : Turns S T B w (w'.alloc o) := h.trans (of_below ((Below.refl _ _).alloc (Nat.le_refl _) o))
theorem more {S' : Nat → Prop} (h : Turns S T B w w') (hs : ∀ k, k < w.heap.size → S k → S' k) : Turns S' T B w w' :=
  ⟨h.os, h.tape, h.output, h.size, fun k hk hn ht => h.block k hk (fun hh => hn (hs k hk hh)) ht⟩
/-- Where all of the set is younger than the world w. -/
theorem keeps (h : Turns S T B w w') (hs : ∀ k, S k → w.heap.size ≤ k) : Keeps T B w w' :=
  ⟨h.os, h.tape, h.output, h.size, fun k hk ht => h.block k hk (fun hh => Nat.not_lt.2 (hs k hh) hk) ht⟩
theorem below {M : Nat} (h : Turns S T B w w') (hs : ∀ k, S k → M ≤ k) (hM : M ≤ w.heap.size) (hB : M ≤ B) : Below M w w' :=
  ⟨h.os, h.tape, h.output, h.size, fun k hk => h.block k (by omega) (fun hh => Nat.not_lt.2 (hs k hh) hk) (.inl (by omega))⟩
end Turns

theorem Blk.turns {S : Nat → Prop} {T : List TypeId} {B : Nat} {w w' : World} {g : Nat} {t : TypeId} {xs : List Value} (h : Blk w g t xs) (hs : ¬ S g) (ht : t ∉ T) (hk : Turns S T B w w') : Blk w' g t xs :=
  h.of_heap (hk.block g h.lt hs (.inr fun c t' f e m => by
    unfold Blk at h
    rw [h] at e
    injection e with e
    injection e with _ e
    exact ht (e ▸ m)))

/-- The slice's block is one of the set's. -/
def InS (S : Nat → Prop) (A : Option Addr) : Prop := ∀ b o, A = some ⟨b, o, none⟩ → S b
theorem InS.nil (S : Nat → Prop) : InS S none := fun _ _ h => by cases h

theorem Own.turns {S : Nat → Prop} {T : List TypeId} {B : Nat} {w w' : World} {base : Nat} {e : TypeId} {size : Nat} {A : Option Addr} {n c : Nat} {xs : List Value} (h : Own w base e size A n c xs) (ht : e ∉ T) (hs : ∀ b o, A = some ⟨b, o, none⟩ → ¬ S b) (hk : Turns S T B w w') : Own w' base e size A n c xs := by
  refine ⟨h.1, ?_⟩
  rcases h.2 with hn | ⟨g, cap, cur, hv, hg, hh, rest⟩
  · exact .inl hn
  · injection hv with hv1 hv2 hv3
    refine .inr ⟨g, cap, cur, by rw [hv1, hv3], hg, ?_, rest⟩
    rw [hk.block g (Array.getElem?_eq_some_iff.1 hh).1 (hs g 0 hv1) (.inr fun c t' f e' m => by
      rw [hh] at e'
      injection e' with e'
      injection e' with _ e'
      exact ht (e' ▸ m))]
    exact hh

/-! ### Slices of the call's own that begin anywhere -/

/-- The slice (A, n, c), of elements of one cell, lies whole, with what it has room for, in a block from base on. -/
def OwnX (w : World) (base : Nat) (e : TypeId) (A : Option Addr) (n c : Nat) (xs : List Value) : Prop :=
  (A = none ∧ n = 0 ∧ c = 0 ∧ xs = []) ∨ ∃ g off ys, A = some ⟨g, off, none⟩ ∧ base ≤ g ∧ Blk w g e ys ∧ n ≤ c ∧ c ≤ maxLen ∧ off + c ≤ ys.length ∧ (ys.drop off).take n = xs

namespace OwnX
variable {w w' : World} {base : Nat} {e : TypeId} {A : Option Addr} {n c : Nat} {xs : List Value}
theorem nil (w : World) (base : Nat) (e : TypeId) : OwnX w base e none 0 0 [] := .inl ⟨rfl, rfl, rfl, rfl⟩
theorem of_own (h : Own w base e 1 A n c xs) : OwnX w base e A n c xs := by
  rcases h.2 with ⟨hv, h0⟩ | ⟨g, cap, cur, hv, hg, hh, hnc, hcm, hcs, ht⟩
  · injection hv with h1 h2 h3
    have hl := h.1
    rw [h0] at hl
    refine .inl ⟨h1, h0, h3, List.eq_nil_of_length_eq_zero (by simpa using hl)⟩
  · injection hv with h1 h2 h3
    subst h1
    subst h3
    rw [Nat.mul_one] at hcs ht
    refine .inr ⟨g, 0, cur.toList, rfl, hg, ?_, hnc, hcm, ?_, by rw [List.drop_zero]; exact ht⟩
    · unfold Blk
      rw [hh]
    · rw [Array.length_toList, hcs]
      omega
theorem cap (h : OwnX w base e A n c xs) : n ≤ c ∧ c ≤ maxLen := by
  rcases h with ⟨_, rfl, rfl, _⟩ | ⟨g, off, ys, _, _, _, h1, h2, _⟩
  · exact ⟨Nat.le_refl _, Nat.zero_le _⟩
  · exact ⟨h1, h2⟩
theorem len (h : OwnX w base e A n c xs) : xs.length = n := by
  rcases h with ⟨_, rfl, rfl, rfl⟩ | ⟨g, off, ys, _, _, _, h1, h2, h3, rfl⟩
  · rfl
  · rw [List.length_take, List.length_drop]
    omega
theorem rd (h : OwnX w base e A n c xs) : Rd w A xs := by
  rcases h with ⟨_, rfl, rfl, rfl⟩ | ⟨g, off, ys, rfl, _, hb, _, _, _, rfl⟩
  · exact Rd.nil _ _
  · have := Rd.part hb.range off n
    rw [Nat.zero_add] at this
    exact Rd.of_range this
theorem below (h : OwnX w base e A n c xs) (hb : Below w.heap.size w w') : OwnX w' base e A n c xs := by
  rcases h with h | ⟨g, off, ys, h1, h2, h3, h4⟩
  · exact .inl h
  · exact .inr ⟨g, off, ys, h1, h2, h3.below hb, h4⟩
theorem keeps {T : List TypeId} {B : Nat} (h : OwnX w base e A n c xs) (ht : e ∉ T) (hk : Keeps T B w w') : OwnX w' base e A n c xs := by
  rcases h with h | ⟨g, off, ys, h1, h2, h3, h4⟩
  · exact .inl h
  · exact .inr ⟨g, off, ys, h1, h2, h3.keeps ht hk, h4⟩
theorem grown {row : Option Nat} (h : OwnX w base e A n c xs) (hg : w.grownBy w' row) (hne : ∀ b o, A = some ⟨b, o, none⟩ → some b ≠ row) : OwnX w' base e A n c xs := by
  rcases h with h | ⟨g, off, ys, h1, h2, h3, h4⟩
  · exact .inl h
  · exact .inr ⟨g, off, ys, h1, h2, h3.grown hg (hne g off h1), h4⟩
theorem turns {S : Nat → Prop} {T : List TypeId} {B : Nat} (h : OwnX w base e A n c xs) (ht : e ∉ T) (hs : ∀ b o, A = some ⟨b, o, none⟩ → ¬ S b) (hk : Turns S T B w w') : OwnX w' base e A n c xs := by
  rcases h with h | ⟨g, off, ys, h1, h2, h3, h4⟩
  · exact .inl h
  · exact .inr ⟨g, off, ys, h1, h2, h3.turns (hs g off h1) ht hk, h4⟩
theorem far (h : OwnX w base e A n c xs) {p : Addr} (hp : ∀ b o, A = some ⟨b, o, none⟩ → b ≠ p.block) (u : Value) : OwnX (w.setCell p u) base e A n c xs := by
  rcases h with h | ⟨g, off, ys, h1, h2, h3, h4⟩
  · exact .inl h
  · exact .inr ⟨g, off, ys, h1, h2, h3.far (hp g off h1) u, h4⟩
theorem lower {base' : Nat} (h : OwnX w base e A n c xs) (hb : base' ≤ base) : OwnX w base' e A n c xs := by
  rcases h with h | ⟨g, off, ys, h1, h2, h3⟩
  · exact .inl h
  · exact .inr ⟨g, off, ys, h1, by omega, h3⟩
/-- An append onto it turns blocks of its elements' type alone. -/
theorem apx_keeps (h : OwnX w base e A n c xs) (hg : w.grownBy w' (A.map (·.block))) : Keeps [e] base w w' := by
  refine ⟨hg.os, hg.tape, hg.output, hg.size, fun k hk hn => hg.block k hk fun er => ?_⟩
  rcases h with ⟨rfl, _⟩ | ⟨g, off, ys, rfl, hb, hh, _⟩
  · cases er
  · injection er with er
    change k = g at er
    subst er
    rcases hn with hn | hn
    · omega
    · exact absurd (List.mem_singleton.2 rfl) (hn _ _ _ hh)
/-- s[:k]. -/
theorem take (h : OwnX w base e A n c xs) {k : Nat} (hk : k ≤ n) : OwnX w base e A k c (xs.take k) := by
  rcases h with ⟨rfl, rfl, rfl, rfl⟩ | ⟨g, off, ys, rfl, h2, h3, h4, h5, h6, rfl⟩
  · obtain rfl : k = 0 := by omega
    exact .inl ⟨rfl, rfl, rfl, rfl⟩
  · refine .inr ⟨g, off, ys, rfl, h2, h3, by omega, h5, h6, ?_⟩
    rw [List.take_take, Nat.min_eq_left hk]
/-- s[k:]. -/
theorem drop {g off : Nat} (h : OwnX w base e (some ⟨g, off, none⟩) n c xs) {k : Nat} (hk : k ≤ n) : OwnX w base e (some ⟨g, off + k, none⟩) (n - k) (c - k) (xs.drop k) := by
  rcases h with ⟨h, _⟩ | ⟨g', off', ys, h1, h2, h3, h4, h5, h6, rfl⟩
  · cases h
  · injection h1 with h1
    injection h1 with e1 e2
    subst e1; subst e2
    refine .inr ⟨g, off + k, ys, rfl, h2, h3, by omega, by omega, by omega, ?_⟩
    rw [List.drop_take, List.drop_drop]
/-- s[k:] where k is all there is room for. -/
theorem dropAll {g off : Nat} (h : OwnX w base e (some ⟨g, off, none⟩) n c xs) : OwnX w base e (some ⟨g, off, none⟩) 0 0 [] := by
  rcases h with ⟨h, _⟩ | ⟨g', off', ys, h1, h2, h3, h4, h5, h6, rfl⟩
  · cases h
  · injection h1 with h1
    injection h1 with e1 e2
    subst e1; subst e2
    exact .inr ⟨g, off, ys, rfl, h2, h3, by omega, by omega, by omega, by simp⟩
theorem at_ (h : OwnX w base e A n c xs) (hn : 0 < n) : ∃ g off, A = some ⟨g, off, none⟩ ∧ base ≤ g ∧ w.rangeAt g off xs := by
  have hl := h.len
  have hr := h.rd
  rcases h with ⟨_, rfl, _⟩ | ⟨g, off, ys, rfl, h2, _⟩
  · omega
  · obtain ⟨g', o', e1, hr⟩ := hr (by intro h0; rw [h0] at hl; simp at hl; omega)
    injection e1 with e1
    injection e1 with e1 e2
    subst e1; subst e2
    exact ⟨g, off, rfl, h2, hr⟩
end OwnX

theorem Blk.sets3 {g : Nat} {t : TypeId} : ∀ (vs : List Value) (off : Nat) (ys : List Value) (w : World), Blk w g t ys → off + vs.length ≤ ys.length → Blk (w.setCells g off vs) g t (ys.take off ++ vs ++ ys.drop (off + vs.length))
  | [], off, ys, w, h, _ => by
    rw [World.setCells, List.append_nil, List.length_nil, Nat.add_zero, List.take_append_drop]
    exact h
  | v :: vs, off, ys, w, h, hl => by
    rw [List.length_cons] at hl
    have h1 := Blk.sets3 vs (off + 1) _ _ (h.set_ off v) (by rw [List.length_set]; omega)
    rw [World.setCells]
    have e : (ys.set off v).take (off + 1) ++ vs ++ (ys.set off v).drop (off + 1 + vs.length) = ys.take off ++ (v :: vs) ++ ys.drop (off + (v :: vs).length) := by
      rw [List.take_succ_eq_append_getElem (by rw [List.length_set]; omega), List.take_set_of_le (Nat.le_refl _), List.getElem_set_self, List.drop_set_of_lt (by omega), List.length_cons, show off + (vs.length + 1) = off + 1 + vs.length from by omega]
      simp
    rw [e] at h1
    exact h1

theorem grown_setCells (w : World) (g off : Nat) (vs : List Value) : w.grownBy (w.setCells g off vs) (some g) := by
  obtain ⟨h1, h2, h3⟩ := same_setCells g vs off w
  exact ⟨h1, h2, h3, by rw [size_setCells]; exact Nat.le_refl _, fun k _ hn => heap_setCells_other g k (fun e => hn (by rw [e])) vs off w⟩

/-- Behind an append: where the slice's block is. -/
def LiesAt (w : World) (A A' : Option Addr) : Prop := (∃ g o o', A = some ⟨g, o, none⟩ ∧ A' = some ⟨g, o', none⟩) ∨ A' = none ∨ ∃ g o', w.heap.size ≤ g ∧ A' = some ⟨g, o', none⟩
theorem LiesAt.inS {w : World} {A A' : Option Addr} {S : Nat → Prop} (h : LiesAt w A A') (hA : InS S A) (hy : ∀ k, w.heap.size ≤ k → S k) : InS S A' := by
  intro b o hb
  rcases h with ⟨g, o1, o2, h1, h2⟩ | h | ⟨g, o1, hg, h⟩
  · rw [h2] at hb
    injection hb with hb
    injection hb with hb _
    rw [← hb]
    exact hA g o1 h1
  · rw [h] at hb
    cases hb
  · rw [h] at hb
    injection hb with hb
    injection hb with hb _
    exact hy b (by omega)

section
variable {P : Program}
/-- append onto such a slice. -/
theorem run_apx (w : World) {t e : TypeId} {bytes : Nat} {z : Value} (E : ElemT P t e 1 bytes z) (ty : TypeId) (base : Nat) (A : Option Addr) (n c : Nat) (xs : List Value) (hown : OwnX w base e A n c xs)
    (X : Option Addr) (m k : Nat) (news : List Value) (hl : news.length = m) (hr : Rd w X news) (h1 : ∀ u ∈ news, u.oneCell' = true)
    (hbytes : (n + m) * bytes ≤ 140737488355328) (hb0 : 0 < bytes) (hbase : base ≤ w.heap.size) :
    ∃ A' c' w', (Builtin.append_ #[t, t] ty #[.slice A n c, .slice X m k]).run P w = .ok (.slice A' (n + m) c') w' ∧ OwnX w' base e A' (n + m) c' (xs ++ news) ∧ w.grownBy w' (A.map (·.block)) ∧ LiesAt w A A' := by
  have hxl := hown.len
  have hxr := hown.rd
  rcases hown with ⟨rfl, rfl, rfl, rfl⟩ | ⟨g, off, ys, rfl, hg, hb, hnc, hcm, hoc, hx⟩
  · obtain ⟨A', c', w', hrun, ho, hgr, hat⟩ := run_apd (P := P) w E ty base none 0 0 [] (Own.nil _ _ _ _) X m k news (by omega) hr h1 hbytes hb0 hbase
    refine ⟨A', c', w', hrun, OwnX.of_own ho, hgr, ?_⟩
    rcases ho.lies with ⟨h, _⟩ | ⟨g, cur, h, _⟩
    · exact .inr (.inl h)
    · subst h
      rcases hat with hat | hat
      · simp [Value.ownBlock] at hat
      · simp [Value.ownBlock] at hat
        exact .inr (.inr ⟨_, 0, Nat.le_of_eq hat.symm, rfl⟩)
  · obtain ⟨hu, ⟨i, hi, hz, hs, hby⟩, hzs, hp⟩ := E
    by_cases hroom : n + m ≤ c
    · have hend : off + n + news.length ≤ ys.length := by omega
      have hsrc : Src P i.size t (.slice X m k) m news w := by
        rw [hs]
        rcases X with _ | ad
        · have hn0 : news = [] := by
            refine Classical.byContradiction fun hne => ?_
            obtain ⟨b, o, h, _⟩ := hr hne
            cases h
          subst hn0
          obtain rfl : m = 0 := by simpa using hl.symm
          exact Src.ofNil w hu k
        · refine Src.ofSlice w hu ad m k news (by omega) (fun j u hj => ?_) h1
          obtain ⟨b, o, h, hr2⟩ := hr (by intro h0; rw [h0] at hj; simp at hj)
          injection h with h
          subst h
          rw [Addr.add_mid]
          exact hr2 j u hj
      have hrun := run_append_room_src (P := P) w t t ty e i hu hi g off n c (.slice X m k) m news hsrc hroom (fun j hj => by
        rw [hs, Nat.mul_one, hb.cell, List.getElem?_eq_getElem (by omega)]
        rfl) (fun j hj => hb.frozen _)
      rw [hs, Nat.mul_one] at hrun
      refine ⟨_, _, _, hrun, .inr ⟨g, off, _, rfl, hg, Blk.sets3 news (off + n) ys w hb hend, hroom, hcm, ?_, ?_⟩, grown_setCells w g (off + n) news, .inl ⟨g, off, off, rfl, rfl⟩⟩
      · rw [List.length_append, List.length_append, List.length_take, List.length_drop]
        omega
      · rw [← hx, List.append_assoc, List.drop_append_of_le_length (by rw [List.length_take]; omega), ← List.append_assoc, List.drop_take, show off + n - off = n from by omega]
        exact List.take_left' (by rw [List.length_append, List.length_take, List.length_drop, hl]; omega)
    · rcases X with _ | ad
      · exfalso
        have hn0 : news = [] := by
          refine Classical.byContradiction fun hne => ?_
          obtain ⟨b, o, h, _⟩ := hr hne
          cases h
        subst hn0
        have : m = 0 := by simpa using hl.symm
        omega
      · have h63 : n + m ≤ maxLen := by
          have : n + m ≤ (n + m) * bytes := Nat.le_mul_of_pos_right _ hb0
          simp only [maxLen]
          omega
        obtain ⟨v', w', hrun, ho, hgr⟩ := run_append_arg_grows (P := P) w t ty e i z 1 bytes hu hi hz hs hby hzs hp ⟨g, off, none⟩ n c xs (by omega) (fun j u hj => by
          obtain ⟨b', o', h, hr'⟩ := hxr (by intro h0; rw [h0] at hj; simp at hj)
          injection h with h
          injection h with e1 e2
          subst e1; subst e2
          rw [Addr.add_mid]
          exact hr' j u hj) ad m k news (by omega) (fun j u hj => by
          obtain ⟨b, o, h, hr2⟩ := hr (by intro h0; rw [h0] at hj; simp at hj)
          injection h with h
          subst h
          rw [Addr.add_mid]
          exact hr2 j u hj) (by omega) h63 hbytes
        have hv : ∃ A' c', v' = .slice A' (n + m) c' := by
          rcases ho.2 with ⟨hv, h0⟩ | ⟨g, cap, cur, hv, _⟩
          · exact ⟨none, 0, by rw [hv, h0]⟩
          · exact ⟨_, _, hv⟩
        obtain ⟨A', c', rfl⟩ := hv
        refine ⟨A', c', w', hrun, (OwnX.of_own ho).lower hbase, ⟨hgr.os, hgr.tape, hgr.output, hgr.size, fun j hj _ => hgr.block j hj (by simp)⟩, ?_⟩
        rcases Own.lies (A := A') (c := c') ho with ⟨h, _⟩ | ⟨g', cur, h, hg', hlt, _⟩
        · exact .inr (.inl h)
        · exact .inr (.inr ⟨g', 0, hg', h⟩)

theorem wp_apx {o : Oper} {a : Act} {w : World} {K : Act → World → Prop} {Q : Exit → Act → World → Prop} (s x : Operand) (t : TypeId)
    (ho : o.op = .call { callee := .builtin .append, args := #[s, x], argTypes := #[t, t] })
    {e : TypeId} {bytes : Nat} {z : Value} (E : ElemT P t e 1 bytes z) (base : Nat) (A : Option Addr) (n c : Nat) (xs : List Value) (hs : a.eval s = .slice A n c) (hown : OwnX w base e A n c xs)
    (X : Option Addr) (m k : Nat) (news : List Value) (hx : a.eval x = .slice X m k) (hl : news.length = m) (hr : Rd w X news) (h1 : ∀ u ∈ news, u.oneCell' = true)
    (N : Nat) (hN : n + m = N) (ys : List Value) (hys : xs ++ news = ys) (hbytes : N * bytes ≤ 140737488355328) (hb0 : 0 < bytes) (hbase : base ≤ w.heap.size)
    (h : ∀ A' c' w', OwnX w' base e A' N c' ys → w.grownBy w' (A.map (·.block)) → LiesAt w A A' → K (a.put o.dst (.slice A' N c')) w') : o.wp P a w K Q := by
  subst hN
  subst hys
  obtain ⟨A', c', w', hrun, h2, h3, h4⟩ := run_apx (P := P) w E o.type base A n c xs hown X m k news hl hr h1 hbytes hb0 hbase
  unfold Oper.wp execOp
  simp only [ho, resolve, invoke, builtin, Sem.run_bind, Sem.run_pure, Result.andThen_ok, List.map_toArray, List.map_cons, List.map_nil, hs, hx, hrun]
  exact h A' c' w' h2 h3 h4

theorem wpList_apx {ops : Array Oper} {rest : List Oper} {o : Oper} {a : Act} {w : World} {Q : Exit → Act → World → Prop} (hgd : o.guard = none) (s x : Operand) (t : TypeId)
    (ho : o.op = .call { callee := .builtin .append, args := #[s, x], argTypes := #[t, t] })
    {e : TypeId} {bytes : Nat} {z : Value} (E : ElemT P t e 1 bytes z) (base : Nat) (A : Option Addr) (n c : Nat) (xs : List Value) (hs : a.eval s = .slice A n c) (hown : OwnX w base e A n c xs)
    (X : Option Addr) (m k : Nat) (news : List Value) (hx : a.eval x = .slice X m k) (hl : news.length = m) (hr : Rd w X news) (h1 : ∀ u ∈ news, u.oneCell' = true)
    (N : Nat) (hN : n + m = N) (ys : List Value) (hys : xs ++ news = ys) (hbytes : N * bytes ≤ 140737488355328) (hb0 : 0 < bytes) (hbase : base ≤ w.heap.size)
    (h : ∀ A' c' w', OwnX w' base e A' N c' ys → w.grownBy w' (A.map (·.block)) → LiesAt w A A' → wpList P ops Q rest (a.put o.dst (.slice A' N c')) w') : wpList P ops Q (o :: rest) a w :=
  wpList_plain hgd fun _ hK => wp_apx s x t ho E base A n c xs hs hown X m k news hx hl hr h1 N hN ys hys hbytes hb0 hbase fun A' c' w' h2 h3 h4 => hK _ _ (h A' c' w' h2 h3 h4)

theorem step_apx {ops : Array Oper} {o : Oper} {a : Act} {w : World} {K : Act → World → Prop} {Q : Exit → Act → World → Prop} {G : Prop} (hgd : o.guard = none) (s x : Operand) (t : TypeId)
    (ho : o.op = .call { callee := .builtin .append, args := #[s, x], argTypes := #[t, t] })
    {e : TypeId} {bytes : Nat} {z : Value} (E : ElemT P t e 1 bytes z) (base : Nat) (A : Option Addr) (n c : Nat) (xs : List Value) (hs : a.eval s = .slice A n c) (hown : OwnX w base e A n c xs)
    (X : Option Addr) (m k : Nat) (news : List Value) (hx : a.eval x = .slice X m k) (hl : news.length = m) (hr : Rd w X news) (h1 : ∀ u ∈ news, u.oneCell' = true)
    (N : Nat) (hN : n + m = N) (ys : List Value) (hys : xs ++ news = ys) (hbytes : N * bytes ≤ 140737488355328) (hb0 : 0 < bytes) (hbase : base ≤ w.heap.size)
    (h : ∀ A' c' w', OwnX w' base e A' N c' ys → w.grownBy w' (A.map (·.block)) → LiesAt w A A' → K (a.put o.dst (.slice A' N c')) w') :
    if Region.wanted o (yielded ops a.tmps) = true then Oper.wp P o a w K Q else G := by
  have hw : Region.wanted o (yielded ops a.tmps) = true := by simp [Region.wanted, hgd]
  rw [if_pos hw]
  exact wp_apx s x t ho E base A n c xs hs hown X m k news hx hl hr h1 N hN ys hys hbytes hb0 hbase h
end
end Go.Proofs.YtojppmnmhdgnnaaGreat
namespace Go.Proofs.YtojppmnmhdgnnaaGreat
set_option linter.unusedVariables false
set_option linter.unusedSimpArgs false
open Go.RowKit

attribute [local go_sem ↓] Go.wp_at_zero Go.wp_at_succ

/-- The block of a reader. -/
abbrev RdT : List TypeId := [94]
/-- The reader at block p has the bytes l ahead of it; whether it is bad. -/
def Rdr (w : World) (p : Nat) (l : List UInt8) (bad : Bool) : Prop :=
  ∃ A n c, Blk w p 94 [.slice A n c, .bool bad] ∧ OwnX w 0 5 A n c (Bs l) ∧ l.length = n ∧ n ≤ c ∧ c ≤ 9223372036854775807 ∧ ((A = none ∧ c = 0) ∨ ∃ b o, A = some ⟨b, o, none⟩)
/-- The reader is bad, and has nothing. -/
abbrev RdrBad (w : World) (p : Nat) : Prop := Blk w p 94 [.slice none 0 0, .bool true]
theorem RdrBad.rdr {w : World} {p : Nat} (h : RdrBad w p) : Rdr w p [] true := ⟨none, 0, 0, h, OwnX.nil _ _ _, rfl, Nat.le_refl _, by omega, .inl ⟨rfl, rfl⟩⟩
theorem Rdr.below {w w' : World} {p : Nat} {l : List UInt8} {bad : Bool} (h : Rdr w p l bad) (hb : Below w.heap.size w w') : Rdr w' p l bad := by
  obtain ⟨A, n, c, h1, h2, h3⟩ := h
  exact ⟨A, n, c, h1.below hb, h2.below hb, h3⟩
theorem rdr_new (l : List UInt8) (n c : Nat) (A : Option Addr) (w : World) (hl : l.length = n) (hr : Rd w A (Bs l)) (hn : n ≤ 1000000) :
    Calls Tryz.prog 29 #[.slice A n c] w fun e w' => ∃ p, e = .returned (.pointer (some ⟨p, 0, none⟩)) ∧ Rdr w' p l false ∧ w.heap.size ≤ p ∧ Below w.heap.size w w' := by
  have Hl := Lib.hid hl
  clear hl
  go_enter Tryz.func29, Tryz.ntmps29
  go_wp2_with (first | (at_builtin; refine hold ?_) | (at_make; refine hold ?_))
  (with_reducible refine unhold ?_)
  refine wpList_apd rfl _ _ _ rfl E8 w.heap.size none 0 0 [] rfl (Own.nil _ _ _ _) A n c (Bs l) rfl (by rw [List.length_map, Hl.out, Nat.mul_one]) hr (Bs_one l) n (Nat.zero_add _) (Bs l) rfl (by omega) (by omega) (Nat.le_refl _) ?_
  intro A1 c1 w1 ho1 hg1 _
  have hb1 : Below w.heap.size w w1 := (Below.refl _ _).grown hg1 (Nat.le_refl _) (fun k hk => by simp [Value.ownBlock] at hk)
  have hz1 := hb1.size
  have hcap := Own.cap ho1
  go_wp2_with fail
  go_ret
  have hbB : Below w1.heap.size w1 (w1.alloc (.cells #[.slice A1 n c1, .bool false] 94)) := (Below.refl _ _).alloc (Nat.le_refl _) _
  refine ⟨_, rfl, ⟨A1, n, c1, Blk.new w1 _ _, (OwnX.of_own (Own.below ho1 hbB)).lower (Nat.zero_le _), Hl.out, hcap.1, by have := hcap.2; unfold maxLen at this; omega, by
    rcases Own.lies ho1 with ⟨h, _, h', _⟩ | ⟨g, cur, h, _⟩
    · exact .inl ⟨h, h'⟩
    · exact .inr ⟨g, 0, h⟩⟩, hz1, hb1.trans (hbB.mono hz1)⟩

theorem rdr_bad (p : Nat) (l : List UInt8) (bad : Bool) (w : World) (h : Rdr w p l bad) : Calls Tryz.prog 31 #[.pointer (some ⟨p, 0, none⟩)] w fun e w' => e = .returned (.bool bad) ∧ w = w' := by
  obtain ⟨A, n, c, h1, _⟩ := h
  have k1 := h1.cell 1
  simp only [List.getElem?_cons_zero, List.getElem?_cons_succ] at k1
  clear h1
  go_enter Tryz.func31, Tryz.ntmps31
  go_wp2_with fail
  go_ret
  exact ⟨rfl, rfl⟩
theorem rdr_left (p : Nat) (l : List UInt8) (bad : Bool) (w : World) (h : Rdr w p l bad) : Calls Tryz.prog 32 #[.pointer (some ⟨p, 0, none⟩)] w fun e w' => e = .returned (.int .i64 (l.length : Nat)) ∧ w = w' := by
  obtain ⟨A, n, c, h1, _, rfl, _⟩ := h
  have k0 := h1.cell 0
  simp only [List.getElem?_cons_zero, List.getElem?_cons_succ] at k0
  generalize l.length = n at *
  clear h1
  go_enter Tryz.func32, Tryz.ntmps32
  go_wp2_with fail
  go_ret
  exact ⟨rfl, rfl⟩

theorem rdr_fail (p : Nat) (l : List UInt8) (bad : Bool) (w : World) (h : Rdr w p l bad) : Calls Tryz.prog 61 #[.pointer (some ⟨p, 0, none⟩)] w fun e w' => e = .returned (.tuple #[]) ∧ RdrBad w' p ∧ Keeps RdT p w w' := by
  obtain ⟨A, n, c, h1, _⟩ := h
  have k0 := h1.cell 0
  have k1 := h1.cell 1
  have f0 := h1.frozen 0
  have f1 := h1.frozen 1
  simp only [List.getElem?_cons_zero, List.getElem?_cons_succ] at k0 k1
  have h2 := h1.set_ 0 (.slice none 0 0)
  have h3 := h2.set_ 1 (.bool true)
  simp only [List.set_cons_zero, List.set_cons_succ] at h2 h3
  have hk2 : Keeps RdT p w (w.setCell ⟨p, 0, none⟩ (.slice none 0 0)) := (Keeps.refl _ _ _).setCell h1 (by simp) (Nat.le_refl _) _
  have hk3 : Keeps RdT p w ((w.setCell ⟨p, 0, none⟩ (.slice none 0 0)).setCell ⟨p, 1, none⟩ (.bool true)) := hk2.setCell h2 (by simp) (Nat.le_refl _) _
  have H3 := Lib.hid h3
  have Hk3 := Lib.hid hk3
  clear h1 h2 h3 hk2 hk3
  go_enter Tryz.func61, Tryz.ntmps61
  go_wp2_with fail
  go_end0
  exact ⟨rfl, H3.out, Hk3.out⟩

/-- The reader goes on by k bytes. -/
theorem Rdr.skip {w : World} {p b o n c : Nat} {l : List UInt8} {bad : Bool} (h1 : Blk w p 94 [.slice (some ⟨b, o, none⟩) n c, .bool bad]) (h2 : OwnX w 0 5 (some ⟨b, o, none⟩) n c (Bs l)) (hl : l.length = n) (hnc : n ≤ c) (hc : c ≤ 9223372036854775807) {k : Nat} (hk : k ≤ n) (q : Option Addr) (hq : if k = c then q = some ⟨b, o, none⟩ else q = some ⟨b, o + k, none⟩) :
    Rdr (w.setCell ⟨p, 0, none⟩ (.slice q (n - k) (c - k))) p (l.drop k) bad ∧ Keeps RdT p w (w.setCell ⟨p, 0, none⟩ (.slice q (n - k) (c - k))) := by
  have h3 := h1.set_ 0 (.slice q (n - k) (c - k))
  simp only [List.set_cons_zero] at h3
  have hk2 : Keeps RdT p w (w.setCell ⟨p, 0, none⟩ (.slice q (n - k) (c - k))) := (Keeps.refl _ _ _).setCell h1 (by simp) (Nat.le_refl _) _
  refine ⟨⟨q, n - k, c - k, h3, ?_, by rw [List.length_drop, hl], by omega, by omega, .inr (by split at hq <;> exact ⟨_, _, hq⟩)⟩, hk2⟩
  split at hq
  · rename_i hkc
    have hn : n = k := by omega
    subst hq
    have : l.drop k = [] := List.drop_eq_nil_of_le (by omega)
    have h4 := h2.dropAll.keeps (T := RdT) (B := p) (by decide) hk2
    have e1 : n - k = 0 := by omega
    have e2 : c - k = 0 := by omega
    rw [e1, e2] at h4
    rw [this, e1, e2]
    exact h4
  · subst hq
    have := (h2.drop hk).keeps (by decide) hk2
    rw [← List.map_drop] at this
    exact this

theorem Rdr.far {w : World} {p g i : Nat} {l : List UInt8} {bad : Bool} {t : TypeId} {xs : List Value} (h : Rdr w p l bad) (hg : Blk w g t xs) (h1t : t ≠ 94) (h2t : t ≠ 5) (u : Value) : Rdr (w.setCell ⟨g, i, none⟩ u) p l bad := by
  obtain ⟨A, n, c, h1, h2, h3⟩ := h
  have hk : Keeps [t] 0 w (w.setCell ⟨g, i, none⟩ u) := (Keeps.refl _ _ _).setCell hg (by simp) (Nat.zero_le _) u
  exact ⟨A, n, c, h1.keeps (by simp [Ne.symm h1t]) hk, h2.keeps (by simp [Ne.symm h2t]) hk, h3⟩
theorem or_byte {v c : Nat} (hv : v < 72057594037927936) (hc : c < 256) : bits .or .u64 ((v * 256 : Nat) : Int) ((c : Nat) : Int) = ((v * 256 + c : Nat) : Int) := by
  rw [u64_or_nat _ _ (by omega) (by omega)]
  have : v * 256 ||| c = v * 256 + c := by
    rw [show v * 256 = v <<< 8 from by rw [Nat.shiftLeft_eq], ← Nat.shiftLeft_add_eq_or_of_lt (by omega)]
  rw [this]
theorem valB_take {t : List UInt8} {j : Nat} (hj : j < t.length) : valB (t.take (j + 1)) = valB (t.take j) * 256 + t[j].toNat := by
  rw [List.take_succ_eq_append_getElem hj, valB_snoc]
theorem valB_small {t : List UInt8} {j : Nat} (hj : j ≤ 7) : valB (t.take j) < 72057594037927936 := by
  have h := valB_lt (t.take j)
  refine Nat.lt_of_lt_of_le h (Nat.le_trans (Nat.pow_le_pow_right (by decide) (show (t.take j).length ≤ 7 by rw [List.length_take]; omega)) (by decide +kernel))
theorem valB_small8 {t : List UInt8} {j : Nat} (hj : j ≤ 8) : valB (t.take j) < 18446744073709551616 := by
  have h := valB_lt (t.take j)
  refine Nat.lt_of_lt_of_le h (Nat.le_trans (Nat.pow_le_pow_right (by decide) (show (t.take j).length ≤ 8 by rw [List.length_take]; omega)) (by decide +kernel))
end Go.Proofs.YtojppmnmhdgnnaaGreat
