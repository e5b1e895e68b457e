/- Words for memory, on: a slice of the call's own that begins anywhere in its block, and what a call may have turned: blocks of a set, and a store's. -/
import Derived.Test.YtcadjekcdokkjaaGreatMBaCr
import Derived.Test.YtcadjekcdokkjaaGreatMArIn
import Derived.Deep.AppendSrc
import Derived.ArgAppend
namespace Go.Proofs.YtcadjekcdokkjaaGreat
set_option linter.unusedVariables false
set_option linter.unusedSimpArgs false
open Go.RowKit
structure Turns (S : Nat → Prop) (T : List TypeId) (B : Nat) (w w' : World) : Prop where
 os : w'.os = w.os
 tape : w'.tape = w.tape
 output : w'.output = w.output
 size : w.heap.size ≤ w'.heap.size
 block : ∀ k, k < w.heap.size → ¬ S k → (k < B ∨ ∀ c t f, w.heap[k]? = some (.cells c t f) → t ∉ T) → w'.heap[k]? = w.heap[k]?
namespace Turns
variable {S : Nat → Prop} {T : List TypeId} {B : Nat} {w w' w'' : World}
theorem refl (S : Nat → Prop) (T : List TypeId) (B : Nat) (w : World) : Turns S T B w w := ⟨rfl, rfl, rfl, Nat.le_refl _, fun _ _ _ _ => rfl⟩
theorem trans (h : Turns S T B w w') (k : Turns S T B w' w'') : Turns S T B w w'' :=
 ⟨k.os.trans h.os, k.tape.trans h.tape, k.output.trans h.output, Nat.le_trans h.size k.size, fun i hi hs ht => by
  have e := h.block i hi hs ht
  rw [k.block i (Nat.lt_of_lt_of_le hi h.size) hs (by rw [e]; exact ht), e]⟩
theorem of_keeps (h : Keeps T B w w') : Turns S T B w w' := ⟨h.os, h.tape, h.output, h.size, fun k hk _ ht => h.block k hk ht⟩
theorem of_below (h : Below w.heap.size w w') : Turns S T B w w' := ⟨h.os, h.tape, h.output, h.size, fun k hk _ _ => h.block k hk⟩
theorem of_grown {row : Option Nat} (h : w.grownBy w' row) (hr : ∀ k, row = some k → S k) : Turns S T B w w' :=
 ⟨h.os, h.tape, h.output, h.size, fun k hk hs _ => h.block k hk fun e => hs (hr k e.symm)⟩
theorem setCell (w : World) {g i : Nat} (hs : S g) (u : Value) : Turns S T B w (w.setCell ⟨g, i, none⟩ u) :=
 ⟨rfl, rfl, rfl, by simp [World.setCell], fun k _ hn _ => heap_setCell_other w _ k u (fun e => hn (by rw [e]; exact hs))⟩
theorem drewN (h : Turns S T B w w') (n : Nat) : Turns S T B w (w'.drewN n) := ⟨h.os, h.tape, h.output, h.size, h.block⟩
theorem more {S' : Nat → Prop} (h : Turns S T B w w') (hs : ∀ k, k < w.heap.size → S k → S' k) : Turns S' T B w w' :=
 ⟨h.os, h.tape, h.output, h.size, fun k hk hn ht => h.block k hk (fun hh => hn (hs k hk hh)) ht⟩
theorem keeps (h : Turns S T B w w') (hs : ∀ k, S k → w.heap.size ≤ k) : Keeps T B w w' :=
 ⟨h.os, h.tape, h.output, h.size, fun k hk ht => h.block k hk (fun hh => Nat.not_lt.2 (hs k hh) hk) ht⟩
theorem below {M : Nat} (h : Turns S T B w w') (hs : ∀ k, S k → M ≤ k) (hM : M ≤ w.heap.size) (hB : M ≤ B) : Below M w w' :=
 ⟨h.os, h.tape, h.output, h.size, fun k hk => h.block k (by omega) (fun hh => Nat.not_lt.2 (hs k hh) hk) (.inl (by omega))⟩
end Turns
theorem Blk.turns {S : Nat → Prop} {T : List TypeId} {B : Nat} {w w' : World} {g : Nat} {t : TypeId} {xs : List Value} (h : Blk w g t xs) (hs : ¬ S g) (ht : t ∉ T) (hk : Turns S T B w w') : Blk w' g t xs :=
 h.of_heap (hk.block g h.lt hs (.inr fun c t' f e m => by
  unfold Blk at h
  rw [h] at e
  injection e with e
  injection e with _ e
  exact ht (e ▸ m)))
def InS (S : Nat → Prop) (A : Option Addr) : Prop := ∀ b o, A = some ⟨b, o, none⟩ → S b
theorem InS.nil (S : Nat → Prop) : InS S none := fun _ _ h => by cases h
theorem Own.turns {S : Nat → Prop} {T : List TypeId} {B : Nat} {w w' : World} {base : Nat} {e : TypeId} {size : Nat} {A : Option Addr} {n c : Nat} {xs : List Value} (h : Own w base e size A n c xs) (ht : e ∉ T) (hs : ∀ b o, A = some ⟨b, o, none⟩ → ¬ S b) (hk : Turns S T B w w') : Own w' base e size A n c xs := by
 refine ⟨h.1, ?_⟩
 rcases h.2 with hn | ⟨g, cap, cur, hv, hg, hh, rest⟩
 ·exact .inl hn
 ·injection hv with hv1 hv2 hv3
  refine .inr ⟨g, cap, cur, by rw [hv1, hv3], hg, ?_, rest⟩
  rw [hk.block g (Array.getElem?_eq_some_iff.1 hh).1 (hs g 0 hv1) (.inr fun c t' f e' m => by
   rw [hh] at e'
   injection e' with e'
   injection e' with _ e'
   exact ht (e' ▸ m))]
  exact hh
/-! ### Slices of the call's own that begin anywhere -/
def OwnX (w : World) (base : Nat) (e : TypeId) (A : Option Addr) (n c : Nat) (xs : List Value) : Prop :=
 (A = none ∧ n = 0 ∧ c = 0 ∧ xs = []) ∨ ∃ g off ys, A = some ⟨g, off, none⟩ ∧ base ≤ g ∧ Blk w g e ys ∧ n ≤ c ∧ c ≤ maxLen ∧ off + c ≤ ys.length ∧ (ys.drop off).take n = xs
namespace OwnX
variable {w w' : World} {base : Nat} {e : TypeId} {A : Option Addr} {n c : Nat} {xs : List Value}
theorem nil (w : World) (base : Nat) (e : TypeId) : OwnX w base e none 0 0 [] := .inl ⟨rfl, rfl, rfl, rfl⟩
theorem of_own (h : Own w base e 1 A n c xs) : OwnX w base e A n c xs := by
 rcases h.2 with ⟨hv, h0⟩ | ⟨g, cap, cur, hv, hg, hh, hnc, hcm, hcs, ht⟩
 ·injection hv with h1 h2 h3
  have hl := h.1
  rw [h0] at hl
  refine .inl ⟨h1, h0, h3, List.eq_nil_of_length_eq_zero (by simpa using hl)⟩
 ·injection hv with h1 h2 h3
  subst h1
  subst h3
  rw [Nat.mul_one] at hcs ht
  refine .inr ⟨g, 0, cur.toList, rfl, hg, ?_, hnc, hcm, ?_, by rw [List.drop_zero]; exact ht⟩
  ·unfold Blk
   rw [hh]
  ·rw [Array.length_toList, hcs]
   omega
theorem cap (h : OwnX w base e A n c xs) : n ≤ c ∧ c ≤ maxLen := by
 rcases h with ⟨_, rfl, rfl, _⟩ | ⟨g, off, ys, _, _, _, h1, h2, _⟩
 ·exact ⟨Nat.le_refl _, Nat.zero_le _⟩
 ·exact ⟨h1, h2⟩
theorem len (h : OwnX w base e A n c xs) : xs.length = n := by
 rcases h with ⟨_, rfl, rfl, rfl⟩ | ⟨g, off, ys, _, _, _, h1, h2, h3, rfl⟩
 ·rfl
 ·rw [List.length_take, List.length_drop]
  omega
theorem rd (h : OwnX w base e A n c xs) : Rd w A xs := by
 rcases h with ⟨_, rfl, rfl, rfl⟩ | ⟨g, off, ys, rfl, _, hb, _, _, _, rfl⟩
 ·exact Rd.nil _ _
 ·have := Rd.part hb.range off n
  rw [Nat.zero_add] at this
  exact Rd.of_range this
theorem below (h : OwnX w base e A n c xs) (hb : Below w.heap.size w w') : OwnX w' base e A n c xs := by
 rcases h with h | ⟨g, off, ys, h1, h2, h3, h4⟩
 ·exact .inl h
 ·exact .inr ⟨g, off, ys, h1, h2, h3.below hb, h4⟩
theorem keeps {T : List TypeId} {B : Nat} (h : OwnX w base e A n c xs) (ht : e ∉ T) (hk : Keeps T B w w') : OwnX w' base e A n c xs := by
 rcases h with h | ⟨g, off, ys, h1, h2, h3, h4⟩
 ·exact .inl h
 ·exact .inr ⟨g, off, ys, h1, h2, h3.keeps ht hk, h4⟩
theorem turns {S : Nat → Prop} {T : List TypeId} {B : Nat} (h : OwnX w base e A n c xs) (ht : e ∉ T) (hs : ∀ b o, A = some ⟨b, o, none⟩ → ¬ S b) (hk : Turns S T B w w') : OwnX w' base e A n c xs := by
 rcases h with h | ⟨g, off, ys, h1, h2, h3, h4⟩
 ·exact .inl h
 ·exact .inr ⟨g, off, ys, h1, h2, h3.turns (hs g off h1) ht hk, h4⟩
theorem lower {base' : Nat} (h : OwnX w base e A n c xs) (hb : base' ≤ base) : OwnX w base' e A n c xs := by
 rcases h with h | ⟨g, off, ys, h1, h2, h3⟩
 ·exact .inl h
 ·exact .inr ⟨g, off, ys, h1, by omega, h3⟩
theorem apx_keeps (h : OwnX w base e A n c xs) (hg : w.grownBy w' (A.map (·.block))) : Keeps [e] base w w' := by
 refine ⟨hg.os, hg.tape, hg.output, hg.size, fun k hk hn => hg.block k hk fun er => ?_⟩
 rcases h with ⟨rfl, _⟩ | ⟨g, off, ys, rfl, hb, hh, _⟩
 ·cases er
 ·injection er with er
  change k = g at er
  subst er
  rcases hn with hn | hn
  ·omega
  ·exact absurd (List.mem_singleton.2 rfl) (hn _ _ _ hh)
theorem take (h : OwnX w base e A n c xs) {k : Nat} (hk : k ≤ n) : OwnX w base e A k c (xs.take k) := by
 rcases h with ⟨rfl, rfl, rfl, rfl⟩ | ⟨g, off, ys, rfl, h2, h3, h4, h5, h6, rfl⟩
 ·obtain rfl : k = 0 := by omega
  exact .inl ⟨rfl, rfl, rfl, rfl⟩
 ·refine .inr ⟨g, off, ys, rfl, h2, h3, by omega, h5, h6, ?_⟩
  rw [List.take_take, Nat.min_eq_left hk]
theorem drop {g off : Nat} (h : OwnX w base e (some ⟨g, off, none⟩) n c xs) {k : Nat} (hk : k ≤ n) : OwnX w base e (some ⟨g, off + k, none⟩) (n - k) (c - k) (xs.drop k) := by
 rcases h with ⟨h, _⟩ | ⟨g', off', ys, h1, h2, h3, h4, h5, h6, rfl⟩
 ·cases h
 ·injection h1 with h1
  injection h1 with e1 e2
  subst e1; subst e2
  refine .inr ⟨g, off + k, ys, rfl, h2, h3, by omega, by omega, by omega, ?_⟩
  rw [List.drop_take, List.drop_drop]
theorem dropAll {g off : Nat} (h : OwnX w base e (some ⟨g, off, none⟩) n c xs) : OwnX w base e (some ⟨g, off, none⟩) 0 0 [] := by
 rcases h with ⟨h, _⟩ | ⟨g', off', ys, h1, h2, h3, h4, h5, h6, rfl⟩
 ·cases h
 ·injection h1 with h1
  injection h1 with e1 e2
  subst e1; subst e2
  exact .inr ⟨g, off, ys, rfl, h2, h3, by omega, by omega, by omega, by simp⟩
theorem at_ (h : OwnX w base e A n c xs) (hn : 0 < n) : ∃ g off, A = some ⟨g, off, none⟩ ∧ base ≤ g ∧ w.rangeAt g off xs := by
 have hl := h.len
 have hr := h.rd
 rcases h with ⟨_, rfl, _⟩ | ⟨g, off, ys, rfl, h2, _⟩
 ·omega
 ·obtain ⟨g', o', e1, hr⟩ := hr (by intro h0; rw [h0] at hl; simp at hl; omega)
  injection e1 with e1
  injection e1 with e1 e2
  subst e1; subst e2
  exact ⟨g, off, rfl, h2, hr⟩
end OwnX
theorem Blk.sets3 {g : Nat} {t : TypeId} : ∀ (vs : List Value) (off : Nat) (ys : List Value) (w : World), Blk w g t ys → off + vs.length ≤ ys.length → Blk (w.setCells g off vs) g t (ys.take off ++ vs ++ ys.drop (off + vs.length))
 | [], off, ys, w, h, _ => by
  rw [World.setCells, List.append_nil, List.length_nil, Nat.add_zero, List.take_append_drop]
  exact h
 | v :: vs, off, ys, w, h, hl => by
  rw [List.length_cons] at hl
  have h1 := Blk.sets3 vs (off + 1) _ _ (h.set_ off v) (by rw [List.length_set]; omega)
  rw [World.setCells]
  have e : (ys.set off v).take (off + 1) ++ vs ++ (ys.set off v).drop (off + 1 + vs.length) = ys.take off ++ (v :: vs) ++ ys.drop (off + (v :: vs).length) := by
   rw [List.take_succ_eq_append_getElem (by rw [List.length_set]; omega), List.take_set_of_le (Nat.le_refl _), List.getElem_set_self, List.drop_set_of_lt (by omega), List.length_cons, show off + (vs.length + 1) = off + 1 + vs.length from by omega]
   simp
  rw [e] at h1
  exact h1
theorem grown_setCells (w : World) (g off : Nat) (vs : List Value) : w.grownBy (w.setCells g off vs) (some g) := by
 obtain ⟨h1, h2, h3⟩ := same_setCells g vs off w
 exact ⟨h1, h2, h3, by rw [size_setCells]; exact Nat.le_refl _, fun k _ hn => heap_setCells_other g k (fun e => hn (by rw [e])) vs off w⟩
def LiesAt (w : World) (A A' : Option Addr) : Prop := (∃ g o o', A = some ⟨g, o, none⟩ ∧ A' = some ⟨g, o', none⟩) ∨ A' = none ∨ ∃ g o', w.heap.size ≤ g ∧ A' = some ⟨g, o', none⟩
theorem LiesAt.inS {w : World} {A A' : Option Addr} {S : Nat → Prop} (h : LiesAt w A A') (hA : InS S A) (hy : ∀ k, w.heap.size ≤ k → S k) : InS S A' := by
 intro b o hb
 rcases h with ⟨g, o1, o2, h1, h2⟩ | h | ⟨g, o1, hg, h⟩
 ·rw [h2] at hb
  injection hb with hb
  injection hb with hb _
  rw [← hb]
  exact hA g o1 h1
 ·rw [h] at hb
  cases hb
 ·rw [h] at hb
  injection hb with hb
  injection hb with hb _
  exact hy b (by omega)
section
variable {P : Program}
theorem run_apx (w : World) {t e : TypeId} {bytes : Nat} {z : Value} (E : ElemT P t e 1 bytes z) (ty : TypeId) (base : Nat) (A : Option Addr) (n c : Nat) (xs : List Value) (hown : OwnX w base e A n c xs)
  (X : Option Addr) (m k : Nat) (news : List Value) (hl : news.length = m) (hr : Rd w X news) (h1 : ∀ u ∈ news, u.oneCell' = true)
  (hbytes : (n + m) * bytes ≤ 140737488355328) (hb0 : 0 < bytes) (hbase : base ≤ w.heap.size) :
  ∃ A' c' w', (Builtin.append_ #[t, t] ty #[.slice A n c, .slice X m k]).run P w = .ok (.slice A' (n + m) c') w' ∧ OwnX w' base e A' (n + m) c' (xs ++ news) ∧ w.grownBy w' (A.map (·.block)) ∧ LiesAt w A A' := by
 have hxl := hown.len
 have hxr := hown.rd
 rcases hown with ⟨rfl, rfl, rfl, rfl⟩ | ⟨g, off, ys, rfl, hg, hb, hnc, hcm, hoc, hx⟩
 ·obtain ⟨A', c', w', hrun, ho, hgr, hat⟩ := run_apd (P := P) w E ty base none 0 0 [] (Own.nil _ _ _ _) X m k news (by omega) hr h1 hbytes hb0 hbase
  refine ⟨A', c', w', hrun, OwnX.of_own ho, hgr, ?_⟩
  rcases ho.lies with ⟨h, _⟩ | ⟨g, cur, h, _⟩
  ·exact .inr (.inl h)
  ·subst h
   rcases hat with hat | hat
   ·simp [Value.ownBlock] at hat
   ·simp [Value.ownBlock] at hat
    exact .inr (.inr ⟨_, 0, Nat.le_of_eq hat.symm, rfl⟩)
 ·obtain ⟨hu, ⟨i, hi, hz, hs, hby⟩, hzs, hp⟩ := E
  by_cases hroom : n + m ≤ c
  ·have hend : off + n + news.length ≤ ys.length := by omega
   have hsrc : Src P i.size t (.slice X m k) m news w := by
    rw [hs]
    rcases X with _ | ad
    ·have hn0 : news = [] := by
      refine Classical.byContradiction fun hne => ?_
      obtain ⟨b, o, h, _⟩ := hr hne
      cases h
     subst hn0
     obtain rfl : m = 0 := by simpa using hl.symm
     exact Src.ofNil w hu k
    ·refine Src.ofSlice w hu ad m k news (by omega) (fun j u hj => ?_) h1
     obtain ⟨b, o, h, hr2⟩ := hr (by intro h0; rw [h0] at hj; simp at hj)
     injection h with h
     subst h
     rw [Addr.add_mid]
     exact hr2 j u hj
   have hrun := run_append_room_src (P := P) w t t ty e i hu hi g off n c (.slice X m k) m news hsrc hroom (fun j hj => by
    rw [hs, Nat.mul_one, hb.cell, List.getElem?_eq_getElem (by omega)]
    rfl) (fun j hj => hb.frozen _)
   rw [hs, Nat.mul_one] at hrun
   refine ⟨_, _, _, hrun, .inr ⟨g, off, _, rfl, hg, Blk.sets3 news (off + n) ys w hb hend, hroom, hcm, ?_, ?_⟩, grown_setCells w g (off + n) news, .inl ⟨g, off, off, rfl, rfl⟩⟩
   ·rw [List.length_append, List.length_append, List.length_take, List.length_drop]
    omega
   ·rw [← hx, List.append_assoc, List.drop_append_of_le_length (by rw [List.length_take]; omega), ← List.append_assoc, List.drop_take, show off + n - off = n from by omega]
    exact List.take_left' (by rw [List.length_append, List.length_take, List.length_drop, hl]; omega)
  ·rcases X with _ | ad
   ·exfalso
    have hn0 : news = [] := by
     refine Classical.byContradiction fun hne => ?_
     obtain ⟨b, o, h, _⟩ := hr hne
     cases h
    subst hn0
    have : m = 0 := by simpa using hl.symm
    omega
   ·have h63 : n + m ≤ maxLen := by
     have : n + m ≤ (n + m) * bytes := Nat.le_mul_of_pos_right _ hb0
     simp only [maxLen]
     omega
    obtain ⟨v', w', hrun, ho, hgr⟩ := run_append_arg_grows (P := P) w t ty e i z 1 bytes hu hi hz hs hby hzs hp ⟨g, off, none⟩ n c xs (by omega) (fun j u hj => by
     obtain ⟨b', o', h, hr'⟩ := hxr (by intro h0; rw [h0] at hj; simp at hj)
     injection h with h
     injection h with e1 e2
     subst e1; subst e2
     rw [Addr.add_mid]
     exact hr' j u hj) ad m k news (by omega) (fun j u hj => by
     obtain ⟨b, o, h, hr2⟩ := hr (by intro h0; rw [h0] at hj; simp at hj)
     injection h with h
     subst h
     rw [Addr.add_mid]
     exact hr2 j u hj) (by omega) h63 hbytes
    have hv : ∃ A' c', v' = .slice A' (n + m) c' := by
     rcases ho.2 with ⟨hv, h0⟩ | ⟨g, cap, cur, hv, _⟩
     ·exact ⟨none, 0, by rw [hv, h0]⟩
     ·exact ⟨_, _, hv⟩
    obtain ⟨A', c', rfl⟩ := hv
    refine ⟨A', c', w', hrun, (OwnX.of_own ho).lower hbase, ⟨hgr.os, hgr.tape, hgr.output, hgr.size, fun j hj _ => hgr.block j hj (by simp)⟩, ?_⟩
    rcases Own.lies (A := A') (c := c') ho with ⟨h, _⟩ | ⟨g', cur, h, hg', hlt, _⟩
    ·exact .inr (.inl h)
    ·exact .inr (.inr ⟨g', 0, hg', h⟩)
theorem wp_apx {o : Oper} {a : Act} {w : World} {K : Act → World → Prop} {Q : Exit → Act → World → Prop} (s x : Operand) (t : TypeId)
  (ho : o.op = .call { callee := .builtin .append, args := #[s, x], argTypes := #[t, t] })
  {e : TypeId} {bytes : Nat} {z : Value} (E : ElemT P t e 1 bytes z) (base : Nat) (A : Option Addr) (n c : Nat) (xs : List Value) (hs : a.eval s = .slice A n c) (hown : OwnX w base e A n c xs)
  (X : Option Addr) (m k : Nat) (news : List Value) (hx : a.eval x = .slice X m k) (hl : news.length = m) (hr : Rd w X news) (h1 : ∀ u ∈ news, u.oneCell' = true)
  (N : Nat) (hN : n + m = N) (ys : List Value) (hys : xs ++ news = ys) (hbytes : N * bytes ≤ 140737488355328) (hb0 : 0 < bytes) (hbase : base ≤ w.heap.size)
  (h : ∀ A' c' w', OwnX w' base e A' N c' ys → w.grownBy w' (A.map (·.block)) → LiesAt w A A' → K (a.put o.dst (.slice A' N c')) w') : o.wp P a w K Q := by
 subst hN
 subst hys
 obtain ⟨A', c', w', hrun, h2, h3, h4⟩ := run_apx (P := P) w E o.type base A n c xs hown X m k news hl hr h1 hbytes hb0 hbase
 unfold Oper.wp execOp
 simp only [ho, resolve, invoke, builtin, Sem.run_bind, Sem.run_pure, Result.andThen_ok, List.map_toArray, List.map_cons, List.map_nil, hs, hx, hrun]
 exact h A' c' w' h2 h3 h4
theorem wpList_apx {ops : Array Oper} {rest : List Oper} {o : Oper} {a : Act} {w : World} {Q : Exit → Act → World → Prop} (hgd : o.guard = none) (s x : Operand) (t : TypeId)
  (ho : o.op = .call { callee := .builtin .append, args := #[s, x], argTypes := #[t, t] })
  {e : TypeId} {bytes : Nat} {z : Value} (E : ElemT P t e 1 bytes z) (base : Nat) (A : Option Addr) (n c : Nat) (xs : List Value) (hs : a.eval s = .slice A n c) (hown : OwnX w base e A n c xs)
  (X : Option Addr) (m k : Nat) (news : List Value) (hx : a.eval x = .slice X m k) (hl : news.length = m) (hr : Rd w X news) (h1 : ∀ u ∈ news, u.oneCell' = true)
  (N : Nat) (hN : n + m = N) (ys : List Value) (hys : xs ++ news = ys) (hbytes : N * bytes ≤ 140737488355328) (hb0 : 0 < bytes) (hbase : base ≤ w.heap.size)
  (h : ∀ A' c' w', OwnX w' base e A' N c' ys → w.grownBy w' (A.map (·.block)) → LiesAt w A A' → wpList P ops Q rest (a.put o.dst (.slice A' N c')) w') : wpList P ops Q (o :: rest) a w :=
 wpList_plain hgd fun _ hK => wp_apx s x t ho E base A n c xs hs hown X m k news hx hl hr h1 N hN ys hys hbytes hb0 hbase fun A' c' w' h2 h3 h4 => hK _ _ (h A' c' w' h2 h3 h4)
theorem step_apx {ops : Array Oper} {o : Oper} {a : Act} {w : World} {K : Act → World → Prop} {Q : Exit → Act → World → Prop} {G : Prop} (hgd : o.guard = none) (s x : Operand) (t : TypeId)
  (ho : o.op = .call { callee := .builtin .append, args := #[s, x], argTypes := #[t, t] })
  {e : TypeId} {bytes : Nat} {z : Value} (E : ElemT P t e 1 bytes z) (base : Nat) (A : Option Addr) (n c : Nat) (xs : List Value) (hs : a.eval s = .slice A n c) (hown : OwnX w base e A n c xs)
  (X : Option Addr) (m k : Nat) (news : List Value) (hx : a.eval x = .slice X m k) (hl : news.length = m) (hr : Rd w X news) (h1 : ∀ u ∈ news, u.oneCell' = true)
  (N : Nat) (hN : n + m = N) (ys : List Value) (hys : xs ++ news = ys) (hbytes : N * bytes ≤ 140737488355328) (hb0 : 0 < bytes) (hbase : base ≤ w.heap.size)
  (h : ∀ A' c' w', OwnX w' base e A' N c' ys → w.grownBy w' (A.map (·.block)) → LiesAt w A A' → K (a.put o.dst (.slice A' N c')) w') :
  if Region.wanted o (yielded ops a.tmps) = true then Oper.wp P o a w K Q else G := by
 have hw : Region.wanted o (yielded ops a.tmps) = true := by simp [Region.wanted, hgd]
 rw [if_pos hw]
 exact wp_apx s x t ho E base A n c xs hs hown X m k news hx hl hr h1 N hN ys hys hbytes hb0 hbase h
end
end Go.Proofs.YtcadjekcdokkjaaGreat
