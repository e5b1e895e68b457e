/- Which pages are taken, and by whom: a plain law, with no program in sight. Three writers and files over one store: who holds which blocks, and which pages. Owners of blocks, side by side: each block bears the colour of its owner. Walks: a purse, and how much rows count. -/
import Derived.Test.YtcadjekcdokkjaaGreatMSpSMH
import Derived.Test.YtcadjekcdokkjaaGreatMSpDU
import Derived.Test.YtcadjekcdokkjaaGreatMSrM
import Derived.BigRegion
namespace Go.Proofs.YtcadjekcdokkjaaGreat
set_option linter.unusedVariables false
set_option linter.unusedSimpArgs false
open Go.RowKit
namespace Pg
structure Has (s : St) (A : List Nat) : Prop where
 nodup : A.Nodup
 at_ : ∀ i ∈ A, ∃ x, s[i]? = some (some x)
 used : used s = A.length
namespace Has
variable {s s' : St} {A A' l l' M : List Nat}
theorem perm (h : Has s A) (p : A.Perm A') : Has s A' := ⟨p.nodup_iff.1 h.nodup, fun i hi => h.at_ i (p.mem_iff.2 hi), by rw [h.used, p.length_eq]⟩
theorem none_ (n : Nat) : Has (List.replicate n none) [] := ⟨List.nodup_nil, fun i h => by simp at h, by simp [Pg.used]⟩
theorem lt (h : Has s A) : ∀ i ∈ A, i < s.length := fun i hi => by
 obtain ⟨x, hx⟩ := h.at_ i hi
 exact (List.getElem?_eq_some_iff.1 hx).1
theorem le (h : Has s A) : A.length ≤ s.length := by
 rw [← h.used]
 exact used_le s
theorem drop : ∀ (l : List Nat) {s : St}, Has s (l ++ M) → Has (dropS s (l.map Int.ofNat)) M
 | [], _, h => h
 | i :: l, s, h => by
  have hi := h.at_ i (by simp)
  obtain ⟨x, hx⟩ := hi
  have hf : freeS s (i : Int) = s.set i none := by
   unfold freeS
   rw [at_nat, hx]
   rfl
  have hn := List.nodup_cons.1 h.nodup
  have e : dropS s ((i :: l).map Int.ofNat) = dropS (s.set i none) (l.map Int.ofNat) := by
   show dropS (freeS s (i : Int)) _ = _
   rw [hf]
  rw [e]
  refine drop l ⟨hn.2, fun j hj => ?_, ?_⟩
  ·rw [List.getElem?_set_ne (fun e => hn.1 (by rw [e]; exact hj))]
   exact h.at_ j (List.mem_cons_of_mem _ hj)
  ·have h1 := used_drop hx
   have h2 := h.used
   rw [List.cons_append, List.length_cons] at h2
   omega
end Has
def tot (P : Nat → List Nat) : List Nat := P 0 ++ (P 1 ++ P 2)
end Pg
end Go.Proofs.YtcadjekcdokkjaaGreat
namespace Go.Proofs.YtcadjekcdokkjaaGreat
set_option linter.unusedVariables false
set_option linter.unusedSimpArgs false
open Go.RowKit
namespace WrAt
variable {w w' : World} {S S' T : Nat → Prop} {B bs bw : Nat} {l : List Nat} {k ic : Nat} {I : Option Addr} {rest : List UInt8} {n rc : Nat} {R : Option Addr} {many : Int} {ended : Bool}
theorem wide (h : WrAt w S bs bw l k ic I rest n rc R many ended) (hs : ∀ j, S j → S' j) : WrAt w S' bs bw l k ic I rest n rc R many ended :=
 ⟨hs _ h.sw, h.blk, h.ids, fun b o e => hs _ (h.inI b o e), h.rst, fun b o e => hs _ (h.inR b o e)⟩
theorem bound (h : WrAt w S bs bw l k ic I rest n rc R many ended) : WrAt w (fun j => S j ∧ j < w.heap.size) bs bw l k ic I rest n rc R many ended := by
 refine ⟨⟨h.sw, h.blk.lt⟩, h.blk, h.ids, fun b o e => ⟨h.inI b o e, ?_⟩, h.rst, fun b o e => ⟨h.inR b o e, ?_⟩⟩
 ·rcases h.ids.lies with ⟨ha, _⟩ | ⟨g, cur, ha, _, hlt, _⟩
  ·rw [ha] at e; cases e
  ·rw [ha] at e; injection e with e; injection e with e _; rw [← e]; exact hlt
 ·rcases h.rst with ⟨ha, _⟩ | ⟨g, off, ys, ha, _, hk, _⟩
  ·rw [ha] at e; cases e
  ·rw [ha] at e; injection e with e; injection e with e _; rw [← e]; exact hk.lt
theorem turns (h : WrAt w S bs bw l k ic I rest n rc R many ended) (hd : ∀ j, S j → ¬ T j) (hk : Turns T StT B w w') : WrAt w' S bs bw l k ic I rest n rc R many ended :=
 ⟨h.sw, h.blk.turns (hd _ h.sw) (by decide) hk, Own.turns h.ids (by decide) (fun b o e => hd _ (h.inI b o e)) hk, h.inI, h.rst.turns (by decide) (fun b o e => hd _ (h.inR b o e)) hk, h.inR⟩
end WrAt
namespace FiAt
variable {w w' : World} {S S' T : Nat → Prop} {B bs bf : Nat} {l : List Nat} {k ic : Nat} {I : Option Addr} {many : Int}
theorem wide (h : FiAt w S bs bf l k ic I many) (hs : ∀ j, S j → S' j) : FiAt w S' bs bf l k ic I many := ⟨hs _ h.sf, h.blk, h.ids, fun b o e => hs _ (h.inI b o e)⟩
theorem bound (h : FiAt w S bs bf l k ic I many) : FiAt w (fun j => S j ∧ j < w.heap.size) bs bf l k ic I many := by
 refine ⟨⟨h.sf, h.blk.lt⟩, h.blk, h.ids, fun b o e => ⟨h.inI b o e, ?_⟩⟩
 rcases h.ids.lies with ⟨ha, _⟩ | ⟨g, cur, ha, _, hlt, _⟩
 ·rw [ha] at e; cases e
 ·rw [ha] at e; injection e with e; injection e with e _; rw [← e]; exact hlt
theorem turns (h : FiAt w S bs bf l k ic I many) (hd : ∀ j, S j → ¬ T j) (hk : Turns T StT B w w') : FiAt w' S bs bf l k ic I many :=
 ⟨h.sf, h.blk.turns (hd _ h.sf) (by decide) hk, Own.turns h.ids (by decide) (fun b o e => hd _ (h.inI b o e)) hk, h.inI⟩
end FiAt
def Wr (w : World) (S : Nat → Prop) (bs bw : Nat) (P : List Nat) (j : Nat) : Prop :=
 ∃ (l : List Nat) (k ic : Nat) (I : Option Addr) (rest : List UInt8) (n rc : Nat) (R : Option Addr) (many : Nat) (ended : Bool), WrAt w S bs bw l k ic I rest n rc R (many : Int) ended ∧ many ≤ j ∧ ((ended = false ∧ P = l ∧ n < 56) ∨ (ended = true ∧ P = []))
def Fi (w : World) (S : Nat → Prop) (bs bf : Nat) (l : List Nat) : Prop := ∃ (k ic : Nat) (I : Option Addr) (many : Int), FiAt w S bs bf l k ic I many
section
variable {w w' : World} {S S' T : Nat → Prop} {B bs bw : Nat} {P : List Nat} {j j' : Nat}
end
def Of (w : World) (col : Nat → Nat) (c : Nat) : Nat → Prop := fun i => col i = c ∧ i < w.heap.size
def paint (w : World) (col : Nat → Nat) (c : Nat) : Nat → Nat := fun i => if i < w.heap.size then col i else c
theorem paint_old {w : World} {col : Nat → Nat} {c i : Nat} (h : i < w.heap.size) : paint w col c i = col i := if_pos h
theorem paint_new {w : World} {col : Nat → Nat} {c i : Nat} (h : w.heap.size ≤ i) : paint w col c i = c := if_neg (by omega)
theorem Of.paint {w w' : World} {col : Nat → Nat} {c d i : Nat} (hz : w.heap.size ≤ w'.heap.size) (h : Of w col c i) : Of w' (paint w col d) c i := ⟨by rw [paint_old h.2]; exact h.1, Nat.lt_of_lt_of_le h.2 hz⟩
def Ptrs (l : List Nat) : List Value := l.map fun b => .pointer (some ⟨b, 0, none⟩)
structure Held (w : World) (B bs : Nat) (s : Pg.St) (on : Nat → Prop) (bw : Nat → Nat) (P : Nat → List Nat) (N : List Nat) (bf : List Nat) (F : List (List Nat)) (A : Option Addr) (nf c j : Nat) (E : List (Nat × TypeId × List Value)) (K : Nat) (col cw cf : Nat → Nat) : Prop where
 sto : Sto w B bs s
 hB : B ≤ w.heap.size
 low : ∀ i, col i ≠ 0 → B ≤ i
 wr : ∀ k, k < 3 → on k → Wr w (Of w col (cw k)) bs (bw k) (P k) j
 off : ∀ k, k < 3 → ¬ on k → P k = []
 fil : Own w B 94 1 A nf c (Ptrs bf)
 fz : InS (fun i => col i = 0) A
 fl : F.length = nf
 fi : ∀ (i x : Nat) (y : List Nat), bf[i]? = some x → F[i]? = some y → Fi w (Of w col (cf i)) bs x y
 has : Pg.Has s (N ++ (Pg.tot P ++ F.flatten))
 cwp : ∀ k, k < 3 → on k → 0 < cw k ∧ cw k < K
 cfp : ∀ i, i < nf → 0 < cf i ∧ cf i < K
 cww : ∀ k k', k < 3 → k' < 3 → on k → on k' → cw k = cw k' → k = k'
 cff : ∀ i i', i < nf → i' < nf → cf i = cf i' → i = i'
 cwf : ∀ k i, k < 3 → on k → i < nf → cw k ≠ cf i
 ext : ∀ x ∈ E, Blk w x.1 x.2.1 x.2.2 ∧ col x.1 = 0 ∧ x.2.1 ∉ 94 :: StT
 kp : 0 < K
namespace Held
variable {w w' : World} {B bs : Nat} {s s' : Pg.St} {on on' : Nat → Prop} {bw : Nat → Nat} {P P' : Nat → List Nat} {N N' : List Nat} {bf : List Nat} {F F' : List (List Nat)} {A : Option Addr} {nf c j j' : Nat} {E E' : List (Nat × TypeId × List Value)} {K : Nat} {col cw cf : Nat → Nat}
end Held
end Go.Proofs.YtcadjekcdokkjaaGreat
namespace Go.Proofs.YtcadjekcdokkjaaGreat
set_option linter.unusedVariables false
set_option linter.unusedSimpArgs false
open Go.RowKit
theorem Turns.wk {S : Nat → Prop} {T : List TypeId} {B B0 : Nat} {w w' : World} (h : Turns S [] B0 w w') : Turns S T B w w' :=
 ⟨h.os, h.tape, h.output, h.size, fun k hk hs _ => h.block k hk hs (.inr fun _ _ _ _ => by simp)⟩
structure Good (B : Nat) (P : World → (Nat → Prop) → Prop) : Prop where
 mono : ∀ w S S', P w S → (∀ i, S i → S' i) → P w S'
 bound : ∀ w S, P w S → P w fun i => S i ∧ i < w.heap.size
 turns : ∀ w w' S T, P w S → (∀ i, S i → ¬ T i) → Turns T StT B w w' → P w' S
namespace Good
variable {B : Nat} {P Q : World → (Nat → Prop) → Prop}
theorem pure (p : Prop) : Good B fun _ _ => p := ⟨fun _ _ _ h _ => h, fun _ _ h => h, fun _ _ _ _ h _ _ => h⟩
theorem and (h : Good B P) (k : Good B Q) : Good B fun w S => P w S ∧ Q w S :=
 ⟨fun w S S' a hs => ⟨h.mono w S S' a.1 hs, k.mono w S S' a.2 hs⟩, fun w S a => ⟨h.bound w S a.1, k.bound w S a.2⟩, fun w w' S T a hd ht => ⟨h.turns w w' S T a.1 hd ht, k.turns w w' S T a.2 hd ht⟩⟩
theorem ex {α : Type} {P : α → World → (Nat → Prop) → Prop} (h : ∀ a, Good B (P a)) : Good B fun w S => ∃ a, P a w S :=
 ⟨fun w S S' ⟨a, x⟩ hs => ⟨a, (h a).mono w S S' x hs⟩, fun w S ⟨a, x⟩ => ⟨a, (h a).bound w S x⟩, fun w w' S T ⟨a, x⟩ hd ht => ⟨a, (h a).turns w w' S T x hd ht⟩⟩
theorem all {α : Type} {P : α → World → (Nat → Prop) → Prop} (h : ∀ a, Good B (P a)) : Good B fun w S => ∀ a, P a w S :=
 ⟨fun w S S' x hs a => (h a).mono w S S' (x a) hs, fun w S x a => (h a).bound w S (x a), fun w w' S T x hd ht a => (h a).turns w w' S T (x a) hd ht⟩
theorem imp {p : Prop} (h : Good B P) : Good B fun w S => p → P w S :=
 ⟨fun w S S' x hs a => h.mono w S S' (x a) hs, fun w S x a => h.bound w S (x a), fun w w' S T x hd ht a => h.turns w w' S T (x a) hd ht⟩
theorem blk (g : Nat) (t : TypeId) (xs : List Value) (ht : t ∉ StT) : Good B fun w S => S g ∧ Blk w g t xs :=
 ⟨fun _ _ _ h hs => ⟨hs _ h.1, h.2⟩, fun _ _ h => ⟨⟨h.1, h.2.lt⟩, h.2⟩, fun _ _ _ _ h hd hk => ⟨h.1, h.2.turns (hd _ h.1) ht hk⟩⟩
theorem own_lt {w : World} {base : Nat} {e : TypeId} {size : Nat} {A : Option Addr} {n c : Nat} {xs : List Value} (h : Own w base e size A n c xs) {b o : Nat} (ha : A = some ⟨b, o, none⟩) : b < w.heap.size := by
 rcases h.lies with ⟨h1, _⟩ | ⟨g, cur, h1, _, hlt, _⟩
 ·rw [h1] at ha; cases ha
 ·rw [h1] at ha
  injection ha with ha
  injection ha with ha _
  rw [← ha]
  exact hlt
theorem rs (A : Option Addr) (xs : List Value) : Good B fun w S => Rs StT B w A xs ∧ (xs ≠ [] → InS S A) :=
 ⟨fun _ _ _ h hs => ⟨h.1, fun hn b o ha => hs _ (h.2 hn b o ha)⟩, fun _ _ h => ⟨h.1, fun hn b o ha => ⟨h.2 hn b o ha, by
  obtain ⟨b', o', e, hr, _⟩ := h.1 hn
  rw [e] at ha
  injection ha with ha
  injection ha with ha _
  rw [← ha]
  exact lt_of_range hr hn⟩⟩, fun w w' S T h hd hk => ⟨fun hn => by
  obtain ⟨b, o, e, hr, ht⟩ := h.1 hn
  have eb := hk.block b (lt_of_range hr hn) (hd _ (h.2 hn b o e)) ht
  exact ⟨b, o, e, range_of_heap hr eb, by rw [eb]; exact ht⟩, h.2⟩⟩
end Good
def Mine (w : World) (col : Nat → Nat) (d : Nat) : Nat → Prop := fun i => Of w col d i ∨ w.heap.size ≤ i
theorem mine_of {w w' : World} {col : Nat → Nat} {d : Nat} (hz : w.heap.size ≤ w'.heap.size) {i : Nat} (h : Mine w col d i ∧ i < w'.heap.size) : Of w' (paint w col d) d i := by
 obtain ⟨h1 | h1, h2⟩ := h
 ·exact h1.paint hz
 ·exact ⟨paint_new h1, h2⟩
def updP (P : Nat → World → (Nat → Prop) → Prop) (d : Nat) (Q : World → (Nat → Prop) → Prop) : Nat → World → (Nat → Prop) → Prop := fun k => if k = d then Q else P k
theorem updP_at (P : Nat → World → (Nat → Prop) → Prop) (d : Nat) (Q : World → (Nat → Prop) → Prop) : updP P d Q d = Q := if_pos rfl
theorem updP_ne (P : Nat → World → (Nat → Prop) → Prop) {d k : Nat} (Q : World → (Nat → Prop) → Prop) (h : k ≠ d) : updP P d Q k = P k := if_neg h
structure Fam (w0 w : World) (B : Nat) (col0 col : Nat → Nat) (P : Nat → World → (Nat → Prop) → Prop) : Prop where
 hB : B ≤ w.heap.size
 low : ∀ i, col i ≠ 0 → B ≤ i
 good : ∀ d, Good B (P d)
 at_ : ∀ d, P d w (Of w col d)
 old : ∀ i, i < w0.heap.size → col i = col0 i
 size : w0.heap.size ≤ w.heap.size
 frame : Turns (fun i => col0 i ≠ 0 ∨ w0.heap.size ≤ i) StT B w0 w
namespace Fam
variable {w0 w w' : World} {B : Nat} {col0 col : Nat → Nat} {P P' : Nat → World → (Nat → Prop) → Prop}
theorem start {w0 : World} {B : Nat} {col0 : Nat → Nat} {P : Nat → World → (Nat → Prop) → Prop} (hB : B ≤ w0.heap.size) (low : ∀ i, col0 i ≠ 0 → B ≤ i) (good : ∀ d, Good B (P d)) (at_ : ∀ d, P d w0 (Of w0 col0 d)) : Fam w0 w0 B col0 col0 P :=
 ⟨hB, low, good, at_, fun _ _ => rfl, Nat.le_refl _, Turns.refl _ _ _ _⟩
theorem mine_new (h : Fam w0 w B col0 col P) {d : Nat} (hd : d ≠ 0) {i : Nat} (hi : Mine w col d i) : col0 i ≠ 0 ∨ w0.heap.size ≤ i := by
 by_cases hl : i < w0.heap.size
 ·rcases hi with hi | hi
  ·exact .inl (by rw [← h.old i hl, hi.1]; exact hd)
  ·exact .inr (Nat.le_trans h.size hi)
 ·exact .inr (by omega)
theorem turn (h : Fam w0 w B col0 col P) {d : Nat} (hd : d ≠ 0) {Q : World → (Nat → Prop) → Prop} (hT : Turns (Mine w col d) StT B w w') (hg : Good B Q) (hq : Q w' (Mine w col d)) : Fam w0 w' B col0 (paint w col d) (updP P d Q) := by
 have hz := hT.size
 refine ⟨Nat.le_trans h.hB hz, fun i hi => ?_, fun k => ?_, fun k => ?_, fun i hi => ?_, Nat.le_trans h.size hz, h.frame.trans (hT.more fun k _ hk => h.mine_new hd hk)⟩
 ·by_cases hl : i < w.heap.size
  ·rw [paint_old hl] at hi
   exact h.low i hi
  ·have := h.hB; omega
 ·by_cases e : k = d
  ·rw [e, updP_at]; exact hg
  ·rw [updP_ne _ _ e]; exact h.good k
 ·by_cases e : k = d
  ·rw [e, updP_at]
   exact hg.mono _ _ _ (hg.bound _ _ hq) fun i hi => mine_of hz hi
  ·rw [updP_ne _ _ e]
   refine (h.good k).mono _ _ _ ((h.good k).turns _ _ _ _ (h.at_ k) (fun i hi ht => ?_) hT) fun i hi => hi.paint hz
   rcases ht with ht | ht
   ·exact e (hi.1.symm.trans ht.1)
   ·have := hi.2; omega
 ·rw [paint_old (by have := h.size; omega)]
  exact h.old i hi
theorem next (h : Fam w0 w B col0 col P) (hb : Below w.heap.size w w') {d : Nat} (hd : d ≠ 0) {Q : World → (Nat → Prop) → Prop} (hg : Good B Q) (hq : Q w' (Mine w col d)) : Fam w0 w' B col0 (paint w col d) (updP P d Q) :=
 h.turn hd (Turns.of_below hb) hg hq
theorem keep (h : Fam w0 w B col0 col P) (hb : Below w.heap.size w w') (d : Nat) : P d w' (Mine w col d) :=
 (h.good d).mono _ _ _ ((h.good d).turns _ _ _ (fun _ => False) (h.at_ d) (fun _ _ hf => hf) (Turns.of_below hb)) fun _ hi => .inl hi
theorem congr (h : Fam w0 w B col0 col P) (hg : ∀ d, Good B (P' d)) (hp : ∀ d w S, P d w S → P' d w S) : Fam w0 w B col0 col P' := ⟨h.hB, h.low, hg, fun d => hp d _ _ (h.at_ d), h.old, h.size, h.frame⟩
theorem cast (h : Fam w0 w B col0 col P) (e : P = P') : Fam w0 w B col0 col P' := e ▸ h
theorem below (h : Fam w0 w B col0 col P) (hb : Below w.heap.size w w') {d : Nat} (hd : d ≠ 0) : Fam w0 w' B col0 (paint w col d) P := by
 refine (h.next hb hd (h.good d) (h.keep hb d)).cast ?_
 funext k
 by_cases e : k = d
 ·rw [e, updP_at]
 ·rw [updP_ne _ _ e]
end Fam
def MP (P0 P1 P2 P3 P4 : World → (Nat → Prop) → Prop) (PC : Nat → World → (Nat → Prop) → Prop) : Nat → World → (Nat → Prop) → Prop
 | 0 => P0
 | 1 => P1
 | 2 => P2
 | 3 => P3
 | 4 => P4
 | i + 5 => PC i
section
variable {P0 P1 P2 P3 P4 Q : World → (Nat → Prop) → Prop} {PC : Nat → World → (Nat → Prop) → Prop}
theorem MP.good {B : Nat} (h0 : Good B P0) (h1 : Good B P1) (h2 : Good B P2) (h3 : Good B P3) (h4 : Good B P4) (h5 : ∀ i, Good B (PC i)) : ∀ d, Good B (MP P0 P1 P2 P3 P4 PC d)
 | 0 => h0
 | 1 => h1
 | 2 => h2
 | 3 => h3
 | 4 => h4
 | i + 5 => h5 i
theorem MP.up1 : updP (MP P0 P1 P2 P3 P4 PC) 1 Q = MP P0 Q P2 P3 P4 PC := by
 funext d; unfold updP
 match d with
 | 0 => rfl
 | 1 => rfl
 | 2 => rfl
 | 3 => rfl
 | 4 => rfl
 | i + 5 => rw [if_neg (by omega)]; rfl
theorem MP.up2 : updP (MP P0 P1 P2 P3 P4 PC) 2 Q = MP P0 P1 Q P3 P4 PC := by
 funext d; unfold updP
 match d with
 | 0 => rfl
 | 1 => rfl
 | 2 => rfl
 | 3 => rfl
 | 4 => rfl
 | i + 5 => rw [if_neg (by omega)]; rfl
theorem MP.up3 : updP (MP P0 P1 P2 P3 P4 PC) 3 Q = MP P0 P1 P2 Q P4 PC := by
 funext d; unfold updP
 match d with
 | 0 => rfl
 | 1 => rfl
 | 2 => rfl
 | 3 => rfl
 | 4 => rfl
 | i + 5 => rw [if_neg (by omega)]; rfl
theorem MP.up4 : updP (MP P0 P1 P2 P3 P4 PC) 4 Q = MP P0 P1 P2 P3 Q PC := by
 funext d; unfold updP
 match d with
 | 0 => rfl
 | 1 => rfl
 | 2 => rfl
 | 3 => rfl
 | 4 => rfl
 | i + 5 => rw [if_neg (by omega)]; rfl
theorem MP.up5 (k : Nat) : updP (MP P0 P1 P2 P3 P4 PC) (k + 5) Q = MP P0 P1 P2 P3 P4 (updP PC k Q) := by
 funext d; unfold updP
 match d with
 | 0 => rw [if_neg (by omega)]; rfl
 | 1 => rw [if_neg (by omega)]; rfl
 | 2 => rw [if_neg (by omega)]; rfl
 | 3 => rw [if_neg (by omega)]; rfl
 | 4 => rw [if_neg (by omega)]; rfl
 | i + 5 =>
  by_cases e : i = k
  ·rw [if_pos (by omega)]
   show Q = if i = k then Q else PC i
   rw [if_pos e]
  ·rw [if_neg (by omega)]
   show PC i = if i = k then Q else PC i
   rw [if_neg e]
end
end Go.Proofs.YtcadjekcdokkjaaGreat
namespace Go.Proofs.YtcadjekcdokkjaaGreat
set_option linter.unusedVariables false
set_option linter.unusedSimpArgs false
open Go.RowKit
attribute [local go_sem ↓] Go.wp_at_zero Go.wp_at_succ
theorem rowC_take {r : RowM} {j : Nat} (hj : j < r.length) : rowC (r.take (j + 1)) = rowC (r.take j) + (8 + r[j].s.length) := by
 unfold rowC
 rw [List.take_succ_eq_append_getElem hj, List.map_append, List.sum_append]
 simp
 omega
theorem rowC_part (r : RowM) (j : Nat) : rowC (r.take j) ≤ rowC r := by
 unfold rowC
 have : ((r.take j).map fun v : Va => 8 + v.s.length).sum + ((r.drop j).map fun v : Va => 8 + v.s.length).sum = (r.map fun v : Va => 8 + v.s.length).sum := by
  rw [← List.sum_append, ← List.map_append, List.take_append_drop]
 omega
set_option maxRecDepth 100000 in
theorem prow_any (r : RowM) (n c : Nat) (A : Option Addr) (w : World) (hn : r.length = n) (hr : Rd w A (rcells r)) (hb : rowC r ≤ 1000000000000) (hn1 : n ≤ 1000000000000) :
  Calls Tryz.prog 48 #[.slice A n c] w fun e w' => e = .returned (.int .i64 (rowC r : Nat)) ∧ Below w.heap.size w w' := by
 have Hn := Lib.hid hn
 have Hr := Lib.hid hr
 clear hn hr
 go_enter Tryz.func48, Tryz.ntmps48
 go_wp2_with fail
 go_loopw [3, 8] (fun vs vi wr => ∃ j z : Nat, j ≤ n ∧ vi = .int .i64 (j : Int) ∧ vs = .int .i64 (z : Int) ∧ Hid (z = rowC (r.take j)) ∧ z ≤ 1000000000000 ∧ Hid (Below w.heap.size w wr)) (fun _ i _ => n - (intOf i).toNat)
 case atStart => exact ⟨0, 8, by omega, by go_num, by go_num, rfl, by omega, Below.refl _ _⟩
 case round =>
  obtain ⟨j, z, hj, rfl, rfl, hz, hz9, Hb⟩ := hrel
  have hzr := Hb.out.size
  by_cases hlt : j < n
  ·have hjl : j < r.length := by rw [Hn.out]; exact hlt
   have hnx := rowC_take hjl
   have hpt := rowC_part r (j + 1)
   obtain ⟨b, o, rfl, c0, c1, c2⟩ := row_cells (Hr.out.below Hb.out) hjl
   have hsz := St8_size r[j].s
   rw [hnx, ← hz.out] at hpt
   rw [← hz.out] at hnx
   have Hnx := Lib.hid hnx
   clear hnx hz
   generalize r[j] = v at *
   obtain ⟨vk, vn, vs⟩ := v
   dsimp only at c0 c1 c2 hsz hpt Hnx
   have hbA := Lib.hid (Hb.out.alloc hzr (.cells #[.int .u8 vk, .int .i64 vn, .string (St8 vs)] 38))
   generalize hL : vs.length = L at *
   go_wp2_with fail
   go_roundw
   case rel => exact ⟨j + 1, z + (8 + L), by omega, by go_num, by go_num, Hnx.out.symm, by omega, hbA⟩
   case measure => simp [intOf]; omega
  ·obtain rfl : j = n := by omega
   have hf : Hid (z = rowC r) := by show _ = _; rw [hz.out, List.take_of_length_le (by rw [Hn.out]; exact Nat.le_refl _)]
   clear hz
   go_wp2_with fail
   go_ret
   rw [← hf.out]
   exact ⟨rfl, Hb.out⟩
theorem rowsC_take {l : List RowM} {j : Nat} (hj : j < l.length) : rowsC (l.take (j + 1)) = rowsC (l.take j) + rowC l[j] := by rw [List.take_succ_eq_append_getElem hj, rowsC_snoc]
theorem rowsC_part (l : List RowM) (j : Nat) : rowsC (l.take j) ≤ rowsC l := by
 unfold rowsC
 have : ((l.take j).map rowC).sum + ((l.drop j).map rowC).sum = (l.map rowC).sum := by
  rw [← List.sum_append, ← List.map_append, List.take_append_drop]
 omega
theorem rowsC_mem {l : List RowM} {r : RowM} (h : r ∈ l) : rowC r ≤ rowsC l := by
 induction l with
 | nil => cases h
 | cons x l ih =>
  rw [show rowsC (x :: l) = rowC x + rowsC l from by simp [rowsC]]
  rcases List.mem_cons.1 h with rfl | h
  ·omega
  ·have := ih h; omega
set_option maxRecDepth 100000 in
theorem prows_any (rs : List RowM) (hs : List Value) (n c : Nat) (A : Option Addr) (w : World) (hn : rs.length = n) (hA : Rd w A hs) (hR : Rows w hs rs) (hb : rowsC rs ≤ 1000000000000) (hn1 : n ≤ 1000000000000) :
  Calls Tryz.prog 74 #[.slice A n c] w fun e w' => e = .returned (.int .i64 (rowsC rs : Nat)) ∧ Below w.heap.size w w' := by
 have Hn := Lib.hid hn
 have HA := Lib.hid hA
 have HR := Lib.hid hR
 have Hb9 := Lib.hid hb
 clear hn hA hR hb
 go_enter Tryz.func74, Tryz.ntmps74
 go_wp2_with fail
 go_loopw [3, 8] (fun vs vi wr => ∃ j z : Nat, j ≤ n ∧ vi = .int .i64 (j : Int) ∧ vs = .int .i64 (z : Int) ∧ Hid (z = rowsC (rs.take j)) ∧ z ≤ 1000000000000 ∧ Hid (Below w.heap.size w wr)) (fun _ i _ => n - (intOf i).toNat)
 case atStart => exact ⟨0, 0, by omega, by go_num, by go_num, rfl, by omega, Below.refl _ _⟩
 case round =>
  obtain ⟨j, z, hj, rfl, rfl, hz, hz9, Hb⟩ := hrel
  have hzr := Hb.out.size
  by_cases hlt : j < n
  ·have hjl : j < rs.length := by rw [Hn.out]; exact hlt
   have hnx := rowsC_take hjl
   have hpt := rowsC_part rs (j + 1)
   have hrm := rowsC_mem (List.getElem_mem hjl)
   have hb9 := Hb9.out
   obtain ⟨b, o, E, d, rfl, ca, hc1, hc2, hrx⟩ := head_cell (HA.out.below Hb.out) (HR.out.below Hb.out) hjl
   rw [hnx, ← hz.out] at hpt
   rw [← hz.out] at hnx
   have hpr := Lib.hid (prow_any rs[j] rs[j].length d E wr rfl hrx (by omega) (by
    have : 8 + rs[j].length * 8 ≤ rowC rs[j] := by
     unfold rowC
     have : ∀ r : RowM, r.length * 8 ≤ (r.map fun v : Va => 8 + v.s.length).sum := fun r => by
      induction r with
      | nil => simp
      | cons v r ih => rw [List.map_cons, List.sum_cons, List.length_cons]; omega
     have := this rs[j]
     omega
    omega))
   have Hnx := Lib.hid hnx
   clear hnx hz hrx
   generalize rowC rs[j] = R at *
   generalize rs[j].length = rl at *
   go_wp2_with fail
   refine hpr.out.mono ?_
   rintro e w3 ⟨rfl, hb3⟩
   have Hb3 := Lib.hid (Hb.out.trans (hb3.mono hzr))
   clear hb3 hpr
   go_wp2_with fail
   go_roundw
   case rel => exact ⟨j + 1, z + R, by omega, by go_num, by go_num, Hnx.out.symm, by omega, Hb3⟩
   case measure => simp [intOf]; omega
  ·obtain rfl : j = n := by omega
   have hf : Hid (z = rowsC rs) := by show _ = _; rw [hz.out, List.take_of_length_le (by rw [Hn.out]; exact Nat.le_refl _)]
   clear hz
   go_wp2_with fail
   go_ret
   rw [← hf.out]
   exact ⟨rfl, Hb.out⟩
/-! ### A purse -/
def Pu (w : World) (bp most left least : Nat) : Prop := Blk w bp 74 [.int .i64 (most : Int), .int .i64 (left : Int), .int .i64 (least : Int)]
theorem Pu.below {w w' : World} {bp most left least : Nat} (h : Pu w bp most left least) (hb : Below w.heap.size w w') : Pu w' bp most left least := Blk.below h hb
set_option maxRecDepth 100000 in
theorem pnew_any (n : Nat) (w : World) (h : n ≤ 1048576) : Calls Tryz.prog 11 #[.int .i64 (n : Int)] w fun e w' => ∃ bp, e = .returned (.tuple #[.pointer (some ⟨bp, 0, none⟩), .int .i64 0]) ∧ Pu w' bp n n n ∧ w.heap.size ≤ bp ∧ Below w.heap.size w w' := by
 have hb := Lib.hid ((Below.refl w.heap.size w).drew.alloc (Nat.le_refl _) (.cells #[.int .i64 (n : Int), .int .i64 (n : Int), .int .i64 (n : Int)] 74))
 have hp := Lib.hid (Blk.new w.drew 74 #[.int .i64 (n : Int), .int .i64 (n : Int), .int .i64 (n : Int)])
 have hb' := Lib.hid ((Below.refl w.heap.size w).alloc (Nat.le_refl _) (.cells #[.int .i64 (n : Int), .int .i64 (n : Int), .int .i64 (n : Int)] 74))
 have hp' := Lib.hid (Blk.new w 74 #[.int .i64 (n : Int), .int .i64 (n : Int), .int .i64 (n : Int)])
 go_enter Tryz.func11, Tryz.ntmps11
 go_wp2_with fail
 go_ret2
 first | exact ⟨_, rfl, hp.out, Nat.le_refl _, hb.out⟩ | exact ⟨_, rfl, hp'.out, Nat.le_refl _, hb'.out⟩
set_option maxRecDepth 100000 in
theorem ptake_no (bp most left least n : Nat) (w : World) (h : Pu w bp most left least) (hn : n ≤ 1000000000000) (hl : left < n) : Calls Tryz.prog 25 #[.pointer (some ⟨bp, 0, none⟩), .int .i64 (n : Int)] w fun e w' => e = .returned (.int .i64 5) ∧ w = w' := by
 have k1 := Blk.cell h 1
 simp only [List.getElem?_cons_zero, List.getElem?_cons_succ] at k1
 clear h
 go_enter Tryz.func25, Tryz.ntmps25
 go_wp2_with fail
 go_ret
 exact ⟨rfl, rfl⟩
set_option maxRecDepth 100000 in
theorem ptake_yes (bp most left least n : Nat) (w : World) (h : Pu w bp most left least) (hl : n ≤ left) (hm : left ≤ 1000000000000) (hle : least ≤ 1000000000000) : Calls Tryz.prog 25 #[.pointer (some ⟨bp, 0, none⟩), .int .i64 (n : Int)] w fun e w' => e = .returned (.int .i64 0) ∧ Pu w' bp most (left - n) (min least (left - n)) ∧ Turns (fun i => i = bp) [] 0 w w' := by
 have k1 := Blk.cell h 1
 have k2 := Blk.cell h 2
 have f1 := Blk.frozen h 1
 have f2 := Blk.frozen h 2
 simp only [List.getElem?_cons_zero, List.getElem?_cons_succ] at k1 k2
 obtain ⟨L, hL⟩ : ∃ L : Nat, L = left - n := ⟨_, rfl⟩
 have hLI : (left : Int) - (n : Int) = (L : Int) := by omega
 have hw : IntKind.i64.wrap (L : Int) = (L : Int) := by rw [IntKind.wrap_i64]; omega
 have h1 := Blk.set_ h 1 (.int .i64 (L : Int))
 rw [← hL]
 by_cases hc : L < least
 ·have hM : min least L = L := by omega
  rw [hM]
  have H2 := Lib.hid (Blk.set_ h1 2 (.int .i64 (L : Int)))
  have Ht := Lib.hid ((Turns.setCell (S := fun i => i = bp) (T := []) (B := 0) w (g := bp) (i := 1) rfl (.int .i64 (L : Int))).trans (Turns.setCell (S := fun i => i = bp) (T := []) (B := 0) _ (g := bp) (i := 2) rfl (.int .i64 (L : Int))))
  have hcI : (L : Int) < (least : Int) := by omega
  clear hL h h1 hM
  go_enter Tryz.func25, Tryz.ntmps25
  go_wp2_with fail
  go_region
  go_wp2_with fail
  go_ret
  exact ⟨rfl, Blk.drew H2.out, Ht.out.drewN 1⟩
 ·have hM : min least L = least := by omega
  rw [hM]
  have H2 := Lib.hid (Blk.set_ h1 2 (.int .i64 (least : Int)))
  have Ht := Lib.hid ((Turns.setCell (S := fun i => i = bp) (T := []) (B := 0) w (g := bp) (i := 1) rfl (.int .i64 (L : Int))).trans (Turns.setCell (S := fun i => i = bp) (T := []) (B := 0) _ (g := bp) (i := 2) rfl (.int .i64 (least : Int))))
  have hcI : ¬ (L : Int) < (least : Int) := by omega
  clear hL h h1 hM
  go_enter Tryz.func25, Tryz.ntmps25
  go_wp2_with fail
  go_region
  go_wp2_with fail
  go_ret
  exact ⟨rfl, Blk.drew H2.out, Ht.out.drewN 1⟩
set_option maxRecDepth 100000 in
theorem pnow_any (bp most left least : Nat) (w : World) (h : Pu w bp most left least) (hl : left ≤ most) (hm : most ≤ 1000000000000) : Calls Tryz.prog 23 #[.pointer (some ⟨bp, 0, none⟩)] w fun e w' => e = .returned (.int .i64 ((most - left : Nat) : Int)) ∧ ∃ q, w' = w.drewN q := by
 have k0 := Blk.cell h 0
 have k1 := Blk.cell h 1
 simp only [List.getElem?_cons_zero, List.getElem?_cons_succ] at k0 k1
 have hI : (most : Int) - (left : Int) = ((most - left : Nat) : Int) := by omega
 clear h
 go_enter Tryz.func23, Tryz.ntmps23
 go_wp2_with fail
 go_quiet (fail)
 go_wp2_with fail
 go_ret
 exact ⟨rfl, _, rfl⟩
set_option maxRecDepth 100000 in
theorem ppeak_any (bp most left least : Nat) (w : World) (h : Pu w bp most left least) (hl : least ≤ most) (hm : most ≤ 1000000000000) : Calls Tryz.prog 22 #[.pointer (some ⟨bp, 0, none⟩)] w fun e w' => e = .returned (.int .i64 ((most - least : Nat) : Int)) ∧ ∃ q, w' = w.drewN q := by
 have k0 := Blk.cell h 0
 have k1 := Blk.cell h 2
 simp only [List.getElem?_cons_zero, List.getElem?_cons_succ] at k0 k1
 have hI : (most : Int) - (least : Int) = ((most - least : Nat) : Int) := by omega
 clear h
 go_enter Tryz.func22, Tryz.ntmps22
 go_wp2_with fail
 go_quiet (fail)
 go_wp2_with fail
 go_ret
 exact ⟨rfl, _, rfl⟩
set_option maxHeartbeats 2000000 in
set_option maxRecDepth 100000 in
theorem pgive_any (bp most left least n : Nat) (w : World) (h : Pu w bp most left least) (hl : left + n ≤ most) (hm : most ≤ 1000000000000) : Calls Tryz.prog 73 #[.pointer (some ⟨bp, 0, none⟩), .int .i64 (n : Int)] w fun e w' => e = .returned (.int .i64 0) ∧ Pu w' bp most (left + n) least ∧ Turns (fun i => i = bp) [] 0 w w' := by
 obtain ⟨S, hS⟩ : ∃ S, left + n = S := ⟨_, rfl⟩
 rw [hS]
 have hnow := Lib.hid (pnow_any bp most left least w h (by omega) hm)
 have H := Lib.hid h
 clear h
 go_enter Tryz.func73, Tryz.ntmps73
 go_wp2_with fail
 refine hnow.out.mono ?_
 rintro e w1 ⟨rfl, q, rfl⟩
 have h1 : Pu (w.drewN q) bp most left least := Blk.drewN H.out q
 have k1 := Blk.cell h1 1
 have f1 := Blk.frozen h1 1
 simp only [List.getElem?_cons_zero, List.getElem?_cons_succ] at k1
 have H2 := Lib.hid (Blk.set_ h1 1 (.int .i64 (S : Int)))
 have Ht := Lib.hid (((Turns.refl (fun i => i = bp) [] 0 w).drewN q).trans (Turns.setCell (S := fun i => i = bp) (T := []) (B := 0) _ (g := bp) (i := 1) rfl (.int .i64 (S : Int))))
 have hno : ¬ ((most - left : Nat) : Int) < (n : Int) := by omega
 have hno2 : ¬ (most - left < n) := by omega
 have hsum : (left : Int) + (n : Int) = (S : Int) := by omega
 have hwr : IntKind.i64.wrap (S : Int) = (S : Int) := by rw [IntKind.wrap_i64]; omega
 clear h1 hnow H
 generalize w.drewN q = w1 at *
 generalize most - left = D at *
 go_wp2_with fail
 go_ret
 exact ⟨rfl, H2.out, Ht.out⟩
end Go.Proofs.YtcadjekcdokkjaaGreat
