/- Three writers and files over one store: who holds which blocks, and which pages. -/
import Derived.Test.YtjjmnjgkodiibaaMSpU
import Derived.Test.YtjjmnjgkodiibaaMHoM
namespace Go.Proofs.Ytjjmnjgkodiibaa
open Go.RowKit

namespace WrAt
variable {w w' : World} {S S' T : Nat → Prop} {B bs bw : Nat} {l : List Nat} {k ic : Nat} {I : Option Addr} {rest : List UInt8} {n rc : Nat} {R : Option Addr} {many : Int} {ended : Bool}
theorem wide (h : WrAt w S bs bw l k ic I rest n rc R many ended) (hs : ∀ j, S j → S' j) : WrAt w S' bs bw l k ic I rest n rc R many ended :=
  ⟨hs _ h.sw, h.blk, h.ids, fun b o e => hs _ (h.inI b o e), h.rst, fun b o e => hs _ (h.inR b o e)⟩
theorem bound (h : WrAt w S bs bw l k ic I rest n rc R many ended) : WrAt w (fun j => S j ∧ j < w.heap.size) bs bw l k ic I rest n rc R many ended := by
  refine ⟨⟨h.sw, h.blk.lt⟩, h.blk, h.ids, fun b o e => ⟨h.inI b o e, ?_⟩, h.rst, fun b o e => ⟨h.inR b o e, ?_⟩⟩
  · rcases h.ids.lies with ⟨ha, _⟩ | ⟨g, cur, ha, _, hlt, _⟩
    · rw [ha] at e; cases e
    · rw [ha] at e; injection e with e; injection e with e _; rw [← e]; exact hlt
  · rcases h.rst with ⟨ha, _⟩ | ⟨g, off, ys, ha, _, hk, _⟩
    · rw [ha] at e; cases e
    · rw [ha] at e; injection e with e; injection e with e _; rw [← e]; exact hk.lt
theorem turns (h : WrAt w S bs bw l k ic I rest n rc R many ended) (hd : ∀ j, S j → ¬ T j) (hk : Turns T StT B w w') : WrAt w' S bs bw l k ic I rest n rc R many ended :=
  ⟨h.sw, h.blk.turns (hd _ h.sw) (by decide) hk, Own.turns h.ids (by decide) (fun b o e => hd _ (h.inI b o e)) hk, h.inI, h.rst.turns (by decide) (fun b o e => hd _ (h.inR b o e)) hk, h.inR⟩
end WrAt
namespace FiAt
variable {w w' : World} {S S' T : Nat → Prop} {B bs bf : Nat} {l : List Nat} {k ic : Nat} {I : Option Addr} {many : Int}
theorem wide (h : FiAt w S bs bf l k ic I many) (hs : ∀ j, S j → S' j) : FiAt w S' bs bf l k ic I many := ⟨hs _ h.sf, h.blk, h.ids, fun b o e => hs _ (h.inI b o e)⟩
theorem bound (h : FiAt w S bs bf l k ic I many) : FiAt w (fun j => S j ∧ j < w.heap.size) bs bf l k ic I many := by
  refine ⟨⟨h.sf, h.blk.lt⟩, h.blk, h.ids, fun b o e => ⟨h.inI b o e, ?_⟩⟩
  rcases h.ids.lies with ⟨ha, _⟩ | ⟨g, cur, ha, _, hlt, _⟩
  · rw [ha] at e; cases e
  · rw [ha] at e; injection e with e; injection e with e _; rw [← e]; exact hlt
theorem turns (h : FiAt w S bs bf l k ic I many) (hd : ∀ j, S j → ¬ T j) (hk : Turns T StT B w w') : FiAt w' S bs bf l k ic I many :=
  ⟨h.sf, h.blk.turns (hd _ h.sf) (by decide) hk, Own.turns h.ids (by decide) (fun b o e => hd _ (h.inI b o e)) hk, h.inI⟩
end FiAt

/-- A writer: at work, with these pages; or ended, with none. -/
def Wr (w : World) (S : Nat → Prop) (bs bw : Nat) (P : List Nat) (j : Nat) : Prop :=
  ∃ (l : List Nat) (k ic : Nat) (I : Option Addr) (rest : List UInt8) (n rc : Nat) (R : Option Addr) (many : Nat) (ended : Bool), WrAt w S bs bw l k ic I rest n rc R (many : Int) ended ∧ many ≤ j ∧ ((ended = false ∧ P = l ∧ n < 56) ∨ (ended = true ∧ P = []))
/-- A file, with these pages. -/
def Fi (w : World) (S : Nat → Prop) (bs bf : Nat) (l : List Nat) : Prop := ∃ (k ic : Nat) (I : Option Addr) (many : Int), FiAt w S bs bf l k ic I many

section
variable {w w' : World} {S S' T : Nat → Prop} {B bs bw : Nat} {P : List Nat} {j j' : Nat}
theorem Wr.wide (h : Wr w S bs bw P j) (hs : ∀ i, S i → S' i) (hj : j ≤ j') : Wr w S' bs bw P j' := by
  obtain ⟨l, k, ic, I, rest, n, rc, R, many, ended, h1, h2, h3⟩ := h
  exact ⟨l, k, ic, I, rest, n, rc, R, many, ended, h1.wide hs, by omega, h3⟩
theorem Wr.turns (h : Wr w S bs bw P j) (hd : ∀ i, S i → ¬ T i) (hk : Turns T StT B w w') : Wr w' S bs bw P j := by
  obtain ⟨l, k, ic, I, rest, n, rc, R, many, ended, h1, h2, h3⟩ := h
  exact ⟨l, k, ic, I, rest, n, rc, R, many, ended, h1.turns hd hk, h2, h3⟩
theorem Wr.below (h : Wr w S bs bw P j) (hb : Below w.heap.size w w') : Wr w' S bs bw P j := by
  obtain ⟨l, k, ic, I, rest, n, rc, R, many, ended, h1, h2, h3⟩ := h
  exact ⟨l, k, ic, I, rest, n, rc, R, many, ended, h1.below hb, h2, h3⟩
theorem Wr.keeps {T : List TypeId} (h : Wr w S bs bw P j) (hT : ∀ t ∈ [83, 3, 5], t ∉ T) (hk : Keeps T B w w') : Wr w' S bs bw P j := by
  obtain ⟨l, k, ic, I, rest, n, rc, R, many, ended, h1, h2, h3⟩ := h
  exact ⟨l, k, ic, I, rest, n, rc, R, many, ended, h1.keeps hT hk, h2, h3⟩
theorem Fi.wide (h : Fi w S bs bw P) (hs : ∀ i, S i → S' i) : Fi w S' bs bw P := by
  obtain ⟨k, ic, I, many, h1⟩ := h
  exact ⟨k, ic, I, many, h1.wide hs⟩
theorem Fi.turns (h : Fi w S bs bw P) (hd : ∀ i, S i → ¬ T i) (hk : Turns T StT B w w') : Fi w' S bs bw P := by
  obtain ⟨k, ic, I, many, h1⟩ := h
  exact ⟨k, ic, I, many, h1.turns hd hk⟩
theorem Fi.below (h : Fi w S bs bw P) (hb : Below w.heap.size w w') : Fi w' S bs bw P := by
  obtain ⟨k, ic, I, many, h1⟩ := h
  exact ⟨k, ic, I, many, h1.below hb⟩
theorem Fi.keeps {T : List TypeId} (h : Fi w S bs bw P) (hT : ∀ t ∈ [88, 3], t ∉ T) (hk : Keeps T B w w') : Fi w' S bs bw P := by
  obtain ⟨k, ic, I, many, h1⟩ := h
  exact ⟨k, ic, I, many, h1.keeps hT hk⟩
end

/-- The blocks of one colour. -/
def Of (w : World) (col : Nat → Nat) (c : Nat) : Nat → Prop := fun i => col i = c ∧ i < w.heap.size
/-- New blocks get the colour c. -/
def paint (w : World) (col : Nat → Nat) (c : Nat) : Nat → Nat := fun i => if i < w.heap.size then col i else c
theorem paint_old {w : World} {col : Nat → Nat} {c i : Nat} (h : i < w.heap.size) : paint w col c i = col i := if_pos h
theorem paint_new {w : World} {col : Nat → Nat} {c i : Nat} (h : w.heap.size ≤ i) : paint w col c i = c := if_neg (by omega)
theorem Of.paint {w w' : World} {col : Nat → Nat} {c d i : Nat} (hz : w.heap.size ≤ w'.heap.size) (h : Of w col c i) : Of w' (paint w col d) c i := ⟨by rw [paint_old h.2]; exact h.1, Nat.lt_of_lt_of_le h.2 hz⟩

/-- Pointers to blocks. -/
def Ptrs (l : List Nat) : List Value := l.map fun b => .pointer (some ⟨b, 0, none⟩)

/-- Three writers (those of 'on') and files over one store; each block that one of them holds bears its colour; E: other blocks. -/
structure Held (w : World) (B bs : Nat) (s : Pg.St) (on : Nat → Prop) (bw : Nat → Nat) (P : Nat → List Nat) (N : List Nat) (bf : List Nat) (F : List (List Nat)) (A : Option Addr) (nf c j : Nat) (E : List (Nat × TypeId × List Value)) (K : Nat) (col cw cf : Nat → Nat) : Prop where
  sto : Sto w B bs s
  hB : B ≤ w.heap.size
  low : ∀ i, col i ≠ 0 → B ≤ i
  wr : ∀ k, k < 3 → on k → Wr w (Of w col (cw k)) bs (bw k) (P k) j
  off : ∀ k, k < 3 → ¬ on k → P k = []
  fil : Own w B 39 1 A nf c (Ptrs bf)
  fz : InS (fun i => col i = 0) A
  fl : F.length = nf
  fi : ∀ (i x : Nat) (y : List Nat), bf[i]? = some x → F[i]? = some y → Fi w (Of w col (cf i)) bs x y
  has : Pg.Has s (N ++ (Pg.tot P ++ F.flatten))
  cwp : ∀ k, k < 3 → on k → 0 < cw k ∧ cw k < K
  cfp : ∀ i, i < nf → 0 < cf i ∧ cf i < K
  cww : ∀ k k', k < 3 → k' < 3 → on k → on k' → cw k = cw k' → k = k'
  cff : ∀ i i', i < nf → i' < nf → cf i = cf i' → i = i'
  cwf : ∀ k i, k < 3 → on k → i < nf → cw k ≠ cf i
  ext : ∀ x ∈ E, Blk w x.1 x.2.1 x.2.2 ∧ col x.1 = 0 ∧ x.2.1 ∉ 39 :: StT
  kp : 0 < K

namespace Held
variable {w w' : World} {B bs : Nat} {s s' : Pg.St} {on on' : Nat → Prop} {bw : Nat → Nat} {P P' : Nat → List Nat} {N N' : List Nat} {bf : List Nat} {F F' : List (List Nat)} {A : Option Addr} {nf c j j' : Nat} {E E' : List (Nat × TypeId × List Value)} {K : Nat} {col cw cf : Nat → Nat}
theorem bl (h : Held w B bs s on bw P N bf F A nf c j E K col cw cf) : bf.length = nf := by
  have := h.fil.1
  unfold Ptrs at this
  rw [Nat.mul_one, List.length_map] at this
  exact this
theorem flt (h : Held w B bs s on bw P N bf F A nf c j E K col cw cf) {b o : Nat} (e : A = some ⟨b, o, none⟩) : b < w.heap.size := by
  rcases h.fil.lies with ⟨ha, _⟩ | ⟨g, cur, ha, _, hlt, _⟩
  · rw [ha] at e; cases e
  · rw [ha] at e; injection e with e; injection e with e _; rw [← e]; exact hlt

/-- New blocks, that none of them holds. -/
theorem next (h : Held w B bs s on bw P N bf F A nf c j E K col cw cf) (hb : Below w.heap.size w w') (hE : ∀ x ∈ E', w.heap.size ≤ x.1 ∧ Blk w' x.1 x.2.1 x.2.2 ∧ x.2.1 ∉ 39 :: StT) : Held w' B bs s on bw P N bf F A nf c j (E' ++ E) K (paint w col 0) cw cf := by
  have hz := hb.size
  refine ⟨h.sto.below hb, Nat.le_trans h.hB hz, fun i hi => ?_, fun k hk ho => ((h.wr k hk ho).below hb).wide (fun i hi => hi.paint hz) (Nat.le_refl _), h.off, Own.below h.fil hb, fun b o e => ?_, h.fl, fun i x y h1 h2 => ((h.fi i x y h1 h2).below hb).wide fun i hi => hi.paint hz, h.has, h.cwp, h.cfp, h.cww, h.cff, h.cwf, fun x hx => ?_, h.kp⟩
  · by_cases hl : i < w.heap.size
    · rw [paint_old hl] at hi
      exact h.low i hi
    · rw [paint_new (by omega)] at hi
      exact absurd rfl hi
  · show paint w col 0 b = 0
    rw [paint_old (h.flt e)]
    exact h.fz b o e
  · rcases List.mem_append.1 hx with hx | hx
    · obtain ⟨h1, h2, h3⟩ := hE x hx
      exact ⟨h2, paint_new h1, h3⟩
    · obtain ⟨h1, h2, h3⟩ := h.ext x hx
      exact ⟨h1.below hb, by rw [paint_old h1.lt]; exact h2, h3⟩

/-- One of them has been at work: that of the colour d. -/
theorem turn (h : Held w B bs s on bw P N bf F A nf c j E K col cw cf) {d : Nat} (hd : 0 < d) (hT : Turns (fun i => Of w col d i ∨ w.heap.size ≤ i) StT B w w') (hs : Sto w' B bs s')
    (hj : j ≤ j') (hon : ∀ k, on' k → on k) (hoff : ∀ k, k < 3 → ¬ on' k → P' k = [])
    (hw : ∀ k, k < 3 → on' k → (cw k ≠ d ∧ P' k = P k) ∨ Wr w' (Of w' (paint w col d) (cw k)) bs (bw k) (P' k) j')
    (hfl : F'.length = nf) (hf : ∀ (i x : Nat) (y : List Nat), bf[i]? = some x → F'[i]? = some y → (cf i ≠ d ∧ F[i]? = some y) ∨ Fi w' (Of w' (paint w col d) (cf i)) bs x y)
    (hhas : Pg.Has s' (N' ++ (Pg.tot P' ++ F'.flatten))) : Held w' B bs s' on' bw P' N' bf F' A nf c j' E K (paint w col d) cw cf := by
  have hz := hT.size
  have hne : ∀ (q : Nat), q ≠ d → ∀ i, Of w col q i → ¬ (Of w col d i ∨ w.heap.size ≤ i) := fun q hq i h1 h2 => by
    rcases h2 with h2 | h2
    · exact hq (h1.1.symm.trans h2.1)
    · have := h1.2; omega
  refine ⟨hs, Nat.le_trans h.hB hz, fun i hi => ?_, fun k hk ho => ?_, hoff, Own.turns h.fil (by decide) (fun b o e h2 => ?_) hT, fun b o e => ?_, hfl, fun i x y h1 h2 => ?_, hhas, fun k hk ho => h.cwp k hk (hon k ho), h.cfp, fun k k' hk hk' ho ho' => h.cww k k' hk hk' (hon k ho) (hon k' ho'), h.cff, fun k i hk ho => h.cwf k i hk (hon k ho), fun x hx => ?_, h.kp⟩
  · by_cases hl : i < w.heap.size
    · rw [paint_old hl] at hi
      exact h.low i hi
    · have := h.hB; omega
  · rcases hw k hk ho with ⟨h1, h2⟩ | h1
    · rw [h2]
      exact ((h.wr k hk (hon k ho)).turns (hne _ h1) hT).wide (fun i hi => hi.paint hz) hj
    · exact h1
  · have h0 := h.fz b o e
    have hl := h.flt e
    rcases h2 with h2 | h2
    · have := h2.1
      have h0' : col b = 0 := h0
      omega
    · omega
  · show paint w col d b = 0
    rw [paint_old (h.flt e)]
    exact h.fz b o e
  · rcases hf i x y h1 h2 with ⟨h3, h4⟩ | h3
    · exact ((h.fi i x y h1 h4).turns (hne _ h3) hT).wide fun i hi => hi.paint hz
    · exact h3
  · obtain ⟨h1, h2, h3⟩ := h.ext x hx
    refine ⟨h1.turns (fun h4 => ?_) (fun hm => h3 (List.mem_cons_of_mem _ hm)) hT, by rw [paint_old h1.lt]; exact h2, h3⟩
    rcases h4 with h4 | h4
    · have := h4.1; omega
    · have := h1.lt; omega
theorem below (h : Held w B bs s on bw P N bf F A nf c j E K col cw cf) {d : Nat} (hd : 0 < d) (hT : Turns (fun i => Of w col d i ∨ w.heap.size ≤ i) StT B w w') : Below B w w' := by
  refine hT.below (fun i hi => ?_) h.hB (Nat.le_refl _)
  rcases hi with hi | hi
  · exact h.low i (by have := hi.1; omega)
  · have := h.hB; omega
end Held
end Go.Proofs.Ytjjmnjgkodiibaa
