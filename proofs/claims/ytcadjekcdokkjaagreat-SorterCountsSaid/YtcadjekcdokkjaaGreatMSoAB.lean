/- Walks: the sorter: cursors of files whose pages are as they were laid; the first rows of files, that are held. Walks: the sorter: heads.next, heads.give, and all heads given back. -/
import Derived.Test.YtcadjekcdokkjaaGreatMLtXY
import Derived.Defers
namespace Go.Proofs.YtcadjekcdokkjaaGreat
set_option linter.unusedVariables false
set_option linter.unusedSimpArgs false
open Go.RowKit
attribute [local go_sem ↓] Go.wp_at_zero Go.wp_at_succ
def CuP (bs bc : Nat) (s : Pg.St) (F : List Nat) (rs : List RowM) (w : World) (S : Nat → Prop) : Prop :=
 ∃ l k ic I p n rc R j, CuAt w S bs bc l k ic I p n rc R (rs.length : Int) 0 ∧ Pg.Hon s l p rs j ∧ j < 56 ∧ (∀ i ∈ l, i ∈ F) ∧ n + 56 * k ≤ 100000
theorem CuP.good (B bs bc : Nat) (s : Pg.St) (F : List Nat) (rs : List RowM) : Good B (CuP bs bc s F rs) := by
 refine ⟨fun w S S' h hs => ?_, fun w S h => ?_, fun w w' S T h hd ht => ?_⟩
 ·obtain ⟨l, k, ic, I, p, n, rc, R, j, h1, h2⟩ := h
  exact ⟨l, k, ic, I, p, n, rc, R, j, h1.more hs, h2⟩
 ·obtain ⟨l, k, ic, I, p, n, rc, R, j, h1, h2⟩ := h
  exact ⟨l, k, ic, I, p, n, rc, R, j, h1.bound, h2⟩
 ·obtain ⟨l, k, ic, I, p, n, rc, R, j, h1, h2⟩ := h
  exact ⟨l, k, ic, I, p, n, rc, R, j, h1.turns hd (by decide) ht, h2⟩
theorem Pg.read_same {s s' : Pg.St} {i : Nat} (h : s'[i]? = s[i]?) : Pg.readB s' (i : Int) = Pg.readB s (i : Int) ∧ Pg.readE s' (i : Int) = Pg.readE s (i : Int) := by
 unfold Pg.readB Pg.readE
 rw [Pg.at_nat, Pg.at_nat, h]
 exact ⟨rfl, rfl⟩
theorem Pg.Hon.same {s s' : Pg.St} {l : List Nat} {p : List UInt8} {rs : List RowM} {j : Nat} (h : Pg.Hon s l p rs j) (hs : ∀ i ∈ l, s'[i]? = s[i]?) : Pg.Hon s' l p rs j := by
 have e : Pg.onP s' l = Pg.onP s l := by
  unfold Pg.onP
  rw [List.flatMap_def, List.flatMap_def]
  congr 1
  exact List.map_congr_left fun i hi => (Pg.read_same (hs i hi)).1
 exact ⟨by rw [e]; exact h.eq, fun i hi => by rw [(Pg.read_same (hs i hi)).2]; exact h.ok i hi⟩
theorem CuP.same {bs bc : Nat} {s s' : Pg.St} {F : List Nat} {rs : List RowM} {w : World} {S : Nat → Prop} (h : CuP bs bc s F rs w S) (hs : ∀ i ∈ F, s'[i]? = s[i]?) : CuP bs bc s' F rs w S := by
 obtain ⟨l, k, ic, I, p, n, rc, R, j, h1, h2, h3, h4, h5⟩ := h
 exact ⟨l, k, ic, I, p, n, rc, R, j, h1, h2.same fun i hi => hs i (h4 i hi), h3, h4, h5⟩
theorem cnext_row (S : Nat → Prop) (B bs bc : Nat) (s : Pg.St) (F : List Nat) (r : RowM) (rs : List RowM) (w : World) (h : CuP bs bc s F (r :: rs) w S) (hs : Sto w B bs s) (hr : Pg.Fine r) (hF : ∀ i ∈ F, i < 1000000) (hlen : rs.length < 1000000) :
  Calls Tryz.prog 97 #[.pointer (some ⟨bc, 0, none⟩)] w fun e w' => ∃ R rc, e = .returned (.tuple #[.slice (some R) r.length rc, .bool true, .int .i64 0]) ∧ Own w' w.heap.size 38 3 (some R) r.length rc (rcells r) ∧ (∀ v ∈ r, v.ok) ∧ CuP bs bc s F rs w' (fun b => S b ∨ w.heap.size ≤ b) ∧ Sto w' B bs s ∧ Turns (fun b => S b ∨ w.heap.size ≤ b) [] 0 w w' := by
 obtain ⟨l, k, ic, I, p, n, rc, R, j, h1, h2, h3, h4, h5⟩ := h
 have h64 := sto_64 hs
 have hl1 := h2.len h64
 obtain ⟨u, l', e1, e2, d, e3⟩ := h2.next hr
 have hlc : ((r :: rs).length : Int) = (rs.length : Int) + 1 := by simp
 rw [hlc] at h1
 refine (next_any (fun b => S b ∨ w.heap.size ≤ b) B bs bc s l k ic I p n rc R _ w (h1.more fun b hb => .inl hb) hs (fun b hb => .inr hb) (by omega) (by omega) h5 (fun i hi => hF i (h4 i hi))).mono ?_
 rintro e w' ⟨⟨er, q1, _⟩ | ⟨r', u', l2, R', rc', k', ic', I', n', rc2, R2, q1, q2, rfl, q3, q9, q4⟩, q5, q6⟩
 ·rw [e1] at q1; cases q1
 ·rw [e1] at q1
  injection q1 with q1
  injection q1 with q1 q7
  injection q7 with q7 q8
  subst q1; subst q7; subst q8
  obtain ⟨R', rfl⟩ := Option.isSome_iff_exists.1 q9
  have hl2 := e2.len h64
  have hkl := h1.klen
  have hpl := h1.plen
  have hkl' := q4.klen
  have hpl' := q4.plen
  rw [Pg.rowsB_cons, List.length_append] at hl1
  rw [show (rs.length : Int) + 1 - 1 = (rs.length : Int) from by omega] at q4
  exact ⟨R', rc', rfl, q3, q2, ⟨_, _, _, _, _, _, _, _, j, q4, e2, h3, fun i hi => h4 i (by rw [e3]; simp [hi]), by omega⟩, q5, q6⟩
theorem cnext_end (S : Nat → Prop) (B bs bc : Nat) (s : Pg.St) (F : List Nat) (w : World) (h : CuP bs bc s F [] w S) (hs : Sto w B bs s) :
  Calls Tryz.prog 97 #[.pointer (some ⟨bc, 0, none⟩)] w fun e w' => e = .returned (.tuple #[.slice none 0 0, .bool false, .int .i64 0]) ∧ w = w' := by
 obtain ⟨l, k, ic, I, p, n, rc, R, j, h1, h2, h3, h4, h5⟩ := h
 obtain ⟨rfl, hz⟩ := h2.end_ (sto_64 hs) h3
 obtain rfl : k = 0 := by rw [← h1.klen]; rfl
 exact next_done S bs bc ic I p n rc R w h1 hz
structure Lies (s : Pg.St) (l : List Nat) (rs : List RowM) : Prop where
 hon : ∃ j, j < 56 ∧ Pg.Hon s l [] rs j
 fine : ∀ r ∈ rs, Pg.Fine r
 few : 56 * l.length ≤ 100000
theorem Lies.same {s s' : Pg.St} {l : List Nat} {rs : List RowM} (h : Lies s l rs) (hs : ∀ i ∈ l, s'[i]? = s[i]?) : Lies s' l rs := by
 obtain ⟨j, h1, h2⟩ := h.hon
 exact ⟨⟨j, h1, h2.same hs⟩, h.fine, h.few⟩
theorem fopen_c (S : Nat → Prop) (bs bf : Nat) (s : Pg.St) (l : List Nat) (k ic : Nat) (I : Option Addr) (rs : List RowM) (w : World) (h : FiAt w S bs bf l k ic I (rs.length : Int)) (hl : Lies s l rs) :
  Calls Tryz.prog 80 #[.pointer (some ⟨bf, 0, none⟩)] w fun e w' => ∃ bc, e = .returned (.pointer (some ⟨bc, 0, none⟩)) ∧ CuP bs bc s l rs w' (fun b => w.heap.size ≤ b) ∧ Below w.heap.size w w' := by
 have hk := h.klen
 have hf := hl.few
 refine (open_c S bs bf l k ic I (rs.length : Int) w h (by omega)).mono ?_
 rintro e w' ⟨bc, ic', I', rfl, h1, h2⟩
 obtain ⟨j, h3, h4⟩ := hl.hon
 exact ⟨bc, rfl, ⟨l, k, ic', I', [], 0, 0, none, j, h1.more fun b hb => hb.1, h4, h3, fun i hi => hi, by omega⟩, h2⟩
/-! ### Heads -/
structure HeAt (w : World) (S : Nat → Prop) (bp b7 bh rb n cn : Nat) (bcs : List Nat) (V : Nat → Option Addr) (vn vc : Nat → Nat) (CA : Option Addr) (cc : Nat) : Prop where
 s7 : S b7
 box : Blk w b7 114 [.pointer (some ⟨bh, 0, none⟩)]
 sh : S bh
 blk : Blk w bh 117 [.pointer (some ⟨bp, 0, none⟩), .slice CA cn cc, .slice (some ⟨rb, 0, none⟩) n n]
 sr : S rb
 rows : Blk w rb 23 (tab n fun i => .slice (V i) (vn i) (vc i))
 curs : Own w 0 119 1 CA cn cc (Ptrs bcs)
 inC : InS S CA
def HeP (bp b7 bh rb n cn : Nat) (bcs : List Nat) (V : Nat → Option Addr) (vn vc : Nat → Nat) (w : World) (S : Nat → Prop) : Prop := ∃ CA cc, HeAt w S bp b7 bh rb n cn bcs V vn vc CA cc
theorem HeP.good (B bp b7 bh rb n cn : Nat) (bcs : List Nat) (V : Nat → Option Addr) (vn vc : Nat → Nat) : Good B (HeP bp b7 bh rb n cn bcs V vn vc) := by
 refine ⟨fun w S S' ⟨CA, cc, h⟩ hs => ?_, fun w S ⟨CA, cc, h⟩ => ?_, fun w w' S T ⟨CA, cc, h⟩ hd ht => ?_⟩
 ·exact ⟨CA, cc, hs _ h.s7, h.box, hs _ h.sh, h.blk, hs _ h.sr, h.rows, h.curs, fun b o e => hs _ (h.inC b o e)⟩
 ·exact ⟨CA, cc, ⟨h.s7, h.box.lt⟩, h.box, ⟨h.sh, h.blk.lt⟩, h.blk, ⟨h.sr, h.rows.lt⟩, h.rows, h.curs, fun b o e => ⟨h.inC b o e, Good.own_lt h.curs e⟩⟩
 ·exact ⟨CA, cc, h.s7, h.box.turns (hd _ h.s7) (by decide) ht, h.sh, h.blk.turns (hd _ h.sh) (by decide) ht, h.sr, h.rows.turns (hd _ h.sr) (by decide) ht, Own.turns h.curs (by decide) (fun b o e => hd _ (h.inC b o e)) ht, h.inC⟩
def setF {α : Type} (f : Nat → α) (i : Nat) (v : α) : Nat → α := fun p => if p = i then v else f p
theorem setF_at {α : Type} (f : Nat → α) (i : Nat) (v : α) : setF f i v i = v := if_pos rfl
theorem setF_ne {α : Type} (f : Nat → α) {i j : Nat} (v : α) (h : j ≠ i) : setF f i v j = f j := if_neg h
theorem HeAt.put {w : World} {S : Nat → Prop} {bp b7 bh rb n cn : Nat} {bcs : List Nat} {V : Nat → Option Addr} {vn vc : Nat → Nat} {CA : Option Addr} {cc : Nat} (h : HeAt w S bp b7 bh rb n cn bcs V vn vc CA cc) (i : Nat) (A : Option Addr) (an ac : Nat) :
  HeAt (w.setCell ⟨rb, i, none⟩ (.slice A an ac)) S bp b7 bh rb n cn bcs (setF V i A) (setF vn i an) (setF vc i ac) CA cc ∧ Turns S [] 0 w (w.setCell ⟨rb, i, none⟩ (.slice A an ac)) := by
 have hk : Keeps [23] 0 w (w.setCell ⟨rb, i, none⟩ (.slice A an ac)) := (Keeps.refl _ _ _).setCell h.rows (by simp) (Nat.zero_le _) _
 have hb := h.rows.set_ i (.slice A an ac)
 rw [tab_set] at hb
 have e : (tab n fun p => if p = i then Value.slice A an ac else .slice (V p) (vn p) (vc p)) = tab n fun p => .slice (setF V i A p) (setF vn i an p) (setF vc i ac p) := tab_ext fun p _ => by
  unfold setF
  split <;> rfl
 rw [e] at hb
 exact ⟨⟨h.s7, h.box.keeps (by decide) hk, h.sh, h.blk.keeps (by decide) hk, h.sr, hb, Own.keeps h.curs (by decide) hk, h.inC⟩, Turns.setCell w h.sr _⟩
theorem HdV.good (B : Nat) (V : Option Addr) (vn vc : Nat) (x : Option RowM) : Good B fun w S => HdV w S V vn vc x := by
 refine ⟨fun w S S' h hs => h.more hs, fun w S h => ?_, fun w w' S T h hd ht => ?_⟩
 ·rcases h with h | ⟨a, r, c, h1, h2, h3, h4, h5⟩
  ·exact .inl h
  ·exact .inr ⟨a, r, c, h1, h2, h3, fun b o e => ⟨h4 b o e, Good.own_lt h3 e⟩, h5⟩
 ·rcases h with h | ⟨a, r, c, h1, h2, h3, h4, h5⟩
  ·exact .inl h
  ·exact .inr ⟨a, r, c, h1, h2, Own.turns h3 (by decide) (fun b o e => hd _ (h4 b o e)) ht, h4, h5⟩
theorem HdV.in_ {w : World} {S : Nat → Prop} {V : Option Addr} {vn vc : Nat} {x : Option RowM} (h : HdV w S V vn vc x) : HdIn w V vn vc x := by
 rcases h with ⟨h1, h2⟩ | ⟨a, r, c, h1, h2, h3, _, h4⟩
 ·injection h1 with a b c
  exact .inl ⟨a, b, c, h2⟩
 ·injection h1 with e1 e2 e3
  subst e1; subst e2; subst e3
  exact .inr ⟨a, r, rfl, rfl, h2, Own.rd h3, h4⟩
end Go.Proofs.YtcadjekcdokkjaaGreat
namespace Go.Proofs.YtcadjekcdokkjaaGreat
set_option linter.unusedVariables false
set_option linter.unusedSimpArgs false
open Go.RowKit
attribute [local go_sem ↓] Go.wp_at_zero Go.wp_at_succ
theorem Sto.turnsN {w w' : World} {B B0 bs : Nat} {s : Pg.St} {S : Nat → Prop} (h : Sto w B bs s) (hT : Turns S [] B0 w w') (hn : ∀ k, S k → k < w.heap.size → ∀ c t f, w.heap[k]? = some (.cells c t f) → t ∉ StT) : Sto w' B bs s := by
 obtain ⟨bp, qs, h⟩ := h
 have hk : ∀ g t xs, t ∈ StT → Blk w g t xs → Blk w' g t xs := fun g t xs ht hb => hb.turns (fun hs => hn g hs hb.lt _ _ _ hb ht) (by simp) hT
 refine ⟨bp, qs, h.hs, h.hp, hk _ _ _ (by simp) h.st, hk _ _ _ (by simp) h.row, h.len, h.most, fun i l hi => ?_, h.none_, h.inj⟩
 obtain ⟨g, h1, h2, h3, h4⟩ := h.some_ i l hi
 exact ⟨g, h1, h2, hk _ _ _ (by simp) h3, h4⟩
theorem Sto.turns1 {w w' : World} {B B0 bs g : Nat} {s : Pg.St} {t : TypeId} {xs : List Value} (h : Sto w B bs s) (hT : Turns (fun i => i = g) [] B0 w w') (hb : Blk w g t xs) (ht : t ∉ StT) : Sto w' B bs s :=
 h.turnsN hT fun k hk _ c t' f e => by
  subst hk
  unfold Blk at hb
  rw [hb] at e
  injection e with e
  injection e with _ e
  rw [← e]
  exact ht
def PuP (bp most left least : Nat) (w : World) (S : Nat → Prop) : Prop := S bp ∧ Pu w bp most left least
theorem PuP.good (B bp most left least : Nat) : Good B (PuP bp most left least) := Good.blk bp 74 _ (by decide)
def CurP (bs : Nat) (bcs : List Nat) (s : Pg.St) (F : List Nat) (rest : Nat → List RowM) (V : Nat → Option Addr) (vn vc : Nat → Nat) (H : Nat → Option RowM) (i : Nat) (w : World) (S : Nat → Prop) : Prop :=
 (∀ bc, bcs[i]? = some bc → CuP bs bc s F (rest i) w S) ∧ HdV w S (V i) (vn i) (vc i) (H i)
theorem CurP.good (B bs : Nat) (bcs : List Nat) (s : Pg.St) (F : List Nat) (rest : Nat → List RowM) (V : Nat → Option Addr) (vn vc : Nat → Nat) (H : Nat → Option RowM) (i : Nat) : Good B (CurP bs bcs s F rest V vn vc H i) :=
 Good.and (Good.all fun bc => Good.imp (CuP.good B bs bc s F (rest i))) (HdV.good B (V i) (vn i) (vc i) (H i))
theorem CurP.upd {bs : Nat} {bcs : List Nat} {s : Pg.St} {F : List Nat} {rest rest' : Nat → List RowM} {V V' : Nat → Option Addr} {vn vc vn' vc' : Nat → Nat} {H H' : Nat → Option RowM} {i : Nat}
  (h1 : ∀ j, j ≠ i → rest' j = rest j) (h2 : ∀ j, j ≠ i → V' j = V j) (h3 : ∀ j, j ≠ i → vn' j = vn j) (h4 : ∀ j, j ≠ i → vc' j = vc j) (h5 : ∀ j, j ≠ i → H' j = H j) :
  updP (CurP bs bcs s F rest V vn vc H) i (CurP bs bcs s F rest' V' vn' vc' H' i) = CurP bs bcs s F rest' V' vn' vc' H' := by
 funext k
 by_cases e : k = i
 ·rw [e, updP_at]
 ·rw [updP_ne _ _ e]
  unfold CurP
  rw [h1 k e, h2 k e, h3 k e, h4 k e, h5 k e]
def MgS (w0 : World) (B : Nat) (col0 : Nat → Nat) (P0 P2 P4 : World → (Nat → Prop) → Prop) (bs bp most b7 bh rb n : Nat) (s : Pg.St) (F : List Nat) (bcs : List Nat) (left least : Nat) (rest : Nat → List RowM) (H : Nat → Option RowM) (w : World) : Prop :=
 ∃ col V vn vc, Fam w0 w B col0 col (MP P0 (PuP bp most left least) P2 (HeP bp b7 bh rb n bcs.length bcs V vn vc) P4 (CurP bs bcs s F rest V vn vc H)) ∧ Sto w B bs s
theorem MgS.below {w0 w w' : World} {B : Nat} {col0 : Nat → Nat} {P0 P2 P4 : World → (Nat → Prop) → Prop} {bs bp most b7 bh rb n : Nat} {s : Pg.St} {F bcs : List Nat} {left least : Nat} {rest : Nat → List RowM} {H : Nat → Option RowM}
  (h : MgS w0 B col0 P0 P2 P4 bs bp most b7 bh rb n s F bcs left least rest H w) (hb : Below w.heap.size w w') : MgS w0 B col0 P0 P2 P4 bs bp most b7 bh rb n s F bcs left least rest H w' := by
 obtain ⟨col, V, vn, vc, h1, h2⟩ := h
 exact ⟨_, V, vn, vc, h1.below hb (d := 1) (by omega), h2.below hb⟩
section
variable {w0 w w' : World} {B : Nat} {col0 col : Nat → Nat} {P0 P2 P4 : World → (Nat → Prop) → Prop} {bs bp most b7 bh rb n : Nat} {s : Pg.St} {F bcs : List Nat} {left least left' least' : Nat} {rest rest' : Nat → List RowM} {H H' : Nat → Option RowM} {V V' : Nat → Option Addr} {vn vc vn' vc' : Nat → Nat} {cn : Nat}
theorem Fam.purse (h : Fam w0 w B col0 col (MP P0 (PuP bp most left least) P2 (HeP bp b7 bh rb n cn bcs V vn vc) P4 (CurP bs bcs s F rest V' vn' vc' H))) (hs : Sto w B bs s) (hT : Turns (fun i => i = bp) [] 0 w w') (hp : Pu w' bp most left' least') :
  Fam w0 w' B col0 (paint w col 1) (MP P0 (PuP bp most left' least') P2 (HeP bp b7 bh rb n cn bcs V vn vc) P4 (CurP bs bcs s F rest V' vn' vc' H)) ∧ Sto w' B bs s := by
 have h1 : PuP bp most left least w (Of w col 1) := h.at_ 1
 refine ⟨(h.turn (d := 1) (Q := PuP bp most left' least') (by omega) ((Turns.wk hT).more fun k _ hk => ?_) (PuP.good _ _ _ _ _) ⟨.inl h1.1, hp⟩).cast MP.up1, hs.turns1 hT h1.2 (by decide)⟩
 rw [hk]
 exact .inl h1.1
theorem Fam.header (h : Fam w0 w B col0 col (MP P0 (PuP bp most left least) P2 (HeP bp b7 bh rb n cn bcs V vn vc) P4 (CurP bs bcs s F rest V' vn' vc' H))) (hs : Sto w B bs s) (i : Nat) (A : Option Addr) (an ac : Nat) :
  Fam w0 (w.setCell ⟨rb, i, none⟩ (.slice A an ac)) B col0 (paint w col 3) (MP P0 (PuP bp most left least) P2 (HeP bp b7 bh rb n cn bcs (setF V i A) (setF vn i an) (setF vc i ac)) P4 (CurP bs bcs s F rest V' vn' vc' H)) ∧ Sto (w.setCell ⟨rb, i, none⟩ (.slice A an ac)) B bs s := by
 obtain ⟨CA, cc, h3⟩ : HeP bp b7 bh rb n cn bcs V vn vc w (Of w col 3) := h.at_ 3
 obtain ⟨h4, hT⟩ := h3.put i A an ac
 refine ⟨(h.turn (d := 3) (Q := HeP bp b7 bh rb n cn bcs (setF V i A) (setF vn i an) (setF vc i ac)) (by omega) ((Turns.wk hT).more fun k _ hk => .inl hk) (HeP.good ..) ?_).cast MP.up3, hs.turns1 (Turns.setCell (S := fun k => k = rb) (B := 0) w rfl _) h3.rows (by decide)⟩
 exact (HeP.good (B := B) ..).mono _ _ _ ⟨CA, cc, h4⟩ fun k hk => .inl hk
theorem Fam.cursor (h : Fam w0 w B col0 col (MP P0 (PuP bp most left least) P2 (HeP bp b7 bh rb n cn bcs V vn vc) P4 (CurP bs bcs s F rest V' vn' vc' H))) (i : Nat) (hT : Turns (Mine w col (i + 5)) StT B w w') (t : List RowM) (A : Option Addr) (an ac : Nat) (x : Option RowM)
  (hq : (∀ bc, bcs[i]? = some bc → CuP bs bc s F t w' (Mine w col (i + 5))) ∧ HdV w' (Mine w col (i + 5)) A an ac x) :
  Fam w0 w' B col0 (paint w col (i + 5)) (MP P0 (PuP bp most left least) P2 (HeP bp b7 bh rb n cn bcs V vn vc) P4 (CurP bs bcs s F (setF rest i t) (setF V' i A) (setF vn' i an) (setF vc' i ac) (setF H i x))) := by
 have e := CurP.upd (bs := bs) (bcs := bcs) (s := s) (F := F) (rest := rest) (rest' := setF rest i t) (V := V') (V' := setF V' i A) (vn := vn') (vn' := setF vn' i an) (vc := vc') (vc' := setF vc' i ac) (H := H) (H' := setF H i x) (i := i) (fun j hj => setF_ne _ _ hj) (fun j hj => setF_ne _ _ hj) (fun j hj => setF_ne _ _ hj) (fun j hj => setF_ne _ _ hj) (fun j hj => setF_ne _ _ hj)
 refine (h.turn (d := i + 5) (Q := CurP bs bcs s F (setF rest i t) (setF V' i A) (setF vn' i an) (setF vc' i ac) (setF H i x) i) (by omega) hT (CurP.good ..) ?_).cast ?_
 ·unfold CurP
  rw [setF_at, setF_at, setF_at, setF_at, setF_at]
  exact hq
 ·rw [MP.up5, e]
end
theorem setF_setF {α : Type} (f : Nat → α) (i : Nat) (u v : α) : setF (setF f i u) i v = setF f i v := by
 funext p
 unfold setF
 split <;> rfl
def HNext (w0 : World) (B : Nat) (col0 : Nat → Nat) (P0 P2 P4 : World → (Nat → Prop) → Prop) (bs bp most b7 bh rb n : Nat) (s : Pg.St) (F : List Nat) (bcs : List Nat) (left least : Nat) (rest : Nat → List RowM) (H : Nat → Option RowM) (i : Nat) (e : Ending) (w' : World) : Prop :=
 (rest i = [] ∧ e = .returned (.int .i64 0) ∧ MgS w0 B col0 P0 P2 P4 bs bp most b7 bh rb n s F bcs left least rest (setF H i none) w') ∨
 (∃ r t, rest i = r :: t ∧ left < rowC r ∧ e = .returned (.int .i64 5) ∧ MgS w0 B col0 P0 P2 P4 bs bp most b7 bh rb n s F bcs left least (setF rest i t) (setF H i none) w') ∨
 (∃ r t, rest i = r :: t ∧ rowC r ≤ left ∧ e = .returned (.int .i64 0) ∧ MgS w0 B col0 P0 P2 P4 bs bp most b7 bh rb n s F bcs (left - rowC r) (min least (left - rowC r)) (setF rest i t) (setF H i (some r)) w')
set_option maxHeartbeats 16000000 in
set_option maxRecDepth 100000 in
theorem hnext_c (w0 : World) (B : Nat) (col0 : Nat → Nat) (P0 P2 P4 : World → (Nat → Prop) → Prop) (bs bp most b7 bh rb n : Nat) (s : Pg.St) (F : List Nat) (bcs : List Nat) (left least : Nat) (rest : Nat → List RowM) (H : Nat → Option RowM) (i : Nat) (w : World)
  (h : MgS w0 B col0 P0 P2 P4 bs bp most b7 bh rb n s F bcs left least rest H w) (hi : i < bcs.length) (hin : i < n) (hn : n ≤ 1000) (hcl : bcs.length ≤ 1000) (hl : left ≤ 1000000000000) (hle : least ≤ 1000000000000)
  (hfine : ∀ r ∈ rest i, Pg.Fine r ∧ rowC r ≤ 1000000000000 ∧ r.length ≤ 1000000) (hrl : (rest i).length ≤ 1000000) (hF : ∀ k ∈ F, k < 1000000) :
  Calls Tryz.prog 81 #[.pointer (some ⟨bh, 0, none⟩), .int .i64 (i : Int)] w fun e w' => HNext w0 B col0 P0 P2 P4 bs bp most b7 bh rb n s F bcs left least rest H i e w' := by
 obtain ⟨col, V, vn, vc, hf, hs⟩ := h
 obtain ⟨CA, cc, h3⟩ : HeP bp b7 bh rb n bcs.length bcs V vn vc w (Of w col 3) := hf.at_ 3
 obtain ⟨bc, hbc⟩ : ∃ bc, bcs[i]? = some bc := ⟨_, List.getElem?_eq_getElem hi⟩
 have c0 := h3.blk.cell 0
 have c1 := h3.blk.cell 1
 have c2 := h3.blk.cell 2
 simp only [List.getElem?_cons_zero, List.getElem?_cons_succ] at c0 c1 c2
 have r0 := h3.rows.cell i
 have rf := h3.rows.frozen i
 rw [tab_get hin] at r0
 obtain ⟨hf1, hs1⟩ := hf.header hs i none 0 0
 have hne1 : rb ≠ bh := Blk.ne_of_type h3.rows h3.blk (by decide)
 obtain ⟨h4, _⟩ := h3.put i none 0 0
 have d0 := h4.blk.cell 0
 have d1 := h4.blk.cell 1
 have d2 := h4.blk.cell 2
 simp only [List.getElem?_cons_zero, List.getElem?_cons_succ] at d0 d1 d2
 have hcn : (Ptrs bcs)[i]? = some (.pointer (some ⟨bc, 0, none⟩)) := by unfold Ptrs; rw [List.getElem?_map, hbc]; rfl
 obtain ⟨cb, rfl⟩ : ∃ cb, CA = some ⟨cb, 0, none⟩ := by
  rcases Own.lies h4.curs with ⟨ha, _, _, hx⟩ | ⟨g', cur, ha, _⟩
  ·exfalso
   rw [hx] at hcn
   cases hcn
  ·exact ⟨g', ha⟩
 obtain ⟨q0, _⟩ := Own.cell1 h4.curs hcn
 have hiI : (i : Int) < (n : Int) := by omega
 have hiI0 : (0 : Int) ≤ (i : Int) := by omega
 have hiC : (i : Int) < (bcs.length : Int) := by omega
 obtain ⟨cn, hcnl⟩ : ∃ cn, bcs.length = cn := ⟨_, rfl⟩
 rw [hcnl] at c1 d1 hiC
 have Hbc := Lib.hid hbc
 have Hfine := Lib.hid hfine
 have HF := Lib.hid hF
 have Hf1 := Lib.hid hf1
 have Hs1 := Lib.hid hs1
 have hcur := (hf1.at_ (i + 5)).1 bc hbc
 cases hri : rest i with
 | nil =>
  rw [hri] at hcur
  have hcall := Lib.hid (cnext_end _ B bs bc s F _ hcur hs1)
  have Hri := Lib.hid hri
  clear hf hs h3 h4 hf1 hs1 hcur hri hbc hcn hfine hF
  go_enter Tryz.func81, Tryz.ntmps81
  go_wp2_with fail
  refine hcall.out.mono ?_
  rintro e w2 ⟨rfl, rfl⟩
  clear hcall
  go_wp2_with fail
  go_ret
  have hf2 := Hf1.out.cursor i (Turns.refl _ _ _ _) [] none 0 0 none ⟨fun bc' hbc' => by
   have := (Hf1.out.at_ (i + 5)).1 bc' hbc'
   rw [Hri.out] at this
   exact (CuP.good B bs bc' s F []).mono _ _ _ this fun k hk => .inl hk, .inl ⟨rfl, rfl⟩⟩
  have er : setF rest i [] = rest := by
   funext k
   unfold setF
   split
   ·rename_i e; rw [e, Hri.out]
   ·rfl
  rw [er] at hf2
  exact .inl ⟨Hri.out, rfl, _, _, _, _, hf2, Hs1.out⟩
 | cons r t =>
  rw [hri] at hcur
  obtain ⟨hfr, hcr, hlr⟩ := hfine r (by rw [hri]; simp)
  have hcall := Lib.hid (cnext_row _ B bs bc s F r t _ hcur hs1 hfr hF (by rw [hri, List.length_cons] at hrl; omega))
  have Hri := Lib.hid hri
  have Hlr := Lib.hid hlr
  have Hcr := Lib.hid hcr
  clear hf hs h3 h4 hf1 hs1 hcur hri hbc hcn hfine hF hfr hrl hlr hcr
  go_enter Tryz.func81, Tryz.ntmps81
  go_wp2_with fail
  refine hcall.out.mono ?_
  rintro e w2 ⟨R, rc, rfl, ho, hok, hcu, hs2, hT2⟩
  generalize w.setCell ⟨rb, i, none⟩ (.slice none 0 0) = w1 at *
  clear hcall
  obtain ⟨col1, hcol1⟩ : ∃ col1, col1 = paint w col 3 := ⟨_, rfl⟩
  rw [← hcol1] at Hf1 hcu hT2
  have hT3 : Turns (Mine w1 col1 (i + 5)) StT B w1 w2 := hT2.wk
  have hcu2 : ∀ bc', bcs[i]? = some bc' → CuP bs bc' s F t w2 (Mine w1 col1 (i + 5)) := fun bc' hbc' => by
   rw [Hbc.out] at hbc'
   injection hbc' with hbc'
   subst hbc'
   exact hcu
  have hrdp := Lib.hid (prow_any r r.length rc (some R) w2.drew rfl (Own.rd (Own.below ho (Below.refl _ _).drew)) Hcr.out (by have := Hlr.out; omega))
  by_cases hc : left < rowC r
  ·have hf2 := Hf1.out.cursor i hT3 t none 0 0 none ⟨hcu2, .inl ⟨rfl, rfl⟩⟩
   obtain ⟨CA2, cc2, h5⟩ : HeP bp b7 bh rb n cn bcs (setF V i none) (setF vn i 0) (setF vc i 0) w2 _ := by
    rw [← hcnl]
    exact hf2.at_ 3
   have g0 := h5.blk.cell 0
   simp only [List.getElem?_cons_zero, List.getElem?_cons_succ] at g0
   have hp2 : PuP bp most left least w2 _ := hf2.at_ 1
   have Hp2 := Lib.hid hp2.2
   have Hf2 := Lib.hid hf2
   have Hs2 := Lib.hid hs2
   have Hc := Lib.hid hc
   obtain ⟨C, hC⟩ : ∃ C, rowC r = C := ⟨_, rfl⟩
   rw [hC] at hrdp Hcr Hc
   have HC := Lib.hid hC
   have gd0 : w2.drew.cell? ⟨bh, 0, none⟩ = some (.pointer (some ⟨bp, 0, none⟩)) := g0
   clear hf2 h5 hp2 hs2 ho hok hcu hcu2 hT2 hT3 Hf1 Hs1 hc hC c0 c1 c2 d0 d1 d2 r0 rf q0 hcol1
   go_wp2_with fail
   go_region_held3 (fun w' => w'.cell? ⟨bh, 0, none⟩ = some (.pointer (some ⟨bp, 0, none⟩)))
    (first | assumption | exact g0 | exact gd0 | exact k3)
    (first | (go_at_call 48; refine hrdp.out.mono ?_; rintro e w3 ⟨rfl, hb3⟩; have k3 := cell_keep hb3 gd0; have hp3 := (Hp2.out.below (Below.refl _ _).drew).below hb3)
           | (go_at_call 25; refine (ptake_no bp most left least C w3 hp3 Hcr.out Hc.out).mono ?_; rintro e w4 ⟨rfl, rfl⟩))
   all_goals
    go_wp2_with fail
    go_ret
    have hb4 : Below w2.heap.size w2 w3 := (Below.refl w2.heap.size w2).drew.trans hb3
    refine .inr (.inl ⟨r, t, Hri.out, by rw [HC.out]; exact Hc.out, rfl, _, _, _, _, Hf2.out.below hb4 (d := 1) (by omega), Hs2.out.below hb4⟩)
  ·have hf2 := Hf1.out.cursor i hT3 t (some R) r.length rc (some r) ⟨hcu2, .inr ⟨R, r, rc, rfl, rfl, Own.lower ho (Nat.zero_le _), fun b o e => .inr (ho.lt b (by rw [e]; rfl)).1, hok, Hlr.out⟩⟩
   obtain ⟨CA2, cc2, h5⟩ : HeP bp b7 bh rb n cn bcs (setF V i none) (setF vn i 0) (setF vc i 0) w2 _ := by
    rw [← hcnl]
    exact hf2.at_ 3
   have g0 := h5.blk.cell 0
   simp only [List.getElem?_cons_zero, List.getElem?_cons_succ] at g0
   have hp2 : PuP bp most left least w2 _ := hf2.at_ 1
   have Hp2 := Lib.hid hp2.2
   have HBk2 := Lib.hid h5.blk
   have hnb : bh ≠ bp := Blk.ne_of_type h5.blk hp2.2 (by decide)
   have Hf2 := Lib.hid hf2
   have Hs2 := Lib.hid hs2
   have hc' : rowC r ≤ left := by omega
   have Hc := Lib.hid hc'
   obtain ⟨C, hC⟩ : ∃ C, rowC r = C := ⟨_, rfl⟩
   rw [hC] at hrdp Hcr Hc
   have HC := Lib.hid hC
   have gd0 : w2.drew.cell? ⟨bh, 0, none⟩ = some (.pointer (some ⟨bp, 0, none⟩)) := g0
   clear hf2 h5 hp2 hs2 ho hok hcu hcu2 hT2 hT3 Hf1 Hs1 hc hc' hC c0 c1 c2 d0 d1 d2 r0 rf q0 hcol1
   go_wp2_with fail
   go_region_held3 (fun w' => w'.cell? ⟨bh, 0, none⟩ = some (.pointer (some ⟨bp, 0, none⟩)))
    (first | assumption | exact g0 | exact gd0 | exact k3 | exact k4)
    (first | (go_at_call 48; refine hrdp.out.mono ?_; rintro e w3 ⟨rfl, hb3⟩; have k3 := cell_keep hb3 gd0; have hp3 := (Hp2.out.below (Below.refl _ _).drew).below hb3; have hbk3 := (HBk2.out.below (Below.refl _ _).drew).below hb3)
           | (go_at_call 25; refine (ptake_yes bp most left least C w3 hp3 Hc.out hl hle).mono ?_; rintro e w4 ⟨rfl, hp4, hT4⟩; have k4 := (hbk3.turns hnb (by simp) hT4).cell 0; simp only [List.getElem?_cons_zero, List.getElem?_cons_succ] at k4))
   all_goals
    have hb4 : Below w2.heap.size w2 w3 := (Below.refl w2.heap.size w2).drew.trans hb3
    obtain ⟨hf4, hs4⟩ := (Hf2.out.below hb4 (d := 1) (by omega)).purse (Hs2.out.below hb4) hT4 hp4
    obtain ⟨CA4, cc4, h6⟩ : HeP bp b7 bh rb n bcs.length bcs (setF V i none) (setF vn i 0) (setF vc i 0) w4 _ := hf4.at_ 3
    obtain ⟨hf5, hs5⟩ := hf4.header hs4 i (some R) r.length rc
    rw [setF_setF, setF_setF, setF_setF] at hf5
    have Hf5 := Lib.hid hf5
    have Hs5 := Lib.hid hs5
    have j2 := h6.blk.cell 2
    simp only [List.getElem?_cons_zero, List.getElem?_cons_succ] at j2
    have jr := h6.rows.cell i
    have jf := h6.rows.frozen i
    rw [tab_get hin] at jr
    clear hf4 hs4 h6 hf5 hs5 Hf2 Hs2 hbk3 hp3 hp4 hT4 hb4 hb3 HBk2 Hp2 hrdp g0 gd0 k3
    go_wp2_with fail
    go_ret
    refine .inr (.inr ⟨r, t, Hri.out, by rw [HC.out]; exact Hc.out, rfl, ?_⟩)
    rw [HC.out]
    exact ⟨_, _, _, _, Hf5.out, Hs5.out⟩
def heldC (x : Option RowM) : Nat := (x.map rowC).getD 0
theorem setF_same {α : Type} (f : Nat → α) (i : Nat) (v : α) (h : f i = v) : setF f i v = f := by
 funext p
 unfold setF
 split
 ·rename_i e; rw [e, h]
 ·rfl
set_option maxHeartbeats 16000000 in
set_option maxRecDepth 100000 in
theorem hgive_c (w0 : World) (B : Nat) (col0 : Nat → Nat) (P0 P2 P4 : World → (Nat → Prop) → Prop) (bs bp most b7 bh rb n : Nat) (s : Pg.St) (F : List Nat) (bcs : List Nat) (left least : Nat) (rest : Nat → List RowM) (H : Nat → Option RowM) (i : Nat) (w : World)
  (h : MgS w0 B col0 P0 P2 P4 bs bp most b7 bh rb n s F bcs left least rest H w) (hin : i < n) (hn : n ≤ 1000) (hl : left + heldC (H i) ≤ most) (hm : most ≤ 1000000000000) :
  Calls Tryz.prog 79 #[.pointer (some ⟨bh, 0, none⟩), .int .i64 (i : Int)] w fun e w' => e = .returned (.tuple #[]) ∧ MgS w0 B col0 P0 P2 P4 bs bp most b7 bh rb n s F bcs (left + heldC (H i)) least rest (setF H i none) w' := by
 obtain ⟨col, V, vn, vc, hf, hs⟩ := h
 obtain ⟨CA, cc, h3⟩ : HeP bp b7 bh rb n bcs.length bcs V vn vc w (Of w col 3) := hf.at_ 3
 have hv := (hf.at_ (i + 5)).2
 have hp := hf.at_ 1
 have c0 := h3.blk.cell 0
 have c2 := h3.blk.cell 2
 simp only [List.getElem?_cons_zero, List.getElem?_cons_succ] at c0 c2
 have r0 := h3.rows.cell i
 rw [tab_get hin] at r0
 have hiI : (i : Int) < (n : Int) := by omega
 have hiI0 : (0 : Int) ≤ (i : Int) := by omega
 rcases hv with ⟨hv, hx⟩ | ⟨a, r, c, hv, hx, ho, hino, hok, hlr⟩
 ·rw [hv] at r0
  have Hf := Lib.hid hf
  have Hs := Lib.hid hs
  have Hx := Lib.hid hx
  clear hf hs h3 hv hp hx
  go_enter Tryz.func79, Tryz.ntmps79
  go_wp2_with fail
  go_end0
  rw [Hx.out, setF_same H i none Hx.out]
  exact ⟨rfl, _, _, _, _, Hf.out, Hs.out⟩
 ·rw [hv] at r0
  rw [hx] at hl ⊢
  change left + rowC r ≤ most at hl
  have Hf := Lib.hid hf
  have Hs := Lib.hid hs
  have Hx := Lib.hid hx
  have HBk := Lib.hid h3.blk
  have HRk := Lib.hid h3.rows
  have Hp := Lib.hid hp.2
  have hnb : bh ≠ bp := Blk.ne_of_type h3.blk hp.2 (by decide)
  have hnr : rb ≠ bp := Blk.ne_of_type h3.rows hp.2 (by decide)
  have hrdp := Lib.hid (prow_any r r.length c (some a) w.drew rfl (Own.rd (Own.below ho (Below.refl _ _).drew)) (by omega) (by omega))
  show Calls _ _ _ _ fun e w' => e = .returned (.tuple #[]) ∧ MgS w0 B col0 P0 P2 P4 bs bp most b7 bh rb n s F bcs (left + rowC r) least rest (setF H i none) w'
  have Hl := Lib.hid hl
  obtain ⟨C, hC⟩ : ∃ C, rowC r = C := ⟨_, rfl⟩
  rw [hC] at hrdp Hl ⊢
  have Hv := Lib.hid hv
  have gd0 : w.drew.cell? ⟨bh, 0, none⟩ = some (.pointer (some ⟨bp, 0, none⟩)) := c0
  have gd2 : w.drew.cell? ⟨bh, 2, none⟩ = some (.slice (some ⟨rb, 0, none⟩) n n) := c2
  have gdr : w.drew.cell? ⟨rb, i, none⟩ = some (.slice (some a) r.length c) := r0
  clear hf hs h3 hv hp hx hl hC ho hino hok
  go_enter Tryz.func79, Tryz.ntmps79
  go_wp2_with fail
  go_region_held3 (fun w' => w'.cell? ⟨bh, 0, none⟩ = some (.pointer (some ⟨bp, 0, none⟩)) ∧ w'.cell? ⟨bh, 2, none⟩ = some (.slice (some ⟨rb, 0, none⟩) n n) ∧ w'.cell? ⟨rb, i, none⟩ = some (.slice (some a) r.length c))
   (first | assumption | exact ⟨c0, c2, r0⟩ | exact ⟨gd0, gd2, gdr⟩ | exact ⟨k3, k32, k3r⟩ | exact ⟨k4, k42, k4r⟩)
   (first | (go_at_call 48; refine hrdp.out.mono ?_; rintro e w3 ⟨rfl, hb3⟩; have k3 := cell_keep hb3 gd0; have k32 := cell_keep hb3 gd2; have k3r := cell_keep hb3 gdr; have hp3 := (Hp.out.below (Below.refl _ _).drew).below hb3; have hbk3 := (HBk.out.below (Below.refl _ _).drew).below hb3; have hrk3 := (HRk.out.below (Below.refl _ _).drew).below hb3)
          | (go_at_call 73; refine (pgive_any bp most left least C w3 hp3 Hl.out hm).mono ?_; rintro e w4 ⟨rfl, hp4, hT4⟩; have k4 := (hbk3.turns hnb (by simp) hT4).cell 0; have k42 := (hbk3.turns hnb (by simp) hT4).cell 2; simp only [List.getElem?_cons_zero, List.getElem?_cons_succ] at k4 k42; have k4r := (hrk3.turns hnr (by simp) hT4).cell i; rw [tab_get hin, Hv.out] at k4r))
  all_goals
   have hb4 : Below w.heap.size w w3 := (Below.refl w.heap.size w).drew.trans hb3
   obtain ⟨hf4, hs4⟩ := (Hf.out.below hb4 (d := 1) (by omega)).purse (Hs.out.below hb4) hT4 hp4
   obtain ⟨CA4, cc4, h6⟩ : HeP bp b7 bh rb n bcs.length bcs V vn vc w4 _ := hf4.at_ 3
   obtain ⟨hf5, hs5⟩ := hf4.header hs4 i none 0 0
   have jf := h6.rows.frozen i
   have hf6 := hf5.cursor i (Turns.refl _ _ _ _) (rest i) none 0 0 none ⟨fun bc' hbc' => (CuP.good B bs bc' s F _).mono _ _ _ ((hf5.at_ (i + 5)).1 bc' hbc') fun k hk => .inl hk, .inl ⟨rfl, rfl⟩⟩
   rw [setF_same rest i _ rfl] at hf6
   have Hf6 := Lib.hid hf6
   have Hs5 := Lib.hid hs5
   clear hf4 hs4 h6 hf5 hs5 hf6 Hf Hs hbk3 hrk3 hp3 hp4 hT4 hb4 hb3 HBk HRk Hp hrdp c0 c2 r0 gd0 gd2 gdr k3 k32 k3r
   go_wp2_with fail
   go_end0
   exact ⟨rfl, _, _, _, _, Hf6.out, Hs5.out⟩
def heldN (H : Nat → Option RowM) : Nat → Nat
 | 0 => 0
 | j + 1 => heldN H j + heldC (H j)
theorem heldN_congr {H H' : Nat → Option RowM} : ∀ j, (∀ p, p < j → H p = H' p) → heldN H j = heldN H' j
 | 0, _ => rfl
 | j + 1, h => by
  unfold heldN
  rw [heldN_congr j fun p hp => h p (by omega), h j (by omega)]
theorem heldN_part (H : Nat → Option RowM) {i j : Nat} (h : i ≤ j) : heldN H i ≤ heldN H j := by
 induction j with
 | zero => obtain rfl : i = 0 := by omega
           exact Nat.le_refl _
 | succ j ih =>
  by_cases e : i = j + 1
  ·rw [e]; exact Nat.le_refl _
  ·have := ih (by omega)
   show _ ≤ heldN H j + _
   omega
theorem heldN_set (H : Nat → Option RowM) (i : Nat) (x : Option RowM) (j : Nat) (hi : i < j) : heldN (setF H i x) j + heldC (H i) = heldN H j + heldC x := by
 induction j with
 | zero => omega
 | succ j ih =>
  unfold heldN
  by_cases e : i = j
  ·subst e
   rw [setF_at, heldN_congr (H := setF H i x) (H' := H) i fun p hp => setF_ne H x (show p ≠ i by omega)]
   omega
  ·have := ih (by omega)
   rw [setF_ne H x (show j ≠ i from fun h => e h.symm)]
   omega
set_option maxHeartbeats 16000000 in
set_option maxRecDepth 100000 in
theorem hback_c (w0 : World) (B : Nat) (col0 : Nat → Nat) (P0 P2 P4 : World → (Nat → Prop) → Prop) (bs bp most b7 bh rb n : Nat) (s : Pg.St) (F : List Nat) (bcs : List Nat) (left least : Nat) (rest : Nat → List RowM) (H : Nat → Option RowM) (u : FrameMode) (w : World)
  (h : MgS w0 B col0 P0 P2 P4 bs bp most b7 bh rb n s F bcs left least rest H w) (hn : n ≤ 1000) (hl : left + heldN H n ≤ most) (hm : most ≤ 1000000000000) :
  CallsD Tryz.prog 78 #[.pointer (some ⟨b7, 0, none⟩)] u w fun e u' w' => u' = u ∧ e = .returned (.tuple #[]) ∧ MgS w0 B col0 P0 P2 P4 bs bp most b7 bh rb n s F bcs (left + heldN H n) least rest (fun p => if p < n then none else H p) w' := by
 obtain ⟨CA, cc, h3⟩ : ∃ CA cc V vn vc S, HeAt w S bp b7 bh rb n bcs.length bcs V vn vc CA cc := by
  obtain ⟨col, V, vn, vc, hf, hs⟩ := h
  obtain ⟨CA, cc, h3⟩ : HeP bp b7 bh rb n bcs.length bcs V vn vc w (Of w col 3) := hf.at_ 3
  exact ⟨CA, cc, _, _, _, _, h3⟩
 obtain ⟨V, vn, vc, S, h3⟩ := h3
 have b0 := h3.box.cell 0
 have c2 := h3.blk.cell 2
 simp only [List.getElem?_cons_zero, List.getElem?_cons_succ] at b0 c2
 have Hh := Lib.hid h
 clear h h3
 go_enter_d Tryz.func78, Tryz.ntmps78
 go_wp2_with fail
 go_loopw [7] (fun vi wr => ∃ j : Nat, j ≤ n ∧ vi = .int .i64 (j : Int) ∧ Hid (MgS w0 B col0 P0 P2 P4 bs bp most b7 bh rb n s F bcs (left + heldN H j) least rest (fun p => if p < j then none else H p) wr)) (fun vi _ => n - (intOf vi).toNat)
 case atStart => exact ⟨0, by omega, by go_num, Hh.out⟩
 case round =>
  obtain ⟨j, hj, rfl, Hr⟩ := hrel
  by_cases hlt : j < n
  ·obtain ⟨b0, hgv⟩ : wr.cell? ⟨b7, 0, none⟩ = some (.pointer (some ⟨bh, 0, none⟩)) ∧ True := by
    obtain ⟨col, V, vn, vc, hf, hs⟩ := Hr.out
    obtain ⟨CA, cc, h3⟩ : HeP bp b7 bh rb n bcs.length bcs V vn vc wr (Of wr col 3) := hf.at_ 3
    have b0 := h3.box.cell 0
    simp only [List.getElem?_cons_zero, List.getElem?_cons_succ] at b0
    exact ⟨b0, trivial⟩
   have hp1 := heldN_part H (i := j + 1) (j := n) (by omega)
   have hp2 : heldN H (j + 1) = heldN H j + heldC (H j) := rfl
   have e1 : (if j < j then none else H j) = H j := if_neg (by omega)
   have hg := hgive_c w0 B col0 P0 P2 P4 bs bp most b7 bh rb n s F bcs (left + heldN H j) least rest _ j wr Hr.out hlt hn (by show left + heldN H j + heldC (if j < j then none else H j) ≤ most; rw [e1]; omega) hm
   rw [e1] at hg
   have e2 : setF (fun p => if p < j then none else H p) j none = fun p => if p < j + 1 then none else H p := by
    funext p
    unfold setF
    by_cases e : p = j
    ·rw [if_pos e, if_pos (by omega)]
    ·rw [if_neg e]
     show (if p < j then none else H p) = _
     by_cases e3 : p < j
     ·rw [if_pos e3, if_pos (by omega)]
     ·rw [if_neg e3, if_neg (by omega)]
   rw [e2, Nat.add_assoc, ← hp2] at hg
   have Hg := Lib.hid hg
   clear hg hp1 hp2 e1 e2 hl
   go_wp2_with fail
   refine Hg.out.mono ?_
   rintro e w2 ⟨rfl, hr2⟩
   have Hr2 := Lib.hid hr2
   clear hr2 Hg Hr b0
   first | go_wp2_with fail | (go_end0; go_wp2_with fail)
   go_roundw
   case rel => exact ⟨j + 1, by omega, by go_num, Hr2⟩
   case measure => simp only [intOf, Int.toNat_natCast]; omega
  ·obtain rfl : j = n := by omega
   clear hl
   go_wp2_with fail
   go_end0
   exact ⟨rfl, Hr.out⟩
end Go.Proofs.YtcadjekcdokkjaaGreat
