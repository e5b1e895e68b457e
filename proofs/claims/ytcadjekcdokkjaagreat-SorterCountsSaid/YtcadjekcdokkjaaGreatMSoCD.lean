/- Runs merged: what is held of them and what is left. Plain laws, with no program in sight. Walks: the sorter: what a merge's parts do to the family of its owners. Walks: the sorter: a merge's tree, and where its rows go. -/
import Derived.Test.YtcadjekcdokkjaaGreatMSrM
import Derived.Test.YtcadjekcdokkjaaGreatMSoAB
namespace Go.Proofs.YtcadjekcdokkjaaGreat
set_option linter.unusedVariables false
set_option linter.unusedSimpArgs false
open Go.RowKit
def LsOf (n : Nat) (H : Nat → Option RowM) (rest : Nat → List RowM) : List (List RowM) := (List.range n).map fun p => (H p).toList ++ rest p
theorem LsOf.at_ {n : Nat} {H : Nat → Option RowM} {rest : Nat → List RowM} {p : Nat} (h : p < n) : (LsOf n H rest)[p]? = some ((H p).toList ++ rest p) := by
 unfold LsOf
 rw [List.getElem?_map, List.getElem?_range h]
 rfl
theorem LsOf.out {n : Nat} {H : Nat → Option RowM} {rest : Nat → List RowM} {p : Nat} (h : n ≤ p) : (LsOf n H rest)[p]? = none := by
 unfold LsOf
 rw [List.getElem?_eq_none]
 rw [List.length_map, List.length_range]
 exact h
theorem LsOf.ext {n : Nat} {H : Nat → Option RowM} {rest : Nat → List RowM} {Ls : List (List RowM)} (hl : Ls.length = n) (h : ∀ p, p < n → Ls[p]? = some ((H p).toList ++ rest p)) : Ls = LsOf n H rest := by
 apply List.ext_getElem?
 intro p
 by_cases hp : p < n
 ·rw [h p hp, LsOf.at_ hp]
 ·rw [LsOf.out (by omega), List.getElem?_eq_none (by omega)]
theorem LsOf.set {n : Nat} {H H' : Nat → Option RowM} {rest rest' : Nat → List RowM} {q : Nat} {t : List RowM} (hq : q < n) (h1 : ∀ p, p ≠ q → H' p = H p) (h2 : ∀ p, p ≠ q → rest' p = rest p) (h3 : (H' q).toList ++ rest' q = t) : (LsOf n H rest).set q t = LsOf n H' rest' := by
 refine LsOf.ext (by rw [List.length_set]; unfold LsOf; rw [List.length_map, List.length_range]) fun p hp => ?_
 by_cases e : q = p
 ·subst e
  rw [List.getElem?_set_self (by unfold LsOf; rw [List.length_map, List.length_range]; exact hq), h3]
 ·rw [List.getElem?_set_ne e, LsOf.at_ hp, h1 p (fun h => e h.symm), h2 p fun h => e h.symm]
def Ends (H : Nat → Option RowM) (rest : Nat → List RowM) : Prop := ∀ p, H p = none → rest p = []
theorem LsOf.pick {ks : List Ky} {n : Nat} {H : Nat → Option RowM} {rest : Nat → List RowM} {q : Nat} {r : RowM} (hq : q < n) (hr : H q = some r) (he : Ends H rest) (hall : ∀ j y, H j = some y → (j < q → 0 < cmpR ks y r) ∧ cmpR ks r y ≤ 0) : Sq.Pick (leRow ks) (LsOf n H rest) q r (rest q) := by
 have hd : ∀ j y u, (LsOf n H rest)[j]? = some (y :: u) → H j = some y := fun j y u hj => by
  by_cases hjn : j < n
  ·rw [LsOf.at_ hjn] at hj
   injection hj with hj
   cases hh : H j with
   | none =>
    rw [hh, he j hh] at hj
    cases hj
   | some z =>
    rw [hh] at hj
    injection hj with hj _
    rw [hj]
  ·rw [LsOf.out (by omega)] at hj
   cases hj
 refine ⟨by rw [LsOf.at_ hq, hr]; rfl, fun j y u hj hju => ?_, fun j y u _ hju => ?_⟩
 ·have h := (hall j y (hd j y u hju)).1 hj
  unfold leRow
  exact decide_eq_false (by omega)
 ·exact leRow_iff.2 (hall j y (hd j y u hju)).2
theorem LsOf.none_ {n : Nat} {H : Nat → Option RowM} {rest : Nat → List RowM} (he : Ends H rest) (h : ∀ j, H j = none) : ∀ l ∈ LsOf n H rest, l = [] := fun l hl => by
 unfold LsOf at hl
 obtain ⟨p, _, rfl⟩ := List.mem_map.1 hl
 rw [h p, he p (h p)]
 rfl
theorem leRow_ordb (ks : List Ky) : Sq.Ordb (leRow ks) := by
 first | exact Sq.leRow_ordb ks | exact ordb_leRow ks | exact leRow_ord ks
theorem LsOf.start (ks : List Ky) (Cs : List (List RowM)) (H : Nat → Option RowM) (rest : Nat → List RowM) (h : ∀ p (hp : p < Cs.length), (H p).toList ++ rest p = sortR ks Cs[p]) : Sq.Mg (leRow ks) Cs.flatten [] (LsOf Cs.length H rest) := by
 have e : Cs.map (Sq.sortM (leRow ks)) = LsOf Cs.length H rest := LsOf.ext (by rw [List.length_map]) fun p hp => by
  rw [List.getElem?_map, List.getElem?_eq_getElem hp, h p hp]
  rfl
 rw [← e]
 exact Sq.Mg.parts (leRow_ordb ks) Cs
end Go.Proofs.YtcadjekcdokkjaaGreat
namespace Go.Proofs.YtcadjekcdokkjaaGreat
set_option linter.unusedVariables false
set_option linter.unusedSimpArgs false
open Go.RowKit
attribute [local go_sem ↓] Go.wp_at_zero Go.wp_at_succ
theorem heldN_le {H : Nat → Option RowM} {g : Nat} : ∀ n, (∀ p, p < n → ∀ r, H p = some r → rowC r ≤ g) → heldN H n ≤ n * g
 | 0, _ => Nat.zero_le _
 | n + 1, h => by
  have ih := heldN_le n fun p hp => h p (by omega)
  have h1 : heldC (H n) ≤ g := by
   cases hh : H n with
   | none => exact Nat.zero_le _
   | some r => exact h n (by omega) r hh
  show heldN H n + heldC (H n) ≤ _
  rw [Nat.succ_mul]
  omega
theorem Own.inApd {w : World} {S : Nat → Prop} {base : Nat} {e : TypeId} {size n c N c' : Nat} {A A' : Option Addr} {xs : List Value} (ho : Own w base e size A n c xs) (hi : InS S A) (hy : ∀ j, w.heap.size ≤ j → S j)
  (hat : (Value.slice A' N c').ownBlock = (Value.slice A n c).ownBlock ∨ (Value.slice A' N c').ownBlock = some w.heap.size) : InS S A' := fun b o e' => by
 subst e'
 rcases hat with h | h
 ·rcases Own.lies ho with ⟨ha, _⟩ | ⟨g, cur, ha, _⟩
  ·subst ha
   simp [Value.ownBlock] at h
  ·subst ha
   simp [Value.ownBlock] at h
   subst h
   exact hi _ _ rfl
 ·simp [Value.ownBlock] at h
  subst h
  exact hy _ (Nat.le_refl _)
theorem Own.turnsApd {w w' : World} {S : Nat → Prop} {base : Nat} {e : TypeId} {size n c : Nat} {A : Option Addr} {xs : List Value} (ho : Own w base e size A n c xs) (hi : InS S A) (hg : w.grownBy w' (Value.slice A n c).ownBlock) : Turns S [] 0 w w' :=
 Turns.of_grown hg fun k hk => by
  rcases Own.lies ho with ⟨ha, _⟩ | ⟨g, cur, ha, _⟩
  ·subst ha
   simp [Value.ownBlock] at hk
  ·subst ha
   simp [Value.ownBlock] at hk
   subst hk
   exact hi _ _ rfl
theorem HeAt.push {w w4 : World} {S : Nat → Prop} {bp b7 bh rb n cn : Nat} {bcs : List Nat} {V : Nat → Option Addr} {vn vc : Nat → Nat} {CA A4 : Option Addr} {cc c4 bc : Nat} (h : HeAt w S bp b7 bh rb n cn bcs V vn vc CA cc) (ho : Own w4 0 119 1 A4 (cn + 1) c4 (Ptrs bcs ++ [.pointer (some ⟨bc, 0, none⟩)])) (hg : w.grownBy w4 (Value.slice CA cn cc).ownBlock)
  (hat : (Value.slice A4 (cn + 1) c4).ownBlock = (Value.slice CA cn cc).ownBlock ∨ (Value.slice A4 (cn + 1) c4).ownBlock = some w.heap.size) (hy : ∀ j, w.heap.size ≤ j → S j) :
  HeAt (w4.setCell ⟨bh, 1, none⟩ (.slice A4 (cn + 1) c4)) S bp b7 bh rb n (cn + 1) (bcs ++ [bc]) V vn vc A4 c4 ∧ Turns S [] 0 w (w4.setCell ⟨bh, 1, none⟩ (.slice A4 (cn + 1) c4)) ∧ Keeps [119, 117] 0 w (w4.setCell ⟨bh, 1, none⟩ (.slice A4 (cn + 1) c4)) := by
 have hk := Own.apd_keeps h.curs hg
 have hb4 := h.blk.keeps (by decide) hk
 have hk2 : Keeps [117] 0 w4 (w4.setCell ⟨bh, 1, none⟩ (.slice A4 (cn + 1) c4)) := (Keeps.refl _ _ _).setCell hb4 (by simp) (Nat.zero_le _) _
 have ep : Ptrs (bcs ++ [bc]) = Ptrs bcs ++ [.pointer (some ⟨bc, 0, none⟩)] := by unfold Ptrs; rw [List.map_append]; rfl
 refine ⟨⟨h.s7, (h.box.keeps (by decide) hk).keeps (by decide) hk2, h.sh, hb4.set_ 1 _, h.sr, (h.rows.keeps (by decide) hk).keeps (by decide) hk2, by rw [ep]; exact Own.keeps ho (by decide) hk2, Own.inApd h.curs h.inC hy hat⟩, (Own.turnsApd h.curs h.inC hg).trans (Turns.setCell _ h.sh _), ?_⟩
 exact (hk.more fun t ht => by simp at ht; subst ht; simp).trans (hk2.more fun t ht => by simp at ht; subst ht; simp)
section
variable {w0 w w' : World} {B : Nat} {col0 col : Nat → Nat} {P0 P2 P4 : World → (Nat → Prop) → Prop} {bs bp most b7 bh rb n : Nat} {s s' : Pg.St} {F bcs : List Nat} {left least left' least' : Nat} {rest rest' : Nat → List RowM} {H H' : Nat → Option RowM} {V V' : Nat → Option Addr} {vn vc vn' vc' : Nat → Nat} {cn : Nat}
theorem Fam.push {CA A4 : Option Addr} {cc c4 bc : Nat} {w3 wA w4 : World} (h : Fam w0 w B col0 col (MP P0 (PuP bp most left least) P2 (HeP bp b7 bh rb n cn bcs V vn vc) P4 (CurP bs bcs s F rest V vn vc H))) (hcn : bcs.length = cn) (hs : Sto w B bs s)
  (h3 : HeAt w (Of w col 3) bp b7 bh rb n cn bcs V vn vc CA cc) (hb : Below w.heap.size w w3) (hc : CuP bs bc s F (rest cn) w3 fun b => w.heap.size ≤ b) (hbA : Below w3.heap.size w3 wA)
  (ho : Own w4 0 119 1 A4 (cn + 1) c4 (Ptrs bcs ++ [.pointer (some ⟨bc, 0, none⟩)])) (hg : wA.grownBy w4 (Value.slice CA cn cc).ownBlock)
  (hat : (Value.slice A4 (cn + 1) c4).ownBlock = (Value.slice CA cn cc).ownBlock ∨ (Value.slice A4 (cn + 1) c4).ownBlock = some wA.heap.size) :
  MgS w0 B col0 P0 P2 P4 bs bp most b7 bh rb n s F (bcs ++ [bc]) left least rest H (w4.setCell ⟨bh, 1, none⟩ (.slice A4 (cn + 1) c4)) := by
 have e : updP (CurP bs bcs s F rest V vn vc H) cn (CurP bs (bcs ++ [bc]) s F rest V vn vc H cn) = CurP bs (bcs ++ [bc]) s F rest V vn vc H := by
  funext k
  by_cases e : k = cn
  ·rw [e, updP_at]
  ·rw [updP_ne _ _ e]
   have e2 : (bcs ++ [bc])[k]? = bcs[k]? := by
    by_cases hk : k < cn
    ·rw [List.getElem?_append_left (by omega)]
    ·rw [List.getElem?_eq_none (by rw [List.length_append, List.length_singleton]; omega), List.getElem?_eq_none (by omega)]
   unfold CurP
   rw [e2]
 have hf3 := (h.next hb (d := cn + 5) (Q := CurP bs (bcs ++ [bc]) s F rest V vn vc H cn) (by omega) (CurP.good ..) ⟨fun bc' hbc' => by
  rw [List.getElem?_append_right (by omega), hcn, Nat.sub_self] at hbc'
  injection hbc' with hbc'
  subst hbc'
  exact (CuP.good B ..).mono _ _ _ hc fun k hk => .inr hk, (h.keep hb (cn + 5)).2⟩).cast (MP.up5 (P0 := P0) cn)
 rw [e] at hf3
 have hfA := hf3.below hbA (d := 3) (by omega)
 have hA : HeAt wA (Of wA (paint w3 (paint w col (cn + 5)) 3) 3) bp b7 bh rb n cn bcs V vn vc CA cc := by
  have hbb := hb.trans (hbA.mono hb.size)
  refine ⟨?_, h3.box.below hbb, ?_, h3.blk.below hbb, ?_, h3.rows.below hbb, Own.below h3.curs hbb, fun b o e => ?_⟩
  ·exact (h3.s7.paint hb.size).paint hbA.size
  ·exact (h3.sh.paint hb.size).paint hbA.size
  ·exact (h3.sr.paint hb.size).paint hbA.size
  ·exact ((h3.inC b o e).paint hb.size).paint hbA.size
 have hA' : HeAt wA (Mine wA (paint w3 (paint w col (cn + 5)) 3) 3) bp b7 bh rb n cn bcs V vn vc CA cc := ⟨.inl hA.s7, hA.box, .inl hA.sh, hA.blk, .inl hA.sr, hA.rows, hA.curs, fun b o e => .inl (hA.inC b o e)⟩
 obtain ⟨h5, hT, hk⟩ := hA'.push ho hg hat fun j hj => .inr hj
 refine ⟨_, V, vn, vc, (hfA.turn (d := 3) (Q := HeP bp b7 bh rb n (bcs ++ [bc]).length (bcs ++ [bc]) V vn vc) (by omega) hT.wk (HeP.good ..) ?_).cast MP.up3, ((hs.below hb).below hbA).keeps hk (by decide)⟩
 rw [List.length_append, List.length_singleton, hcn]
 exact ⟨A4, c4, h5⟩
theorem MgS.to {P2' : World → (Nat → Prop) → Prop} (h : ∃ col V vn vc, Fam w0 w B col0 col (MP P0 (PuP bp most left least) P2 (HeP bp b7 bh rb n bcs.length bcs V vn vc) P4 (CurP bs bcs s F rest V vn vc H)) ∧ Turns (Mine w col 2) StT B w w' ∧ P2' w' (Mine w col 2)) (hg : Good B P2') (hs : Sto w' B bs s') (hF : ∀ i ∈ F, s'[i]? = s[i]?) :
  MgS w0 B col0 P0 P2' P4 bs bp most b7 bh rb n s' F bcs left least rest H w' := by
 obtain ⟨col, V, vn, vc, hf, hT, hq⟩ := h
 have h1 := (hf.turn (d := 2) (Q := P2') (by omega) hT hg hq).cast MP.up2
 refine ⟨_, V, vn, vc, h1.congr (P' := MP P0 (PuP bp most left least) P2' (HeP bp b7 bh rb n bcs.length bcs V vn vc) P4 (CurP bs bcs s' F rest V vn vc H)) ?_ ?_, hs⟩
 ·exact MP.good (h1.good 0) (h1.good 1) (h1.good 2) (h1.good 3) (h1.good 4) fun i => CurP.good ..
 ·intro d w S hp
  match d, hp with
  | 0, hp => exact hp
  | 1, hp => exact hp
  | 2, hp => exact hp
  | 3, hp => exact hp
  | 4, hp => exact hp
  | i + 5, hp => exact ⟨fun bc hbc => (hp.1 bc hbc).same hF, hp.2⟩
theorem MgS.tree {P4' : World → (Nat → Prop) → Prop} (h : ∃ col V vn vc, Fam w0 w B col0 col (MP P0 (PuP bp most left least) P2 (HeP bp b7 bh rb n bcs.length bcs V vn vc) P4 (CurP bs bcs s F rest V vn vc H)) ∧ Turns (Mine w col 4) StT B w w' ∧ P4' w' (Mine w col 4)) (hg : Good B P4') (hs : Sto w' B bs s) :
  MgS w0 B col0 P0 P2 P4' bs bp most b7 bh rb n s F bcs left least rest H w' := by
 obtain ⟨col, V, vn, vc, hf, hT, hq⟩ := h
 exact ⟨_, V, vn, vc, (hf.turn (d := 4) (Q := P4') (by omega) hT hg hq).cast MP.up4, hs⟩
theorem MgS.rows (h : MgS w0 B col0 P0 P2 P4 bs bp most b7 bh rb n s F bcs left least rest H w) (hH : ∀ p, n ≤ p → H p = none) : ∃ (V : Nat → Option Addr) (vn vc : Nat → Nat), Rd w (some ⟨rb, 0, none⟩) (tab n fun i => .slice (V i) (vn i) (vc i)) ∧ HdR w (tab n fun i => .slice (V i) (vn i) (vc i)) H ∧
  w.cell? ⟨b7, 0, none⟩ = some (.pointer (some ⟨bh, 0, none⟩)) ∧ w.cell? ⟨bh, 2, none⟩ = some (.slice (some ⟨rb, 0, none⟩) n n) ∧ (∀ i, i < n → w.cell? ⟨rb, i, none⟩ = some (.slice (V i) (vn i) (vc i))) ∧ ∀ i, HdIn w (V i) (vn i) (vc i) (H i) := by
 obtain ⟨col, V, vn, vc, hf, hs⟩ := h
 obtain ⟨CA, cc, h3⟩ : HeP bp b7 bh rb n bcs.length bcs V vn vc w (Of w col 3) := hf.at_ 3
 have b0 := h3.box.cell 0
 have c2 := h3.blk.cell 2
 simp only [List.getElem?_cons_zero, List.getElem?_cons_succ] at b0 c2
 have hv : ∀ i, HdV w (Of w col (i + 5)) (V i) (vn i) (vc i) (H i) := fun i => (hf.at_ (i + 5)).2
 refine ⟨V, vn, vc, Rd.of_blk h3.rows, ⟨fun p hp => hH p (by rw [tab_len] at hp; exact hp), fun p hp => ?_⟩, b0, c2, fun i hi => ?_, fun i => (hv i).in_⟩
 ·rw [tab_len] at hp
  rw [tab_get hp]
  rcases hv p with ⟨h1, h2⟩ | ⟨a, r, c, h1, h2, h3, _, h4⟩
  ·exact .inl ⟨by rw [h1], h2⟩
  ·exact .inr ⟨a, r, c, by rw [h1], h2, Own.rd h3, h4⟩
 ·have := h3.rows.cell i
  rw [tab_get hi] at this
  exact this
end
end Go.Proofs.YtcadjekcdokkjaaGreat
namespace Go.Proofs.YtcadjekcdokkjaaGreat
set_option linter.unusedVariables false
set_option linter.unusedSimpArgs false
open Go.RowKit
attribute [local go_sem ↓] Go.wp_at_zero Go.wp_at_succ
def OkT (w : World) (i : Nat) : Prop := ∀ c t f, w.heap[i]? = some (.cells c t f) → t ∉ StT
theorem OkT.blk {w : World} {g : Nat} {t : TypeId} {xs : List Value} (h : Blk w g t xs) (ht : t ∉ StT) : OkT w g := fun c t' f e => by
 unfold Blk at h
 rw [h] at e
 injection e with e
 injection e with _ e
 rw [← e]
 exact ht
theorem OkT.own {w : World} {base : Nat} {e : TypeId} {size : Nat} {A : Option Addr} {n c : Nat} {xs : List Value} (h : Own w base e size A n c xs) (ht : e ∉ StT) {b o : Nat} (ha : A = some ⟨b, o, none⟩) : OkT w b := by
 subst ha
 rcases Own.lies h with ⟨ha, _⟩ | ⟨g, cur, ha, _, _, hh, _⟩
 ·cases ha
 ·injection ha with ha
  injection ha with ha _
  subst ha
  exact OkT.blk (xs := cur.toList) (show Blk w b e cur.toList by unfold Blk; rw [hh]) ht
theorem TrAt.typed {w : World} {S : Nat → Prop} {bt m sz : Nat} {H : Nat → Option RowM} {ks : List Ky} {sl : Nat → Nat} {HA : Option Addr} {hc : Nat} {hs : List Value} {KA : Option Addr} {kn kc gs : Nat} {z : Int} (h : TrAt w S bt m sz H ks sl HA hc hs KA kn kc gs z) :
  TrAt w (fun i => S i ∧ (i < w.heap.size → OkT w i)) bt m sz H ks sl HA hc hs KA kn kc gs z :=
 ⟨⟨h.st, fun _ => OkT.blk h.blk (by decide)⟩, h.blk, h.hds, fun b o e => ⟨h.inH b o e, fun _ => OkT.own h.hds (by decide) e⟩, ⟨h.rows.out, fun p hp => by
  rcases h.rows.at_ p hp with h1 | ⟨a, r, c, h1, h2, h3, h4, h5⟩
  ·exact .inl h1
  ·exact .inr ⟨a, r, c, h1, h2, h3, fun b o e => ⟨h4 b o e, fun _ => OkT.own h3 (by decide) e⟩, h5⟩⟩, h.klen, h.keys, fun b o e => ⟨h.inK b o e, fun _ => OkT.own h.keys (by decide) e⟩, ⟨h.sg, fun _ => OkT.blk h.slots (by decide)⟩, h.slots⟩
theorem TreeW.typed {w : World} {S : Nat → Prop} {bt m sz : Nat} {H : Nat → Option RowM} {ks : List Ky} {q : Nat} (h : TreeW w S bt m sz H ks q) : TreeW w (fun i => S i ∧ (i < w.heap.size → OkT w i)) bt m sz H ks q := by
 obtain ⟨sl, W, HA, hc, hs', KA, kn, kc, gs, z, h1, h2⟩ := h
 exact ⟨sl, W, HA, hc, hs', KA, kn, kc, gs, z, h1.typed, h2⟩
section
variable {w0 w w' : World} {B : Nat} {col0 col : Nat → Nat} {P0 P2 P4 : World → (Nat → Prop) → Prop} {bs bp most b7 bh rb n : Nat} {s s' : Pg.St} {F bcs : List Nat} {left least : Nat} {rest : Nat → List RowM} {H H' : Nat → Option RowM} {bt sz q : Nat} {ks : List Ky}
theorem MgS.won (h : MgS w0 B col0 P0 P2 (fun w S => TreeN w S bt n sz H' ks) bs bp most b7 bh rb n s F bcs left least rest H w) : ∃ q S, TreeW w S bt n sz H' ks q ∧ MgS w0 B col0 P0 P2 (fun w S => TreeW w S bt n sz H' ks q) bs bp most b7 bh rb n s F bcs left least rest H w := by
 obtain ⟨col, V, vn, vc, hf, hs⟩ := h
 obtain ⟨q, ht⟩ : TreeN w (Of w col 4) bt n sz H' ks := hf.at_ 4
 exact ⟨q, _, ht, MgS.tree ⟨col, V, vn, vc, hf, Turns.refl _ _ _ _, (TreeW.good B bt n sz H' ks q).mono _ _ _ ht fun k hk => .inl hk⟩ (TreeW.good ..) hs⟩
theorem mput_c (V : Option Addr) (vn vc : Nat) (x : Option RowM) (r0 : RowM) (h : MgS w0 B col0 P0 P2 (fun w S => TreeW w S bt n sz H' ks q) bs bp most b7 bh rb n s F bcs left least rest H w) (hH : H' q = some r0) (hv : HdIn w V vn vc x) (hm : n ≤ 1000) (hsz : 0 < sz) (hsz2 : sz ≤ 1000) :
  Calls Tryz.prog 84 #[.pointer (some ⟨bt, 0, none⟩), .slice V vn vc] w fun e w' => e = .returned (.int .i64 0) ∧ MgS w0 B col0 P0 P2 (fun w S => TreeN w S bt n sz (fun p => if p = q then x else H' p) ks) bs bp most b7 bh rb n s F bcs left least rest H w' := by
 obtain ⟨col, V', vn', vc', hf, hs⟩ := h
 have ht : TreeW w (Of w col 4) bt n sz H' ks q := hf.at_ 4
 have ht' : TreeW w (fun i => Mine w col 4 i ∧ (i < w.heap.size → OkT w i)) bt n sz H' ks q := (TreeW.good B bt n sz H' ks q).mono _ _ _ ht.typed fun k hk => ⟨.inl hk.1, hk.2⟩
 refine (tput_c V vn vc x r0 w ht' hH hv (fun j hj => ⟨.inr hj, fun hl => by omega⟩) hm hsz hsz2).mono ?_
 rintro e w' ⟨rfl, h1, hT⟩
 refine ⟨rfl, MgS.tree ⟨col, V', vn', vc', hf, (Turns.wk hT).more fun k _ hk => hk.1, (TreeN.good B bt n sz _ ks).mono _ _ _ h1 fun k hk => hk.1⟩ (TreeN.good ..) (hs.turnsN hT fun k hk hl => hk.2 hl)⟩
theorem mtnew_c (c : Nat) (V : Nat → Option Addr) (vn vc : Nat → Nat) (KA : Option Addr) (kn kc : Nat) (h : MgS w0 B col0 P0 P2 P4 bs bp most b7 bh rb n s F bcs left least rest H w) (hr : Rd w (some ⟨rb, 0, none⟩) (tab n fun i => .slice (V i) (vn i) (vc i))) (hH : HdR w (tab n fun i => .slice (V i) (vn i) (vc i)) H) (hn : n ≤ 16) (hk : ks.length = kn) (hK : Rd w KA (kyc ks)) (hkn : kn ≤ 1000000) :
  Calls Tryz.prog 82 #[.slice (some ⟨rb, 0, none⟩) n c, .slice KA kn kc] w fun e w' => ∃ bt sz, e = .returned (.tuple #[.pointer (some ⟨bt, 0, none⟩), .int .i64 0]) ∧ n ≤ sz ∧ 0 < sz ∧ sz ≤ 32 ∧ MgS w0 B col0 P0 P2 (fun w S => TreeN w S bt n sz H ks) bs bp most b7 bh rb n s F bcs left least rest H w' := by
 refine (tnew_c _ n c _ H KA kn kc ks w (tab_len ..) hn hr hH hk hK hkn).mono ?_
 rintro e w' ⟨⟨bt, sz, q, rfl, h1, h2, h3, h4⟩, hb⟩
 obtain ⟨col, V', vn', vc', hf, hs⟩ := h
 exact ⟨bt, sz, rfl, h2, h3, h4, MgS.tree ⟨col, V', vn', vc', hf, Turns.of_below hb, (TreeN.good B bt n sz H ks).mono _ _ _ ⟨q, h1⟩ fun k hk => .inr hk⟩ (TreeN.good ..) (hs.below hb)⟩
end
structure ToC (B bs : Nat) (F : List Nat) (T : List RowM) (fv : Nat) (pre cap : Array Value) (TP : List RowM → Pg.St → World → (Nat → Prop) → Prop) (TX : Pg.St → World → (Nat → Prop) → Prop) : Prop where
 enters : ∀ args w, (callFunc fv args).run Tryz.prog w = .ok (.enter fv args) w
 goodP : ∀ acc s, Good B (TP acc s)
 goodX : ∀ s, Good B (TX s)
 call : ∀ (acc : List RowM) (r : RowM) (s : Pg.St) (w : World) (S : Nat → Prop) (A : Option Addr) (n c : Nat), TP acc s w S → Sto w B bs s → B ≤ w.heap.size → (∀ j, w.heap.size ≤ j → S j) → r.length = n → Own w 0 38 3 A n c (rcells r) → InS S A → Pg.Fine r → (∀ v ∈ r, v.ok) → n ≤ 1000000 → (∃ l, (acc ++ r :: l).Perm T) →
  Calls Tryz.prog fv (pre ++ #[.slice A n c] ++ cap) w fun e w' => ∃ s', Sto w' B bs s' ∧ Turns S StT B w w' ∧ (∀ i ∈ F, s'[i]? = s[i]?) ∧ ((e = .returned (.int .i64 0) ∧ TP (acc ++ [r]) s' w' S) ∨ (e = .returned (.int .i64 4) ∧ TX s' w' S))
theorem mto_c {w0 w : World} {B : Nat} {col0 : Nat → Nat} {P0 P4 : World → (Nat → Prop) → Prop} {bs bp most b7 bh rb n : Nat} {s : Pg.St} {F bcs : List Nat} {left least : Nat} {rest : Nat → List RowM} {H : Nat → Option RowM} {T : List RowM} {fv : Nat} {pre cap : Array Value} {TP : List RowM → Pg.St → World → (Nat → Prop) → Prop} {TX : Pg.St → World → (Nat → Prop) → Prop} (hto : ToC B bs F T fv pre cap TP TX)
  (acc : List RowM) (r : RowM) (A : Option Addr) (rn c : Nat) {w1 : World} (h : MgS w0 B col0 P0 (TP acc s) P4 bs bp most b7 bh rb n s F bcs left least rest H w) (hb : Below w.heap.size w w1) (hr : r.length = rn) (ho : Own w1 w.heap.size 38 3 A rn c (rcells r)) (hfi : Pg.Fine r) (hok : ∀ v ∈ r, v.ok) (hrn : rn ≤ 1000000) (hT : ∃ l, (acc ++ r :: l).Perm T) :
  Calls Tryz.prog fv (pre ++ #[.slice A rn c] ++ cap) w1 fun e w' => ∃ s', (∀ i ∈ F, s'[i]? = s[i]?) ∧ ((e = .returned (.int .i64 0) ∧ MgS w0 B col0 P0 (TP (acc ++ [r]) s') P4 bs bp most b7 bh rb n s' F bcs left least rest H w') ∨ (e = .returned (.int .i64 4) ∧ MgS w0 B col0 P0 (TX s') P4 bs bp most b7 bh rb n s' F bcs left least rest H w')) := by
 obtain ⟨col, V, vn, vc, hf, hs⟩ := h
 have hf1 := hf.below hb (d := 2) (by omega)
 have hp : TP acc s w1 (Of w1 (paint w col 2) 2) := hf1.at_ 2
 refine (hto.call acc r s w1 (Mine w1 (paint w col 2) 2) A rn c ((hto.goodP acc s).mono _ _ _ hp fun k hk => .inl hk) (hs.below hb) hf1.hB (fun j hj => .inr hj) hr (Own.lower ho (Nat.zero_le _)) (fun b o e => ?_) hfi hok hrn hT).mono ?_
 ·have := (ho.lt b (by rw [e]; rfl))
  exact .inl ⟨paint_new this.1, Good.own_lt ho e⟩
 ·rintro e w' ⟨s', hs', hT', hF, ⟨rfl, hq⟩ | ⟨rfl, hq⟩⟩
  ·exact ⟨s', hF, .inl ⟨rfl, MgS.to ⟨_, V, vn, vc, hf1, hT', hq⟩ (hto.goodP _ _) hs' hF⟩⟩
  ·exact ⟨s', hF, .inr ⟨rfl, MgS.to ⟨_, V, vn, vc, hf1, hT', hq⟩ (hto.goodX _) hs' hF⟩⟩
end Go.Proofs.YtcadjekcdokkjaaGreat
