/- Walks: a cursor of rows: how it lies in memory; fail, Open; whether bytes are all 0. What a cursor takes from pages: a plain law, with no program in sight. The walk of a cursor's Next. -/
import Derived.Test.YtcadjekcdokkjaaGreatMSpDU
import Derived.Test.YtcadjekcdokkjaaGreatMPgD
import Derived.Test.YtcadjekcdokkjaaGreatMCuOS
import Derived.Test.YtcadjekcdokkjaaGreatMCuTM
import Derived.Test.YtcadjekcdokkjaaGreatMSpSMH
namespace Go.Proofs.YtcadjekcdokkjaaGreat
set_option linter.unusedVariables false
set_option linter.unusedSimpArgs false
open Go.RowKit
attribute [local go_sem ↓] Go.wp_at_zero Go.wp_at_succ
structure CuAt (w : World) (S : Nat → Prop) (bs bc : Nat) (l : List Nat) (k ic : Nat) (I : Option Addr) (p : List UInt8) (n rc : Nat) (R : Option Addr) (left err : Int) : Prop where
 sc : S bc
 blk : Blk w bc 137 [.pointer (some ⟨bs, 0, none⟩), .slice I k ic, .slice R n rc, .int .i64 left, .int .i64 err]
 ids : OwnX w 0 3 I k ic (Is l)
 inI : InS S I
 rst : OwnX w 0 5 R n rc (Bs p)
 inR : InS S R
namespace CuAt
variable {w w' : World} {S : Nat → Prop} {bs bc : Nat} {l : List Nat} {k ic : Nat} {I : Option Addr} {p : List UInt8} {n rc : Nat} {R : Option Addr} {left err : Int}
theorem klen (h : CuAt w S bs bc l k ic I p n rc R left err) : l.length = k := by
 have := h.ids.len
 rwa [List.length_map] at this
theorem plen (h : CuAt w S bs bc l k ic I p n rc R left err) : p.length = n := by
 have := h.rst.len
 rwa [List.length_map] at this
theorem keeps {T : List TypeId} {B : Nat} (h : CuAt w S bs bc l k ic I p n rc R left err) (hT : ∀ t ∈ [137, 3, 5], t ∉ T) (hk : Keeps T B w w') : CuAt w' S bs bc l k ic I p n rc R left err :=
 ⟨h.sc, h.blk.keeps (hT _ (by simp)) hk, h.ids.keeps (hT _ (by simp)) hk, h.inI, h.rst.keeps (hT _ (by simp)) hk, h.inR⟩
theorem below (h : CuAt w S bs bc l k ic I p n rc R left err) (hb : Below w.heap.size w w') : CuAt w' S bs bc l k ic I p n rc R left err :=
 ⟨h.sc, h.blk.below hb, h.ids.below hb, h.inI, h.rst.below hb, h.inR⟩
theorem drewN (h : CuAt w S bs bc l k ic I p n rc R left err) (d : Nat) : CuAt (w.drewN d) S bs bc l k ic I p n rc R left err := h.keeps (T := []) (B := 0) (by simp) ((Keeps.refl _ _ _).drewN d)
theorem turns {S' : Nat → Prop} {T : List TypeId} {B : Nat} (h : CuAt w S bs bc l k ic I p n rc R left err) (hd : ∀ j, S j → ¬ S' j) (hT : ∀ t ∈ [137, 3, 5], t ∉ T) (hk : Turns S' T B w w') : CuAt w' S bs bc l k ic I p n rc R left err :=
 ⟨h.sc, h.blk.turns (hd _ h.sc) (hT _ (by simp)) hk, h.ids.turns (hT _ (by simp)) (fun b o e => hd _ (h.inI b o e)) hk, h.inI, h.rst.turns (hT _ (by simp)) (fun b o e => hd _ (h.inR b o e)) hk, h.inR⟩
theorem more {S' : Nat → Prop} (h : CuAt w S bs bc l k ic I p n rc R left err) (hs : ∀ j, S j → S' j) : CuAt w S' bs bc l k ic I p n rc R left err :=
 ⟨hs _ h.sc, h.blk, h.ids, fun b o e => hs _ (h.inI b o e), h.rst, fun b o e => hs _ (h.inR b o e)⟩
theorem kw (h : CuAt w S bs bc l k ic I p n rc R left err) (i : Nat) (u : Value) : Keeps [137] 0 w (w.setCell ⟨bc, i, none⟩ u) := (Keeps.refl _ _ _).setCell h.blk (by simp) (Nat.zero_le _) u
theorem putE (h : CuAt w S bs bc l k ic I p n rc R left err) (e : Int) : CuAt (w.setCell ⟨bc, 4, none⟩ (.int .i64 e)) S bs bc l k ic I p n rc R left e :=
 ⟨h.sc, h.blk.set_ 4 _, h.ids.keeps (by decide) (h.kw 4 _), h.inI, h.rst.keeps (by decide) (h.kw 4 _), h.inR⟩
theorem putL (h : CuAt w S bs bc l k ic I p n rc R left err) (m : Int) : CuAt (w.setCell ⟨bc, 3, none⟩ (.int .i64 m)) S bs bc l k ic I p n rc R m err :=
 ⟨h.sc, h.blk.set_ 3 _, h.ids.keeps (by decide) (h.kw 3 _), h.inI, h.rst.keeps (by decide) (h.kw 3 _), h.inR⟩
theorem putI {l' : List Nat} {k' ic' : Nat} {I' : Option Addr} (h : CuAt w S bs bc l k ic I p n rc R left err) (ho : OwnX w 0 3 I' k' ic' (Is l')) (hi : InS S I') : CuAt (w.setCell ⟨bc, 1, none⟩ (.slice I' k' ic')) S bs bc l' k' ic' I' p n rc R left err :=
 ⟨h.sc, h.blk.set_ 1 _, ho.keeps (by decide) (h.kw 1 _), hi, h.rst.keeps (by decide) (h.kw 1 _), h.inR⟩
theorem putR {p' : List UInt8} {n' rc' : Nat} {R' : Option Addr} (h : CuAt w S bs bc l k ic I p n rc R left err) (ho : OwnX w 0 5 R' n' rc' (Bs p')) (hi : InS S R') : CuAt (w.setCell ⟨bc, 2, none⟩ (.slice R' n' rc')) S bs bc l k ic I p' n' rc' R' left err :=
 ⟨h.sc, h.blk.set_ 2 _, h.ids.keeps (by decide) (h.kw 2 _), h.inI, ho.keeps (by decide) (h.kw 2 _), hi⟩
end CuAt
theorem cfail_c (S : Nat → Prop) (bs bc : Nat) (l : List Nat) (k ic : Nat) (I : Option Addr) (p : List UInt8) (n rc : Nat) (R : Option Addr) (left err e : Int) (w : World) (h : CuAt w S bs bc l k ic I p n rc R left err) :
  Calls Tryz.prog 118 #[.pointer (some ⟨bc, 0, none⟩), .int .i64 e] w fun x w' => x = .returned (.tuple #[.slice none 0 0, .bool false, .int .i64 e]) ∧ CuAt w' S bs bc l k ic I p n rc R left e ∧ Turns S [] 0 w w' ∧ Keeps [137] 0 w w' := by
 have k4 := h.blk.cell 4
 have f4 := h.blk.frozen 4
 simp only [List.getElem?_cons_zero, List.getElem?_cons_succ] at k4
 have H2 := Lib.hid (h.putE e)
 have Ht := Lib.hid (Turns.setCell (S := S) (T := []) (B := 0) w (i := 4) h.sc (.int .i64 e))
 have Hk := Lib.hid (h.kw 4 (.int .i64 e))
 clear h
 go_enter Tryz.func118, Tryz.ntmps118
 go_wp2_with fail
 go_ret3
 exact ⟨rfl, H2.out, Ht.out, Hk.out⟩
set_option maxRecDepth 100000 in
theorem open_c (S : Nat → Prop) (bs bf : Nat) (l : List Nat) (k ic : Nat) (I : Option Addr) (many : Int) (w : World) (h : FiAt w S bs bf l k ic I many) (hk : k ≤ 1000000) :
  Calls Tryz.prog 80 #[.pointer (some ⟨bf, 0, none⟩)] w fun e w' => ∃ bc ic' I', e = .returned (.pointer (some ⟨bc, 0, none⟩)) ∧ CuAt w' (fun j => w.heap.size ≤ j ∧ j < w'.heap.size) bs bc l k ic' I' [] 0 0 none many 0 ∧ Below w.heap.size w w' := by
 have k0 := h.blk.cell 0
 have k1 := h.blk.cell 1
 have k2 := h.blk.cell 2
 simp only [List.getElem?_cons_zero, List.getElem?_cons_succ] at k0 k1 k2
 have hcl := Lib.hid (fun w' (hb : Below w.heap.size w w') => clonei_any l k ic I w' h.klen (h.ids.rd.below hb) hk)
 have H := Lib.hid h
 clear h
 go_enter Tryz.func80, Tryz.ntmps80
 go_wp2_with fail
 go_region_held3 (fun w' => w'.cell? ⟨bf, 0, none⟩ = some (.pointer (some ⟨bs, 0, none⟩)) ∧ w'.cell? ⟨bf, 1, none⟩ = some (.slice I k ic) ∧ w'.cell? ⟨bf, 2, none⟩ = some (.int .i64 many))
  (first | exact ⟨k0, k1, k2⟩ | exact ⟨j0, j1, j2⟩ | exact ⟨cell_keep ((Below.refl _ _).alloc (Nat.le_refl _) _) j0, cell_keep ((Below.refl _ _).alloc (Nat.le_refl _) _) j1, cell_keep ((Below.refl _ _).alloc (Nat.le_refl _) _) j2⟩)
  ((go_at_call 96; refine (hcl.out _ (Below.refl _ _).drew).mono ?_; rintro e w2 ⟨A2, c2, rfl, ho2, hb2'⟩; have hb2 : Below w.heap.size w w2 := ⟨hb2'.os, hb2'.tape, hb2'.output, hb2'.size, hb2'.block⟩; have h2 := H.out.below hb2; have j0 := h2.blk.cell 0; have j1 := h2.blk.cell 1; have j2 := h2.blk.cell 2; simp only [List.getElem?_cons_zero, List.getElem?_cons_succ] at j0 j1 j2))
 all_goals
  go_wp2_with fail
  go_ret
  have hbA : Below w2.heap.size w2 (w2.alloc (.cells #[.pointer (some ⟨bs, 0, none⟩), .slice A2 k c2, .slice none 0 0, .int .i64 many, .int .i64 0] 137)) := (Below.refl _ _).alloc (Nat.le_refl _) _
  have hz2 := hb2.size
  refine ⟨w2.heap.size, c2, A2, rfl, ⟨⟨hz2, by simp⟩, Blk.new w2 _ _, ((OwnX.of_own (Own.below ho2 hbA)).lower (Nat.zero_le _)), ?_, OwnX.nil _ _ _, InS.nil _⟩, hb2.trans (hbA.mono hz2)⟩
  intro b o e
  have hlt := ho2.lt b (by rw [e]; rfl)
  refine ⟨hlt.1, ?_⟩
  simp
  have := hlt.2
  omega
theorem nzc_any (c : UInt8) (w : World) : Calls Tryz.prog 117 #[.int .u8 (c.toNat : Int)] w fun e w' => e = .returned (.bool (c != 0)) ∧ w = w' := by
 have hc : Hid (((c.toNat : Int) != 0) = (c != 0)) := by
  show _ = _
  by_cases h : c = 0
  ·subst h; rfl
  ·have h1 : (c != 0) = true := by simpa using h
   rw [h1, bne_iff_ne]
   intro h2
   exact h (UInt8.toNat_inj.1 (by simpa using h2))
 go_enter Tryz.func117, Tryz.ntmps117
 go_wp2
 go_ret
 exact ⟨by rw [← hc.out]; rfl, rfl⟩
set_option maxRecDepth 100000 in
theorem containsc_any (A : Option Addr) (l : List UInt8) (n c : Nat) (w : World) (hn : l.length = n) (hl : n ≤ 9223372036854775807) (hr : Rd w A (Bs l)) :
  Calls Tryz.prog 116 #[.slice A n c, .func (.func 117) #[] #[]] w fun e w' => e = .returned (.bool (l.any (· != 0))) ∧ w = w' := by
 have hll := Lib.hid hn
 clear hn
 have key : Calls Tryz.prog 131 #[.slice A n c, .func (.func 117) #[] #[]] w fun e w' => (∃ k : Int, e = .returned (.int .i64 k) ∧ Hid ((decide (0 ≤ k)) = l.any (· != 0))) ∧ w = w' := by
  go_enter Tryz.func131, Tryz.ntmps131
  go_wp2_with fail
  go_loop [8] (fun i => ∃ k : Nat, k ≤ n ∧ i = .int .i64 k ∧ Hid ((l.take k).any (· != 0) = false)) (fun i => n - (intOf i).toNat)
  case atStart => exact ⟨0, by omega, rfl, rfl⟩
  case round =>
   obtain ⟨k, hk, rfl, hno⟩ := hrel
   by_cases hlt : k < n
   ·obtain ⟨b, o, rfl, hb, hrr, hc⟩ := hr.get (k := k) (by rw [List.length_map, hll.out]; exact hlt)
    clear hr hrr
    rw [List.getElem_map] at hc
    unfold B at hc
    have htk := Lib.hid (List.take_succ_eq_append_getElem (l := l) (i := k) (by rw [hll.out]; exact hlt))
    have hmem := Lib.hid (List.getElem_mem (l := l) (n := k) (by rw [hll.out]; exact hlt))
    generalize l[k]'(by rw [hll.out]; exact hlt) = x at *
    cases hx : (x != 0) with
    | false =>
     have Hx := Lib.hid hx
     clear hx
     go_wp2_with fail
     refine (nzc_any x w).mono ?_
     rw [Hx.out]
     rintro e w' ⟨rfl, rfl⟩
     go_wp2_with fail
     go_round
     case rel => exact ⟨k + 1, by omega, by go_num, by show _ = _; rw [htk.out, List.any_append, hno.out]; simp [Hx.out]⟩
     case measure => simp [intOf]; omega
    | true =>
     have hany : Hid (l.any (· != 0) = true) := by show _ = _; rw [List.any_eq_true]; exact ⟨x, hmem.out, hx⟩
     have Hx := Lib.hid hx
     clear hx
     go_wp2_with fail
     refine (nzc_any x w).mono ?_
     rw [Hx.out]
     rintro e w' ⟨rfl, rfl⟩
     go_wp2_with fail
     go_ret
     exact ⟨⟨(k : Int), rfl, by show _ = _; rw [hany.out]; simp⟩, rfl⟩
   ·obtain rfl : k = n := by omega
    have hany : Hid (l.any (· != 0) = false) := by
     have := hno.out
     rwa [List.take_of_length_le (by rw [hll.out]; exact Nat.le_refl _)] at this
    go_wp2_with fail
    go_ret
    exact ⟨⟨-1, rfl, by show _ = _; rw [hany.out]; rfl⟩, rfl⟩
 have Hkey := Lib.hid key
 clear key
 go_enter Tryz.func116, Tryz.ntmps116
 go_wp2_with fail
 refine Hkey.out.mono ?_
 rintro e w' ⟨⟨k, rfl, hk⟩, rfl⟩
 go_wp2_with fail
 go_ret
 exact ⟨by rw [← hk.out]; rfl, rfl⟩
end Go.Proofs.YtcadjekcdokkjaaGreat
namespace Go.Proofs.YtcadjekcdokkjaaGreat
set_option linter.unusedVariables false
set_option linter.unusedSimpArgs false
open Go.RowKit
namespace Pg
def nextR (s : St) : List Nat → List UInt8 → Sum Int (RowM × List UInt8 × List Nat)
 | [], p => match takeRow p with | some (r, u) => .inr (r, u, []) | none => .inl 6
 | i :: l, p => match takeRow p with | some (r, u) => .inr (r, u, i :: l) | none => if readE s (i : Int) = 0 then nextR s l (p ++ readB s (i : Int)) else .inl (readE s (i : Int))
theorem nextR_now {s : St} {l : List Nat} {p u : List UInt8} {r : RowM} (h : takeRow p = some (r, u)) : nextR s l p = .inr (r, u, l) := by
 cases l <;> (rw [nextR, h])
theorem nextR_end {s : St} {p : List UInt8} (h : takeRow p = none) : nextR s [] p = .inl 6 := by rw [nextR, h]
theorem nextR_err {s : St} {i : Nat} {l : List Nat} {p : List UInt8} (h : takeRow p = none) (he : readE s (i : Int) ≠ 0) : nextR s (i :: l) p = .inl (readE s (i : Int)) := by
 rw [nextR, h]
 dsimp only
 rw [if_neg he]
theorem nextR_on {s : St} {i : Nat} {l : List Nat} {p : List UInt8} (h : takeRow p = none) (he : readE s (i : Int) = 0) : nextR s (i :: l) p = nextR s l (p ++ readB s (i : Int)) := by
 rw [nextR, h]
 dsimp only
 rw [if_pos he]
structure Fine (r : RowM) : Prop where
 may : mayR r = 0
 ok : ∀ v ∈ r, v.ok
theorem Fine.take {r : RowM} (h : Fine r) (U : List UInt8) : takeRow (rowB r ++ U) = some (r, U) := by
 obtain ⟨h1, h2⟩ := may_right h.may
 exact takeRow_put h1 h2 h.ok U
theorem Fine.short {r : RowM} (h : Fine r) {j : Nat} (hj : j < (rowB r).length) : takeRow ((rowB r).take j) = none := by
 obtain ⟨h1, h2⟩ := may_right h.may
 exact takeRow_short h1 h2 h.ok hj
theorem Fine.cases {r : RowM} (h : Fine r) {p G U : List UInt8} (e : p ++ G = rowB r ++ U) : (∃ u, p = rowB r ++ u ∧ u ++ G = U ∧ takeRow p = some (r, u)) ∨ (p.length < (rowB r).length ∧ takeRow p = none) := by
 by_cases hl : (rowB r).length ≤ p.length
 ·obtain ⟨u, hu, hg⟩ : ∃ u, p = rowB r ++ u ∧ u ++ G = U := by
   rcases List.append_eq_append_iff.1 e with ⟨a, h1, h2⟩ | ⟨a, h1, h2⟩
   ·have ha : a = [] := by
     have := congrArg List.length h1
     rw [List.length_append] at this
     exact List.eq_nil_of_length_eq_zero (by omega)
    subst ha
    exact ⟨[], by rw [h1]; simp, by rw [h2]; simp⟩
   ·exact ⟨a, h1, h2.symm⟩
  subst hu
  exact .inl ⟨u, rfl, hg, h.take u⟩
 ·refine .inr ⟨by omega, ?_⟩
  have hp : p = (rowB r).take p.length := by
   have := congrArg (List.take p.length) e
   rw [List.take_left, List.take_append_of_le_length (by omega)] at this
   exact this
  rw [hp]
  exact h.short (by omega)
def onP (s : St) (l : List Nat) : List UInt8 := l.flatMap fun (i : Nat) => readB s (i : Int)
structure Hon (s : St) (l : List Nat) (p : List UInt8) (rs : List RowM) (j : Nat) : Prop where
 eq : p ++ onP s l = rowsB rs ++ List.replicate j 0
 ok : ∀ i ∈ l, readE s (i : Int) = 0
theorem Hon.next {s : St} {r : RowM} {rs : List RowM} {j : Nat} (hr : Fine r) : ∀ {l : List Nat} {p : List UInt8}, Hon s l p (r :: rs) j → ∃ u l', nextR s l p = .inr (r, u, l') ∧ Hon s l' u rs j ∧ ∃ d, l = d ++ l'
 | [], p, h => by
  have e := h.eq
  have e2 : rowsB (r :: rs) = rowB r ++ rowsB rs := by simp [rowsB]
  rw [e2, List.append_assoc] at e
  rcases hr.cases e with ⟨u, h1, h2, h3⟩ | ⟨h1, h2⟩
  ·exact ⟨u, [], nextR_now h3, ⟨h2, h.ok⟩, [], rfl⟩
  ·exfalso
   have := congrArg List.length e
   simp only [onP, List.flatMap_nil, List.append_nil, List.length_append] at this
   omega
 | i :: l, p, h => by
  have e := h.eq
  have e2 : rowsB (r :: rs) = rowB r ++ rowsB rs := by simp [rowsB]
  rw [e2, List.append_assoc] at e
  rcases hr.cases e with ⟨u, h1, h2, h3⟩ | ⟨h1, h2⟩
  ·exact ⟨u, i :: l, nextR_now h3, ⟨h2, h.ok⟩, [], rfl⟩
  ·have h' : Hon s l (p ++ readB s (i : Int)) (r :: rs) j := ⟨by
    have := h.eq
    rw [onP, List.flatMap_cons, ← List.append_assoc] at this
    exact this, fun k hk => h.ok k (by simp [hk])⟩
   obtain ⟨u, l', e1, e2, d, e3⟩ := Hon.next hr h'
   exact ⟨u, l', by rw [nextR_on h2 (h.ok i (by simp))]; exact e1, e2, i :: d, by rw [e3]; rfl⟩
end Pg
end Go.Proofs.YtcadjekcdokkjaaGreat
namespace Go.Proofs.YtcadjekcdokkjaaGreat
set_option linter.unusedVariables false
set_option linter.unusedSimpArgs false
open Go.RowKit
attribute [local go_sem ↓] Go.wp_at_zero Go.wp_at_succ
def idsLen (w : World) (bc : Nat) : Nat := match w.cell? ⟨bc, 1, none⟩ with | some (.slice _ n _) => n | _ => 0
namespace CuAt
variable {w w5 : World} {S : Nat → Prop} {B bs bc : Nat} {s : Pg.St} {l l' : List Nat} {k ic k' ic' : Nat} {I I' : Option Addr} {p q : List UInt8} {n rc N c5 : Nat} {R R5 : Option Addr} {left err : Int}
theorem idsLen (h : CuAt w S bs bc l k ic I p n rc R left err) : Go.Proofs.YtcadjekcdokkjaaGreat.idsLen w bc = k := by
 have := h.blk.cell 1
 simp only [List.getElem?_cons_zero, List.getElem?_cons_succ] at this
 unfold Go.Proofs.YtcadjekcdokkjaaGreat.idsLen
 rw [this]
theorem grow_turns (h : CuAt w S bs bc l k ic I p n rc R left err) (hg : w.grownBy w5 (R.map (·.block))) : Turns S [] 0 w w5 := by
 refine Turns.of_grown hg (fun x hx => ?_)
 obtain ⟨ad, ha, hx⟩ := Option.map_eq_some_iff.1 hx
 obtain ⟨g, off, rfl⟩ : ∃ g off, ad = ⟨g, off, none⟩ := by
  rcases h.rst with ⟨h, _⟩ | ⟨g, off, ys, h, _⟩
  ·rw [h] at ha; cases ha
  ·rw [h] at ha; exact ⟨g, off, (Option.some.inj ha).symm⟩
 rw [← hx]
 exact h.inR g off ha
theorem endR (h : CuAt w S bs bc l k ic I p n rc R left err) (hs : Sto w B bs s) (hy : ∀ j, w.heap.size ≤ j → S j) (hg : w.grownBy w5 (R.map (·.block))) (ho : OwnX w5 0 5 R5 N c5 (Bs q)) (hat : LiesAt w R R5) :
  CuAt (w5.setCell ⟨bc, 2, none⟩ (.slice R5 N c5)) S bs bc l k ic I q N c5 R5 left err ∧ Sto (w5.setCell ⟨bc, 2, none⟩ (.slice R5 N c5)) B bs s ∧ Turns S [] 0 w (w5.setCell ⟨bc, 2, none⟩ (.slice R5 N c5)) := by
 have hk := h.rst.apx_keeps hg
 have hb := h.blk.keeps (by decide) hk
 have hw : Keeps [137] 0 w5 (w5.setCell ⟨bc, 2, none⟩ (.slice R5 N c5)) := (Keeps.refl _ _ _).setCell hb (by simp) (Nat.zero_le _) _
 exact ⟨⟨h.sc, hb.set_ 2 _, (h.ids.keeps (by decide) hk).keeps (by decide) hw, h.inI, ho.keeps (by decide) hw, hat.inS h.inR hy⟩, (hs.keeps hk (by decide)).keeps hw (by decide), (h.grow_turns hg).trans (Turns.setCell w5 (i := 2) h.sc _)⟩
theorem endA (h : CuAt w S bs bc l k ic I p n rc R left err) (hs : Sto w B bs s) (hy : ∀ j, w.heap.size ≤ j → S j) (hI : ∀ w', OwnX w' 0 3 I k ic (Is l) → OwnX w' 0 3 I' k' ic' (Is l')) (hin : InS S I') (hg : w.grownBy w5 (R.map (·.block))) (ho : OwnX w5 0 5 R5 N c5 (Bs q)) (hat : LiesAt w R R5) :
  CuAt ((w5.setCell ⟨bc, 2, none⟩ (.slice R5 N c5)).setCell ⟨bc, 1, none⟩ (.slice I' k' ic')) S bs bc l' k' ic' I' q N c5 R5 left err ∧ Sto ((w5.setCell ⟨bc, 2, none⟩ (.slice R5 N c5)).setCell ⟨bc, 1, none⟩ (.slice I' k' ic')) B bs s ∧ Turns S [] 0 w ((w5.setCell ⟨bc, 2, none⟩ (.slice R5 N c5)).setCell ⟨bc, 1, none⟩ (.slice I' k' ic')) := by
 obtain ⟨h1, h2, h3⟩ := h.endR hs hy hg ho hat
 exact ⟨h1.putI (hI _ h1.ids) hin, h2.keeps (h1.kw 1 _) (by decide), h3.trans (Turns.setCell _ (i := 1) h.sc _)⟩
end CuAt
theorem Pg.readB_le (s : Pg.St) (i : Int) : (Pg.readB s i).length ≤ 56 := by
 unfold Pg.readB
 split
 ·simp
 ·split
  ·rw [List.length_take]; omega
  ·simp
def NextOK (S : Nat → Prop) (B bs bc : Nat) (s : Pg.St) (l : List Nat) (p : List UInt8) (left : Int) (w : World) (e : Ending) (w' : World) : Prop :=
 ((∃ er, Pg.nextR s l p = .inl er ∧ e = .returned (.tuple #[.slice none 0 0, .bool false, .int .i64 er]) ∧ ∃ l' k' ic' I' p' n' rc' R', CuAt w' S bs bc l' k' ic' I' p' n' rc' R' left er) ∨
  ∃ r u l' R rc k' ic' I' n' rc' R', Pg.nextR s l p = .inr (r, u, l') ∧ (∀ v ∈ r, v.ok) ∧ e = .returned (.tuple #[.slice R r.length rc, .bool true, .int .i64 0]) ∧ Own w' w.heap.size 38 3 R r.length rc (rcells r) ∧ R.isSome = true ∧ CuAt w' S bs bc l' k' ic' I' u n' rc' R' (left - 1) 0) ∧
 Sto w' B bs s ∧ Turns S [] 0 w w'
set_option maxHeartbeats 8000000 in
set_option maxRecDepth 100000 in
theorem next_any (S : Nat → Prop) (B bs bc : Nat) (s : Pg.St) (l : List Nat) (k ic : Nat) (I : Option Addr) (p : List UInt8) (n rc : Nat) (R : Option Addr) (left : Int) (w : World) (h : CuAt w S bs bc l k ic I p n rc R left 0) (hs : Sto w B bs s) (hy : ∀ j, w.heap.size ≤ j → S j) (h0 : 0 < left) (hle : left ≤ 1000000) (hbd : n + 56 * k ≤ 100000) (hi : ∀ i ∈ l, i < 1000000) :
  Calls Tryz.prog 97 #[.pointer (some ⟨bc, 0, none⟩)] w fun e w' => NextOK S B bs bc s l p left w e w' := by
 have k3 := h.blk.cell 3
 have k4 := h.blk.cell 4
 simp only [List.getElem?_cons_zero, List.getElem?_cons_succ] at k3 k4
 have hne : (left == 0) = false := by rw [beq_eq_false_iff_ne]; omega
 have hw1 : IntKind.i64.wrap (left - 1) = left - 1 := by rw [IntKind.wrap_i64]; omega
 have Hh := Lib.hid h
 have Hs := Lib.hid hs
 have Hi := Lib.hid hi
 clear h hs hi
 go_enter Tryz.func97, Tryz.ntmps97
 go_wp2_with fail
 clear k3 k4 hne
 go_loopw [9] (fun x wr => (x = undef ∨ x = .int .i64 0) ∧ ∃ (l1 : List Nat) (k1 ic1 : Nat) (I1 : Option Addr) (p1 : List UInt8) (n1 rc1 : Nat) (R1 : Option Addr), CuAt wr S bs bc l1 k1 ic1 I1 p1 n1 rc1 R1 left 0 ∧ Sto wr B bs s ∧ Turns S [] 0 w wr ∧ Hid (Pg.nextR s l p = Pg.nextR s l1 p1) ∧ n1 + 56 * k1 ≤ 100000 ∧ Hid (∀ i ∈ l1, i < 1000000)) (fun _ wr => idsLen wr bc)
 case atStart => exact ⟨.inl rfl, l, k, ic, I, p, n, rc, R, Hh.out, Hs.out, Turns.refl _ _ _ _, rfl, hbd, Hi.out⟩
 case round =>
  obtain ⟨_, l1, k1, ic1, I1, p1, n1, rc1, R1, h1, hs1, ht1, hnx, hbd1, hi1⟩ := hrel
  have q2 := h1.blk.cell 2
  simp only [List.getElem?_cons_zero, List.getElem?_cons_succ] at q2
  have hzr := ht1.size
  have htk := Lib.hid (stake_tail p1 n1 rc1 R1 wr h1.plen h1.rst (by omega))
  have hil := Lib.hid h1.idsLen
  have H1 := Lib.hid h1
  have Hs1 := Lib.hid hs1
  have Ht1 := Lib.hid ht1
  clear h1 hs1 ht1
  go_wp2_with fail
  refine htk.out.mono ?_
  rintro e w3 ⟨⟨hno, rfl⟩ | ⟨r, u, Rr, rcr, A', c', hyes, hok, rfl, hoR, hRn, hoX, hin⟩, hb3⟩
  ·have h3 := H1.out.below hb3
   have j1 := h3.blk.cell 1
   simp only [List.getElem?_cons_zero, List.getElem?_cons_succ] at j1
   have hz3 := hb3.size
   have hkl := h3.klen
   have Hno := Lib.hid hno
   have H3 := Lib.hid h3
   have Hs3 := Lib.hid (Hs1.out.below hb3)
   have Ht3 := Lib.hid (Ht1.out.trans (Turns.of_below hb3))
   clear hno h3 hb3 htk H1 Hs1 Ht1 q2
   cases l1 with
   | nil =>
    obtain rfl : k1 = 0 := by rw [← hkl]; rfl
    have hf := Lib.hid (fun w' => cfail_c S bs bc [] 0 ic1 I1 p1 n1 rc1 R1 left 0 6 w')
    have hend : Hid (Pg.nextR s l p = .inl 6) := Lib.hid (by rw [hnx.out]; exact Pg.nextR_end Hno.out)
    clear hkl
    go_wp2_with fail
    refine (hf.out _ H3.out).mono ?_
    rintro e w4 ⟨rfl, h4, ht4, hk4⟩
    have Hs4 : Hid (Sto w4 B bs s) := Lib.hid (Hs3.out.keeps hk4 (by decide))
    clear j1 hf
    go_wp2_with fail
    go_ret3
    exact ⟨.inl ⟨6, hend.out, rfl, _, _, _, _, _, _, _, _, h4⟩, Hs4.out, Ht3.out.trans ht4⟩
   | cons i l2 =>
    obtain ⟨kk, rfl⟩ : ∃ kk, k1 = kk + 1 := ⟨l2.length, by rw [← hkl]; rfl⟩
    obtain ⟨b, o, rfl, _, hrg⟩ := H3.out.ids.at_ (Nat.succ_pos kk)
    have ci := hrg 0 (.int .i64 (i : Int)) rfl
    rw [Nat.add_zero] at ci
    have hi9 := hi1.out i (by simp)
    have hrd := Lib.hid (fun w' (hb : Below w3.heap.size w3 w') => read_c B bs s (i : Int) w' (Hs3.out.below hb) (by omega) (by omega))
    have hpos : (0 : Int) < ((kk + 1 : Nat) : Int) := by omega
    have hk0 : 0 < kk + 1 := by omega
    have hk1i : (1 : Int) ≤ (kk : Int) + 1 := by omega
    have hkn : ¬ ((kk : Int) + 1) = 0 := by omega
    have j0 := H3.out.blk.cell 0
    simp only [List.getElem?_cons_zero, List.getElem?_cons_succ] at j0
    clear hkl hrg
    go_wp2_with fail
    go_region_held3 (fun w' => w'.cell? ⟨bc, 0, none⟩ = some (.pointer (some ⟨bs, 0, none⟩)) ∧ w'.cell? ⟨bc, 1, none⟩ = some (.slice (some ⟨b, o, none⟩) (kk + 1) ic1) ∧ w'.cell? ⟨b, o, none⟩ = some (.int .i64 (i : Int)))
     (first | exact ⟨j0, j1, ci⟩ | exact ⟨i0, i1, ci4⟩)
     ((go_at_call 120; refine (hrd.out _ (Below.refl _ _).drew).mono ?_; rintro e w4 ⟨A4, c4, rfl, ho4, hb4'⟩; have hb4 : Below w3.heap.size w3 w4 := ⟨hb4'.os, hb4'.tape, hb4'.output, hb4'.size, hb4'.block⟩; have h4 := H3.out.below hb4; have i0 := h4.blk.cell 0; have i1 := h4.blk.cell 1; simp only [List.getElem?_cons_zero, List.getElem?_cons_succ] at i0 i1; have ci4 := cell_keep hb4 ci))
    clear i0 i1 ci4
    have hz4 := hb4.size
    have hs4 := Hs3.out.below hb4
    have Ht4 := Lib.hid (Ht3.out.trans (Turns.of_below hb4))
    have hrl := Pg.readB_le s (i : Int)
    have hnxt := Lib.hid (fun he => Pg.nextR_err (l := l2) Hno.out (i := i) (s := s) he)
    have hnxt2 := Lib.hid (fun he => Pg.nextR_on (l := l2) Hno.out (i := i) (s := s) he)
    have Ho4 := Lib.hid ho4
    clear hb4 hb4' ho4 hrd j0 j1 ci
    generalize hRB : Pg.readB s (i : Int) = rb at *
    generalize hRE : Pg.readE s (i : Int) = re at *
    have HL : Hid (rb.length = rb.length) := rfl
    generalize hrbl : rb.length = m4 at *
    have HM := Lib.hid hrbl
    clear hRB hRE hrbl HL
    by_cases hre : re = 0
    ·subst hre
     have q1 := h4.blk.cell 1
     have q2 := h4.blk.cell 2
     have f1 := h4.blk.frozen 1
     have f2 := h4.blk.frozen 2
     simp only [List.getElem?_cons_zero, List.getElem?_cons_succ] at q1 q2
     have H4 := Lib.hid h4
     have Hs4 := Lib.hid hs4
     have H4d := Lib.hid (h4.drewN 1)
     have Hs4d := Lib.hid (hs4.drewN 1)
     have Ht4d := Lib.hid (Ht4.out.drewN 1)
     have hcap := h4.ids.cap
     have hyd : Hid (∀ j, w4.heap.size ≤ j → S j) := fun j hj => hy j (by omega)
     clear h4 hs4 H3 Hs3 Ht3 Ht4
     have hw2 : IntKind.i64.wrap ((kk : Int) + 1 - 1) = kk := by rw [IntKind.wrap_i64]; omega
     by_cases hic : ic1 = 1
     ·obtain rfl : kk = 0 := by omega
      subst hic
      have hil2 : l2 = [] := by
       have := H4.out.klen
       simpa using this
      subst hil2
      have hI : Hid (∀ w', OwnX w' 0 3 (some ⟨b, o, none⟩) 1 1 (Is [i]) → OwnX w' 0 3 (some ⟨b, o, none⟩) 0 0 (Is [])) := fun w' hh => hh.dropAll
      have hIn : Hid (InS S (some ⟨b, o, none⟩)) := H4.out.inI
      have H4e := Lib.hid (H4d.out.putI (hI.out _ H4d.out.ids) hIn.out)
      go_wp2_with fail
      go_region_law
       (first | (refine step_apx rfl (.tmp 107) (.tmp 108) 36 rfl E8 0 R1 n1 rc1 (Bs p1) (by simp [Act.eval, Act.put]) (by exact H4d.out.rst) A4 m4 c4 (Bs rb) (by simp [Act.eval, Act.put]) (by rw [List.length_map]; exact HM.out) (by exact (Own.keeps Ho4.out (T := []) (B := 0) (by simp) ((Keeps.refl _ _ _).drewN 1)).rd) (Bs_one _) (n1 + m4) rfl (Bs (p1 ++ rb)) (by simp) (by omega) (by omega) (Nat.zero_le _) ?_; intro A5 c5 w5 ho5 hg5 hat5; have hB5 := H4d.out.blk.keeps (by decide) (H4d.out.rst.apx_keeps hg5); have j1 := hB5.cell 1; have j2 := hB5.cell 2; have g1 := hB5.frozen 1; have g2 := hB5.frozen 2; simp only [List.getElem?_cons_zero, List.getElem?_cons_succ] at j1 j2)
              | (refine step_apx rfl (.tmp 107) (.tmp 108) 36 rfl E8 0 R1 n1 rc1 (Bs p1) (by simp [Act.eval, Act.put]) (by exact H4e.out.rst) A4 m4 c4 (Bs rb) (by simp [Act.eval, Act.put]) (by rw [List.length_map]; exact HM.out) (by exact ((Own.keeps (Own.keeps Ho4.out (T := []) (B := 0) (by simp) ((Keeps.refl _ _ _).drewN 1)) (by decide) (H4d.out.kw 1 (.slice (some ⟨b, o, none⟩) 0 0)))).rd) (Bs_one _) (n1 + m4) rfl (Bs (p1 ++ rb)) (by simp) (by omega) (by omega) (Nat.zero_le _) ?_; intro A5 c5 w5 ho5 hg5 hat5; have hB5 := H4e.out.blk.keeps (by decide) (H4e.out.rst.apx_keeps hg5); have j1 := hB5.cell 1; have j2 := hB5.cell 2; have g1 := hB5.frozen 1; have g2 := hB5.frozen 2; simp only [List.getElem?_cons_zero, List.getElem?_cons_succ] at j1 j2))
      ·go_wp2_with fail
       go_roundw
       case rel => first | (obtain ⟨h6, hs6, ht6⟩ := H4d.out.endA Hs4d.out hyd.out hI.out hIn.out hg5 ho5 hat5; exact ⟨.inr rfl, [], 0, 0, _, _, n1 + m4, c5, A5, h6, hs6, Ht4d.out.trans ht6, by (show _ = _; rw [hnx.out]; first | exact hnxt2.out rfl | exact hnxt2.out trivial), by omega, fun x hx => hi1.out x (by first | exact List.mem_cons_of_mem _ hx | cases hx)⟩) | (obtain ⟨h6, hs6, ht6⟩ := H4d.out.endB Hs4d.out hyd.out hI.out hIn.out hg5 ho5 hat5; exact ⟨.inr rfl, [], 0, 0, _, _, n1 + m4, c5, A5, h6, hs6, Ht4d.out.trans ht6, by (show _ = _; rw [hnx.out]; first | exact hnxt2.out rfl | exact hnxt2.out trivial), by omega, fun x hx => hi1.out x (by first | exact List.mem_cons_of_mem _ hx | cases hx)⟩) | (obtain ⟨h6, hs6, ht6⟩ := H4d.out.endC Hs4d.out hyd.out hI.out hIn.out hg5 ho5 hat5; exact ⟨.inr rfl, [], 0, 0, _, _, n1 + m4, c5, A5, h6, hs6, Ht4d.out.trans ht6, by (show _ = _; rw [hnx.out]; first | exact hnxt2.out rfl | exact hnxt2.out trivial), by omega, fun x hx => hi1.out x (by first | exact List.mem_cons_of_mem _ hx | cases hx)⟩)
       case measure => rw [hil.out]; first | (have h6 := (H4d.out.endA Hs4d.out hyd.out hI.out hIn.out hg5 ho5 hat5).1.idsLen; refine Nat.lt_of_le_of_lt (Nat.le_of_eq h6) ?_; omega) | (have h6 := (H4d.out.endB Hs4d.out hyd.out hI.out hIn.out hg5 ho5 hat5).1.idsLen; refine Nat.lt_of_le_of_lt (Nat.le_of_eq h6) ?_; omega) | (have h6 := (H4d.out.endC Hs4d.out hyd.out hI.out hIn.out hg5 ho5 hat5).1.idsLen; refine Nat.lt_of_le_of_lt (Nat.le_of_eq h6) ?_; omega)
      ·go_wp2_with fail
       go_roundw
       case rel => first | (obtain ⟨h6, hs6, ht6⟩ := H4d.out.endA Hs4d.out hyd.out hI.out hIn.out hg5 ho5 hat5; exact ⟨.inr rfl, [], 0, 0, _, _, n1 + m4, c5, A5, h6, hs6, Ht4d.out.trans ht6, by (show _ = _; rw [hnx.out]; first | exact hnxt2.out rfl | exact hnxt2.out trivial), by omega, fun x hx => hi1.out x (by first | exact List.mem_cons_of_mem _ hx | cases hx)⟩) | (obtain ⟨h6, hs6, ht6⟩ := H4d.out.endB Hs4d.out hyd.out hI.out hIn.out hg5 ho5 hat5; exact ⟨.inr rfl, [], 0, 0, _, _, n1 + m4, c5, A5, h6, hs6, Ht4d.out.trans ht6, by (show _ = _; rw [hnx.out]; first | exact hnxt2.out rfl | exact hnxt2.out trivial), by omega, fun x hx => hi1.out x (by first | exact List.mem_cons_of_mem _ hx | cases hx)⟩) | (obtain ⟨h6, hs6, ht6⟩ := H4d.out.endC Hs4d.out hyd.out hI.out hIn.out hg5 ho5 hat5; exact ⟨.inr rfl, [], 0, 0, _, _, n1 + m4, c5, A5, h6, hs6, Ht4d.out.trans ht6, by (show _ = _; rw [hnx.out]; first | exact hnxt2.out rfl | exact hnxt2.out trivial), by omega, fun x hx => hi1.out x (by first | exact List.mem_cons_of_mem _ hx | cases hx)⟩)
       case measure => rw [hil.out]; first | (have h6 := (H4d.out.endA Hs4d.out hyd.out hI.out hIn.out hg5 ho5 hat5).1.idsLen; refine Nat.lt_of_le_of_lt (Nat.le_of_eq h6) ?_; omega) | (have h6 := (H4d.out.endB Hs4d.out hyd.out hI.out hIn.out hg5 ho5 hat5).1.idsLen; refine Nat.lt_of_le_of_lt (Nat.le_of_eq h6) ?_; omega) | (have h6 := (H4d.out.endC Hs4d.out hyd.out hI.out hIn.out hg5 ho5 hat5).1.idsLen; refine Nat.lt_of_le_of_lt (Nat.le_of_eq h6) ?_; omega)
      ·go_wp2_with fail
       go_roundw
       case rel => first | (obtain ⟨h6, hs6, ht6⟩ := H4d.out.endA Hs4d.out hyd.out hI.out hIn.out hg5 ho5 hat5; exact ⟨.inr rfl, [], 0, 0, _, _, n1 + m4, c5, A5, h6, hs6, Ht4d.out.trans ht6, by (show _ = _; rw [hnx.out]; first | exact hnxt2.out rfl | exact hnxt2.out trivial), by omega, fun x hx => hi1.out x (by first | exact List.mem_cons_of_mem _ hx | cases hx)⟩) | (obtain ⟨h6, hs6, ht6⟩ := H4d.out.endB Hs4d.out hyd.out hI.out hIn.out hg5 ho5 hat5; exact ⟨.inr rfl, [], 0, 0, _, _, n1 + m4, c5, A5, h6, hs6, Ht4d.out.trans ht6, by (show _ = _; rw [hnx.out]; first | exact hnxt2.out rfl | exact hnxt2.out trivial), by omega, fun x hx => hi1.out x (by first | exact List.mem_cons_of_mem _ hx | cases hx)⟩) | (obtain ⟨h6, hs6, ht6⟩ := H4d.out.endC Hs4d.out hyd.out hI.out hIn.out hg5 ho5 hat5; exact ⟨.inr rfl, [], 0, 0, _, _, n1 + m4, c5, A5, h6, hs6, Ht4d.out.trans ht6, by (show _ = _; rw [hnx.out]; first | exact hnxt2.out rfl | exact hnxt2.out trivial), by omega, fun x hx => hi1.out x (by first | exact List.mem_cons_of_mem _ hx | cases hx)⟩)
       case measure => rw [hil.out]; first | (have h6 := (H4d.out.endA Hs4d.out hyd.out hI.out hIn.out hg5 ho5 hat5).1.idsLen; refine Nat.lt_of_le_of_lt (Nat.le_of_eq h6) ?_; omega) | (have h6 := (H4d.out.endB Hs4d.out hyd.out hI.out hIn.out hg5 ho5 hat5).1.idsLen; refine Nat.lt_of_le_of_lt (Nat.le_of_eq h6) ?_; omega) | (have h6 := (H4d.out.endC Hs4d.out hyd.out hI.out hIn.out hg5 ho5 hat5).1.idsLen; refine Nat.lt_of_le_of_lt (Nat.le_of_eq h6) ?_; omega)
     ·have hic2 : 1 < ic1 := by omega
      have hI : Hid (∀ w', OwnX w' 0 3 (some ⟨b, o, none⟩) (kk + 1) ic1 (Is (i :: l2)) → OwnX w' 0 3 (some ⟨b, o + 1, none⟩) kk (ic1 - 1) (Is l2)) := fun w' hh => by
       have := hh.drop (k := 1) (by omega)
       simpa using this
      have hIn : Hid (InS S (some ⟨b, o + 1, none⟩)) := fun b' o' e => by
       injection e with e
       injection e with e1 e2
       subst e1
       exact H4.out.inI b o rfl
      have H4e := Lib.hid (H4d.out.putI (hI.out _ H4d.out.ids) hIn.out)
      go_wp2_with fail
      go_region_law
       (first | (refine step_apx rfl (.tmp 107) (.tmp 108) 36 rfl E8 0 R1 n1 rc1 (Bs p1) (by simp [Act.eval, Act.put]) (by exact H4d.out.rst) A4 m4 c4 (Bs rb) (by simp [Act.eval, Act.put]) (by rw [List.length_map]; exact HM.out) (by exact (Own.keeps Ho4.out (T := []) (B := 0) (by simp) ((Keeps.refl _ _ _).drewN 1)).rd) (Bs_one _) (n1 + m4) rfl (Bs (p1 ++ rb)) (by simp) (by omega) (by omega) (Nat.zero_le _) ?_; intro A5 c5 w5 ho5 hg5 hat5; have hB5 := H4d.out.blk.keeps (by decide) (H4d.out.rst.apx_keeps hg5); have j1 := hB5.cell 1; have j2 := hB5.cell 2; have g1 := hB5.frozen 1; have g2 := hB5.frozen 2; simp only [List.getElem?_cons_zero, List.getElem?_cons_succ] at j1 j2)
              | (refine step_apx rfl (.tmp 107) (.tmp 108) 36 rfl E8 0 R1 n1 rc1 (Bs p1) (by simp [Act.eval, Act.put]) (by exact H4e.out.rst) A4 m4 c4 (Bs rb) (by simp [Act.eval, Act.put]) (by rw [List.length_map]; exact HM.out) (by exact ((Own.keeps (Own.keeps Ho4.out (T := []) (B := 0) (by simp) ((Keeps.refl _ _ _).drewN 1)) (by decide) (H4d.out.kw 1 (.slice (some ⟨b, o + 1, none⟩) kk (ic1 - 1))))).rd) (Bs_one _) (n1 + m4) rfl (Bs (p1 ++ rb)) (by simp) (by omega) (by omega) (Nat.zero_le _) ?_; intro A5 c5 w5 ho5 hg5 hat5; have hB5 := H4e.out.blk.keeps (by decide) (H4e.out.rst.apx_keeps hg5); have j1 := hB5.cell 1; have j2 := hB5.cell 2; have g1 := hB5.frozen 1; have g2 := hB5.frozen 2; simp only [List.getElem?_cons_zero, List.getElem?_cons_succ] at j1 j2))
      ·go_wp2_with fail
       go_roundw
       case rel => first | (obtain ⟨h6, hs6, ht6⟩ := H4d.out.endA Hs4d.out hyd.out hI.out hIn.out hg5 ho5 hat5; exact ⟨.inr rfl, l2, kk, (ic1 - 1), _, _, n1 + m4, c5, A5, h6, hs6, Ht4d.out.trans ht6, by (show _ = _; rw [hnx.out]; first | exact hnxt2.out rfl | exact hnxt2.out trivial), by omega, fun x hx => hi1.out x (by first | exact List.mem_cons_of_mem _ hx | cases hx)⟩) | (obtain ⟨h6, hs6, ht6⟩ := H4d.out.endB Hs4d.out hyd.out hI.out hIn.out hg5 ho5 hat5; exact ⟨.inr rfl, l2, kk, (ic1 - 1), _, _, n1 + m4, c5, A5, h6, hs6, Ht4d.out.trans ht6, by (show _ = _; rw [hnx.out]; first | exact hnxt2.out rfl | exact hnxt2.out trivial), by omega, fun x hx => hi1.out x (by first | exact List.mem_cons_of_mem _ hx | cases hx)⟩) | (obtain ⟨h6, hs6, ht6⟩ := H4d.out.endC Hs4d.out hyd.out hI.out hIn.out hg5 ho5 hat5; exact ⟨.inr rfl, l2, kk, (ic1 - 1), _, _, n1 + m4, c5, A5, h6, hs6, Ht4d.out.trans ht6, by (show _ = _; rw [hnx.out]; first | exact hnxt2.out rfl | exact hnxt2.out trivial), by omega, fun x hx => hi1.out x (by first | exact List.mem_cons_of_mem _ hx | cases hx)⟩)
       case measure => rw [hil.out]; first | (have h6 := (H4d.out.endA Hs4d.out hyd.out hI.out hIn.out hg5 ho5 hat5).1.idsLen; refine Nat.lt_of_le_of_lt (Nat.le_of_eq h6) ?_; omega) | (have h6 := (H4d.out.endB Hs4d.out hyd.out hI.out hIn.out hg5 ho5 hat5).1.idsLen; refine Nat.lt_of_le_of_lt (Nat.le_of_eq h6) ?_; omega) | (have h6 := (H4d.out.endC Hs4d.out hyd.out hI.out hIn.out hg5 ho5 hat5).1.idsLen; refine Nat.lt_of_le_of_lt (Nat.le_of_eq h6) ?_; omega)
      ·go_wp2_with fail
       go_roundw
       case rel => first | (obtain ⟨h6, hs6, ht6⟩ := H4d.out.endA Hs4d.out hyd.out hI.out hIn.out hg5 ho5 hat5; exact ⟨.inr rfl, l2, kk, (ic1 - 1), _, _, n1 + m4, c5, A5, h6, hs6, Ht4d.out.trans ht6, by (show _ = _; rw [hnx.out]; first | exact hnxt2.out rfl | exact hnxt2.out trivial), by omega, fun x hx => hi1.out x (by first | exact List.mem_cons_of_mem _ hx | cases hx)⟩) | (obtain ⟨h6, hs6, ht6⟩ := H4d.out.endB Hs4d.out hyd.out hI.out hIn.out hg5 ho5 hat5; exact ⟨.inr rfl, l2, kk, (ic1 - 1), _, _, n1 + m4, c5, A5, h6, hs6, Ht4d.out.trans ht6, by (show _ = _; rw [hnx.out]; first | exact hnxt2.out rfl | exact hnxt2.out trivial), by omega, fun x hx => hi1.out x (by first | exact List.mem_cons_of_mem _ hx | cases hx)⟩) | (obtain ⟨h6, hs6, ht6⟩ := H4d.out.endC Hs4d.out hyd.out hI.out hIn.out hg5 ho5 hat5; exact ⟨.inr rfl, l2, kk, (ic1 - 1), _, _, n1 + m4, c5, A5, h6, hs6, Ht4d.out.trans ht6, by (show _ = _; rw [hnx.out]; first | exact hnxt2.out rfl | exact hnxt2.out trivial), by omega, fun x hx => hi1.out x (by first | exact List.mem_cons_of_mem _ hx | cases hx)⟩)
       case measure => rw [hil.out]; first | (have h6 := (H4d.out.endA Hs4d.out hyd.out hI.out hIn.out hg5 ho5 hat5).1.idsLen; refine Nat.lt_of_le_of_lt (Nat.le_of_eq h6) ?_; omega) | (have h6 := (H4d.out.endB Hs4d.out hyd.out hI.out hIn.out hg5 ho5 hat5).1.idsLen; refine Nat.lt_of_le_of_lt (Nat.le_of_eq h6) ?_; omega) | (have h6 := (H4d.out.endC Hs4d.out hyd.out hI.out hIn.out hg5 ho5 hat5).1.idsLen; refine Nat.lt_of_le_of_lt (Nat.le_of_eq h6) ?_; omega)
      ·go_wp2_with fail
       go_roundw
       case rel => first | (obtain ⟨h6, hs6, ht6⟩ := H4d.out.endA Hs4d.out hyd.out hI.out hIn.out hg5 ho5 hat5; exact ⟨.inr rfl, l2, kk, (ic1 - 1), _, _, n1 + m4, c5, A5, h6, hs6, Ht4d.out.trans ht6, by (show _ = _; rw [hnx.out]; first | exact hnxt2.out rfl | exact hnxt2.out trivial), by omega, fun x hx => hi1.out x (by first | exact List.mem_cons_of_mem _ hx | cases hx)⟩) | (obtain ⟨h6, hs6, ht6⟩ := H4d.out.endB Hs4d.out hyd.out hI.out hIn.out hg5 ho5 hat5; exact ⟨.inr rfl, l2, kk, (ic1 - 1), _, _, n1 + m4, c5, A5, h6, hs6, Ht4d.out.trans ht6, by (show _ = _; rw [hnx.out]; first | exact hnxt2.out rfl | exact hnxt2.out trivial), by omega, fun x hx => hi1.out x (by first | exact List.mem_cons_of_mem _ hx | cases hx)⟩) | (obtain ⟨h6, hs6, ht6⟩ := H4d.out.endC Hs4d.out hyd.out hI.out hIn.out hg5 ho5 hat5; exact ⟨.inr rfl, l2, kk, (ic1 - 1), _, _, n1 + m4, c5, A5, h6, hs6, Ht4d.out.trans ht6, by (show _ = _; rw [hnx.out]; first | exact hnxt2.out rfl | exact hnxt2.out trivial), by omega, fun x hx => hi1.out x (by first | exact List.mem_cons_of_mem _ hx | cases hx)⟩)
       case measure => rw [hil.out]; first | (have h6 := (H4d.out.endA Hs4d.out hyd.out hI.out hIn.out hg5 ho5 hat5).1.idsLen; refine Nat.lt_of_le_of_lt (Nat.le_of_eq h6) ?_; omega) | (have h6 := (H4d.out.endB Hs4d.out hyd.out hI.out hIn.out hg5 ho5 hat5).1.idsLen; refine Nat.lt_of_le_of_lt (Nat.le_of_eq h6) ?_; omega) | (have h6 := (H4d.out.endC Hs4d.out hyd.out hI.out hIn.out hg5 ho5 hat5).1.idsLen; refine Nat.lt_of_le_of_lt (Nat.le_of_eq h6) ?_; omega)
    ·have hf := Lib.hid (cfail_c S bs bc _ _ _ _ _ _ _ _ left 0 re w4 h4)
     have hend : Hid (Pg.nextR s l p = .inl re) := Lib.hid (by rw [hnx.out]; exact hnxt.out hre)
     have Hs4' := Lib.hid hs4
     clear h4 hs4
     go_wp2_with fail
     refine hf.out.mono ?_
     rintro e w5 ⟨rfl, h5, ht5, hk5⟩
     have Hs5 : Hid (Sto w5 B bs s) := Lib.hid (Hs4'.out.keeps hk5 (by decide))
     go_wp2_with fail
     go_ret3
     exact ⟨.inl ⟨re, hend.out, rfl, _, _, _, _, _, _, _, _, h5⟩, Hs5.out, Ht4.out.trans ht5⟩
  ·have h3 := H1.out.below hb3
   have j2 := h3.blk.cell 2
   have j3 := h3.blk.cell 3
   have f2 := h3.blk.frozen 2
   have f3 := h3.blk.frozen 3
   simp only [List.getElem?_cons_zero, List.getElem?_cons_succ] at j2 j3
   have hz3 := hb3.size
   have Hnx : Hid (Pg.nextR s l p = .inr (r, u, l1)) := Lib.hid (by rw [hnx.out]; exact Pg.nextR_now hyes)
   have hinS : InS S A' := fun b o e => by
    rcases hin b o e with ⟨o', h'⟩ | h'
    ·exact H1.out.inR b o' h'
    ·exact hy b (by omega)
   have h4 := (h3.putR hoX hinS).putL (left - 1)
   have hs4 := ((Hs1.out.below hb3).keeps (h3.kw 2 (.slice A' u.length c')) (by decide)).keeps ((h3.putR hoX hinS).kw 3 (.int .i64 (left - 1))) (by decide)
   have ht4 := ((Ht1.out.trans (Turns.of_below hb3)).trans (Turns.setCell w3 (i := 2) h3.sc (.slice A' u.length c'))).trans (Turns.setCell _ (i := 3) h3.sc (.int .i64 (left - 1)))
   have hoR4 := Own.keeps (Own.keeps hoR (by decide) (h3.kw 2 (.slice A' u.length c'))) (by decide) ((h3.putR hoX hinS).kw 3 (.int .i64 (left - 1)))
   have H4 := Lib.hid h4
   have Hs4 := Lib.hid hs4
   have Ht4 := Lib.hid ht4
   have HoR4 := Lib.hid (Own.base hoR4 hzr)
   have HRn := Lib.hid hRn
   have Hok := Lib.hid hok
   clear h3 h4 hs4 ht4 hoR hRn hoR4 hoX hin hok hyes hb3 htk H1 Hs1 Ht1 q2 hinS hnx
   go_wp2_with fail
   go_ret3
   exact ⟨.inr ⟨r, u, l1, Rr, rcr, k1, ic1, I1, _, c', A', Hnx.out, Hok.out, rfl, HoR4.out, HRn.out, H4.out⟩, Hs4.out, Ht4.out⟩
end Go.Proofs.YtcadjekcdokkjaaGreat
