/- Walks: a tree of losers: who beats whom, and all matches. Walks: a tree of losers: all matches are played. Walks: a tree of losers: New, Next, Put. -/
import Derived.Test.YtcadjekcdokkjaaGreatMHoPu
import Derived.Test.YtcadjekcdokkjaaGreatMSqTO
import Derived.Test.YtcadjekcdokkjaaGreatMSpCu
import Derived.Test.YtcadjekcdokkjaaGreatMLtSq
namespace Go.Proofs.YtcadjekcdokkjaaGreat
set_option linter.unusedVariables false
set_option linter.unusedSimpArgs false
open Go.RowKit
attribute [local go_sem ↓] Go.wp_at_zero Go.wp_at_succ
theorem Own.set1 {w : World} {base : Nat} {e : TypeId} {g n c : Nat} {xs : List Value} (h : Own w base e 1 (some ⟨g, 0, none⟩) n c xs) {i : Nat} (hi : i < n) (u : Value) : Own (w.setCell ⟨g, i, none⟩ u) base e 1 (some ⟨g, 0, none⟩) n c (xs.set i u) := by
 have hl := h.1
 have hcap := Own.cap h
 rcases Own.lies h with ⟨ha, _⟩ | ⟨g', cur, ha, hb, hlt, hh, hs, ht⟩
 ·cases ha
 ·injection ha with ha
  injection ha with ha _
  subst ha
  have hb2 : Blk w g e cur.toList := by unfold Blk; rw [hh]
  have hb3 := hb2.set_ i u
  refine ⟨by rw [List.length_set, hl], .inr ⟨g, c, (cur.toList.set i u).toArray, rfl, hb, ?_, hcap.1, hcap.2, by simp [hs], ?_⟩⟩
  ·unfold Blk at hb3; exact hb3
  ·rw [← ht, List.take_set]
theorem Own.cell1 {w : World} {base : Nat} {e : TypeId} {g n c : Nat} {xs : List Value} (h : Own w base e 1 (some ⟨g, 0, none⟩) n c xs) {i : Nat} {u : Value} (hi : xs[i]? = some u) : w.cell? ⟨g, i, none⟩ = some u ∧ w.frozen? ⟨g, i, none⟩ = false := by
 rcases Own.lies h with ⟨ha, _⟩ | ⟨g', cur, ha, hb, hlt, hh, hs, ht⟩
 ·cases ha
 ·injection ha with ha
  injection ha with ha _
  subst ha
  have hb2 : Blk w g e cur.toList := by unfold Blk; rw [hh]
  refine ⟨?_, hb2.frozen i⟩
  rw [hb2.cell]
  rw [← ht, List.getElem?_take] at hi
  split at hi
  ·exact hi
  ·cases hi
structure HdO (w : World) (S : Nat → Prop) (hs : List Value) (H : Nat → Option RowM) : Prop where
 out : ∀ p, hs.length ≤ p → H p = none
 at_ : ∀ p, p < hs.length → (hs[p]? = some (.slice none 0 0) ∧ H p = none) ∨ ∃ a r c, hs[p]? = some (.slice (some a) r.length c) ∧ H p = some r ∧ Own w 0 38 3 (some a) r.length c (rcells r) ∧ InS S (some a) ∧ (∀ v ∈ r, v.ok) ∧ r.length ≤ 1000000
structure HdR (w : World) (hs : List Value) (H : Nat → Option RowM) : Prop where
 out : ∀ p, hs.length ≤ p → H p = none
 at_ : ∀ p, p < hs.length → (hs[p]? = some (.slice none 0 0) ∧ H p = none) ∨ ∃ a r c, hs[p]? = some (.slice (some a) r.length c) ∧ H p = some r ∧ Rd w (some a) (rcells r) ∧ (∀ v ∈ r, v.ok) ∧ r.length ≤ 1000000
theorem HdR.below {w w' : World} {hs : List Value} {H : Nat → Option RowM} (h : HdR w hs H) (hb : Below w.heap.size w w') : HdR w' hs H := ⟨h.out, fun p hp => by
 rcases h.at_ p hp with h1 | ⟨a, r, c, h1, h2, h3, h4⟩
 ·exact .inl h1
 ·exact .inr ⟨a, r, c, h1, h2, h3.below hb, h4⟩⟩
theorem HdO.rd {w : World} {S : Nat → Prop} {hs : List Value} {H : Nat → Option RowM} (h : HdO w S hs H) : HdR w hs H := ⟨h.out, fun p hp => by
 rcases h.at_ p hp with h1 | ⟨a, r, c, h1, h2, h3, _, h4⟩
 ·exact .inl h1
 ·exact .inr ⟨a, r, c, h1, h2, Own.rd h3, h4⟩⟩
namespace HdO
variable {w w' : World} {S S' : Nat → Prop} {hs : List Value} {H : Nat → Option RowM}
theorem below (h : HdO w S hs H) (hb : Below w.heap.size w w') : HdO w' S hs H := ⟨h.out, fun p hp => by
 rcases h.at_ p hp with h1 | ⟨a, r, c, h1, h2, h3, h4⟩
 ·exact .inl h1
 ·exact .inr ⟨a, r, c, h1, h2, Own.below h3 hb, h4⟩⟩
theorem keeps {T : List TypeId} {B : Nat} (h : HdO w S hs H) (ht : 38 ∉ T) (hk : Keeps T B w w') : HdO w' S hs H := ⟨h.out, fun p hp => by
 rcases h.at_ p hp with h1 | ⟨a, r, c, h1, h2, h3, h4⟩
 ·exact .inl h1
 ·exact .inr ⟨a, r, c, h1, h2, Own.keeps h3 ht hk, h4⟩⟩
theorem turns {T : Nat → Prop} {B : Nat} {Ts : List TypeId} (h : HdO w S hs H) (ht : 38 ∉ Ts) (hd : ∀ i, S i → ¬ T i) (hk : Turns T Ts B w w') : HdO w' S hs H := ⟨h.out, fun p hp => by
 rcases h.at_ p hp with h1 | ⟨a, r, c, h1, h2, h3, h4, h5⟩
 ·exact .inl h1
 ·exact .inr ⟨a, r, c, h1, h2, Own.turns h3 ht (fun b o e => hd _ (h4 b o e)) hk, h4, h5⟩⟩
theorem more (h : HdO w S hs H) (hS : ∀ i, S i → S' i) : HdO w S' hs H := ⟨h.out, fun p hp => by
 rcases h.at_ p hp with h1 | ⟨a, r, c, h1, h2, h3, h4, h5⟩
 ·exact .inl h1
 ·exact .inr ⟨a, r, c, h1, h2, h3, fun b o e => hS _ (h4 b o e), h5⟩⟩
theorem bound (h : HdO w S hs H) : HdO w (fun i => S i ∧ i < w.heap.size) hs H := ⟨h.out, fun p hp => by
 rcases h.at_ p hp with h1 | ⟨a, r, c, h1, h2, h3, h4, h5⟩
 ·exact .inl h1
 ·exact .inr ⟨a, r, c, h1, h2, h3, fun b o e => ⟨h4 b o e, Good.own_lt h3 e⟩, h5⟩⟩
theorem set (h : HdO w S hs H) {i : Nat} (hi : i < hs.length) {v : Value} {x : Option RowM} (hv : (v = .slice none 0 0 ∧ x = none) ∨ ∃ a r c, v = .slice (some a) r.length c ∧ x = some r ∧ Own w 0 38 3 (some a) r.length c (rcells r) ∧ InS S (some a) ∧ (∀ v ∈ r, v.ok) ∧ r.length ≤ 1000000) :
  HdO w S (hs.set i v) (fun p => if p = i then x else H p) := by
 refine ⟨fun p hp => ?_, fun p hp => ?_⟩
 ·rw [List.length_set] at hp
  rw [if_neg (by omega)]
  exact h.out p hp
 ·rw [List.length_set] at hp
  by_cases e : p = i
  ·subst e
   rw [List.getElem?_set_self hi, if_pos rfl]
   rcases hv with ⟨rfl, rfl⟩ | ⟨a, r, c, rfl, rfl, h3⟩
   ·exact .inl ⟨rfl, rfl⟩
   ·exact .inr ⟨a, r, c, rfl, rfl, h3⟩
  ·rw [List.getElem?_set_ne (fun e2 => e e2.symm), if_neg e]
   exact h.at_ p hp
theorem snoc (h : HdO w S hs H) {v : Value} {x : Option RowM} (hv : (v = .slice none 0 0 ∧ x = none) ∨ ∃ a r c, v = .slice (some a) r.length c ∧ x = some r ∧ Own w 0 38 3 (some a) r.length c (rcells r) ∧ InS S (some a) ∧ (∀ v ∈ r, v.ok) ∧ r.length ≤ 1000000) :
  HdO w S (hs ++ [v]) (fun p => if p = hs.length then x else H p) := by
 refine ⟨fun p hp => ?_, fun p hp => ?_⟩
 ·rw [List.length_append, List.length_singleton] at hp
  rw [if_neg (by omega)]
  exact h.out p (by omega)
 ·rw [List.length_append, List.length_singleton] at hp
  by_cases e : p = hs.length
  ·subst e
   rw [List.getElem?_append_right (Nat.le_refl _), Nat.sub_self, if_pos rfl]
   rcases hv with ⟨rfl, rfl⟩ | ⟨a, r, c, rfl, rfl, h3⟩
   ·exact .inl ⟨rfl, rfl⟩
   ·exact .inr ⟨a, r, c, rfl, rfl, h3⟩
  ·rw [List.getElem?_append_left (by omega), if_neg e]
   exact h.at_ p (by omega)
end HdO
structure TrAt (w : World) (S : Nat → Prop) (bt m sz : Nat) (H : Nat → Option RowM) (ks : List Ky) (sl : Nat → Nat) (HA : Option Addr) (hc : Nat) (hs : List Value) (KA : Option Addr) (kn kc gs : Nat) (z : Int) : Prop where
 st : S bt
 blk : Blk w bt 141 [.slice HA m hc, .slice KA kn kc, .slice (some ⟨gs, 0, none⟩) sz sz, .int .i64 z]
 hds : Own w 0 23 1 HA m hc hs
 inH : InS S HA
 rows : HdO w S hs H
 klen : ks.length = kn
 keys : Own w 0 40 2 KA kn kc (kyc ks)
 inK : InS S KA
 sg : S gs
 slots : Blk w gs 3 (tab sz fun i => .int .i64 (sl i : Int))
namespace TrAt
variable {w w' : World} {S S' : Nat → Prop} {bt m sz : Nat} {H : Nat → Option RowM} {ks : List Ky} {sl : Nat → Nat} {HA : Option Addr} {hc : Nat} {hs : List Value} {KA : Option Addr} {kn kc gs : Nat} {z : Int}
theorem mlen (h : TrAt w S bt m sz H ks sl HA hc hs KA kn kc gs z) : hs.length = m := by
 have := h.hds.1
 rwa [Nat.mul_one] at this
theorem below (h : TrAt w S bt m sz H ks sl HA hc hs KA kn kc gs z) (hb : Below w.heap.size w w') : TrAt w' S bt m sz H ks sl HA hc hs KA kn kc gs z :=
 ⟨h.st, h.blk.below hb, Own.below h.hds hb, h.inH, h.rows.below hb, h.klen, Own.below h.keys hb, h.inK, h.sg, h.slots.below hb⟩
theorem turns {T : Nat → Prop} {B : Nat} {Ts : List TypeId} (h : TrAt w S bt m sz H ks sl HA hc hs KA kn kc gs z) (hT : ∀ t ∈ [141, 23, 38, 40, 3], t ∉ Ts) (hd : ∀ i, S i → ¬ T i) (hk : Turns T Ts B w w') : TrAt w' S bt m sz H ks sl HA hc hs KA kn kc gs z :=
 ⟨h.st, h.blk.turns (hd _ h.st) (hT _ (by simp)) hk, Own.turns h.hds (hT _ (by simp)) (fun b o e => hd _ (h.inH b o e)) hk, h.inH, h.rows.turns (hT _ (by simp)) hd hk, h.klen, Own.turns h.keys (hT _ (by simp)) (fun b o e => hd _ (h.inK b o e)) hk, h.inK, h.sg, h.slots.turns (hd _ h.sg) (hT _ (by simp)) hk⟩
theorem more (h : TrAt w S bt m sz H ks sl HA hc hs KA kn kc gs z) (hS : ∀ i, S i → S' i) : TrAt w S' bt m sz H ks sl HA hc hs KA kn kc gs z :=
 ⟨hS _ h.st, h.blk, h.hds, fun b o e => hS _ (h.inH b o e), h.rows.more hS, h.klen, h.keys, fun b o e => hS _ (h.inK b o e), hS _ h.sg, h.slots⟩
theorem bound (h : TrAt w S bt m sz H ks sl HA hc hs KA kn kc gs z) : TrAt w (fun i => S i ∧ i < w.heap.size) bt m sz H ks sl HA hc hs KA kn kc gs z :=
 ⟨⟨h.st, h.blk.lt⟩, h.blk, h.hds, fun b o e => ⟨h.inH b o e, Good.own_lt h.hds e⟩, h.rows.bound, h.klen, h.keys, fun b o e => ⟨h.inK b o e, Good.own_lt h.keys e⟩, ⟨h.sg, h.slots.lt⟩, h.slots⟩
theorem ask (h : TrAt w S bt m sz H ks sl HA hc hs KA kn kc gs z) (z' : Int) : TrAt (w.setCell ⟨bt, 3, none⟩ (.int .i64 z')) S bt m sz H ks sl HA hc hs KA kn kc gs z' := by
 have hk : Keeps [141] 0 w (w.setCell ⟨bt, 3, none⟩ (.int .i64 z')) := (Keeps.refl _ _ _).setCell h.blk (by simp) (Nat.zero_le _) _
 exact ⟨h.st, h.blk.set_ 3 _, Own.keeps h.hds (by decide) hk, h.inH, h.rows.keeps (by decide) hk, h.klen, Own.keeps h.keys (by decide) hk, h.inK, h.sg, h.slots.keeps (by decide) hk⟩
theorem slot (h : TrAt w S bt m sz H ks sl HA hc hs KA kn kc gs z) (i v : Nat) : TrAt (w.setCell ⟨gs, i, none⟩ (.int .i64 (v : Int))) S bt m sz H ks (Lt.upd sl i v) HA hc hs KA kn kc gs z := by
 have hk : Keeps [3] 0 w (w.setCell ⟨gs, i, none⟩ (.int .i64 (v : Int))) := (Keeps.refl _ _ _).setCell h.slots (by simp) (Nat.zero_le _) _
 have hb := h.slots.set_ i (.int .i64 (v : Int))
 rw [tab_set] at hb
 have e : (tab sz fun p => if p = i then Value.int .i64 (v : Int) else .int .i64 (sl p : Int)) = tab sz fun p => .int .i64 (Lt.upd sl i v p : Int) := tab_ext fun p _ => by unfold Lt.upd; split <;> rfl
 rw [e] at hb
 exact ⟨h.st, h.blk.keeps (by decide) hk, Own.keeps h.hds (by decide) hk, h.inH, h.rows.keeps (by decide) hk, h.klen, Own.keeps h.keys (by decide) hk, h.inK, h.sg, hb⟩
theorem scell (h : TrAt w S bt m sz H ks sl HA hc hs KA kn kc gs z) {i : Nat} (hi : i < sz) : w.cell? ⟨gs, i, none⟩ = some (.int .i64 (sl i : Int)) ∧ w.frozen? ⟨gs, i, none⟩ = false := by
 refine ⟨?_, h.slots.frozen i⟩
 rw [h.slots.cell, tab_get hi]
end TrAt
theorem qr_neq (w : World) (A : Option Addr) (n c : Nat) : (binOp .neq 23 (.slice A n c) (.slice none 0 0)).run Tryz.prog w = .ok (.bool (!A.isNone)) w :=
 run_neq_slice_nil w 23 38 A n c (by kernel_rfl)
def hdAt (hs : List Value) (i : Nat) : Value := (hs[i]?).getD (.slice none 0 0)
set_option maxRecDepth 100000 in
theorem lown_nil (w : World) : Calls Tryz.prog 99 #[.slice none 0 0] w fun e w' => e = .returned (.slice none 0 0) ∧ w = w' := by
 have hq := fun w => qr_nil w none 0 0 0 0
 rw [Option.isNone_none] at hq
 go_enter Tryz.func99, Tryz.ntmps99
 go_wp2_with fail
 go_ret
 exact ⟨rfl, rfl⟩
set_option maxRecDepth 100000 in
theorem lown_any (r : RowM) (n c : Nat) (a : Addr) (w : World) (hn : r.length = n) (hr : Rd w (some a) (rcells r)) (hl : n ≤ 1000000) :
  Calls Tryz.prog 99 #[.slice (some a) n c] w fun e w' => ∃ b c', e = .returned (.slice (some b) n c') ∧ Own w' w.heap.size 38 3 (some b) n c' (rcells r) ∧ Below w.heap.size w w' := by
 have Hn := Lib.hid hn
 clear hn
 have ho1 : Own (w.alloc (.cells #[] 38)) w.heap.size 38 3 (some ⟨w.heap.size, 0, none⟩) 0 0 [] := World.ownsRow_made w #[] 0 (Nat.le_refl _) (by unfold maxLen; omega) rfl
 have hbA : Below w.heap.size w (w.alloc (.cells #[] 38)) := (Below.refl _ _).alloc (Nat.le_refl _) _
 have hq := fun w => qr_nil w (some a) n c 0 0
 rw [Option.isNone_some] at hq
 go_enter Tryz.func99, Tryz.ntmps99
 go_wp2_with (first | (at_builtin; refine hold ?_) | (at_make; refine hold ?_))
 (with_reducible refine unhold ?_)
 refine wpList_apd rfl _ _ _ rfl Eval w.heap.size _ 0 _ [] rfl ho1 _ n _ (rcells r) rfl (by rw [rcells_len, Hn.out]) (hr.below hbA) (rcells_one r) n (Nat.zero_add _) (rcells r) rfl (by omega) (by omega) hbA.size ?_
 intro A2 c2 w2 ho2 hg2 hat2
 have hb2 := hbA.grown hg2 hbA.size ho1.row_ge
 have hs2 := own_some hat2 rfl
 obtain ⟨b2, rfl⟩ := Option.isSome_iff_exists.1 hs2
 go_wp2_with fail
 go_ret
 exact ⟨_, _, rfl, ho2, hb2⟩
set_option maxRecDepth 100000 in
theorem lhead_any {S : Nat → Prop} {bt m sz : Nat} {H : Nat → Option RowM} {ks : List Ky} {sl : Nat → Nat} {HA : Option Addr} {hc : Nat} {hs : List Value} {KA : Option Addr} {kn kc gs : Nat} {z : Int} (w : World) (h : TrAt w S bt m sz H ks sl HA hc hs KA kn kc gs z) (i : Nat) (hm : m ≤ 1000000) (hi : i ≤ 1000000) :
  Calls Tryz.prog 101 #[.pointer (some ⟨bt, 0, none⟩), .int .i64 (i : Int)] w fun e w' => e = .returned (hdAt hs i) ∧ w = w' := by
 have k0 := h.blk.cell 0
 simp only [List.getElem?_cons_zero] at k0
 have hlen := h.mlen
 by_cases hlt : i < m
 ·have hil : i < hs.length := by omega
  obtain ⟨u, hu⟩ : ∃ u, hs[i]? = some u := ⟨_, List.getElem?_eq_getElem hil⟩
  have hv : Hid (hdAt hs i = u) := by show _ = _; unfold hdAt; rw [hu]; rfl
  obtain ⟨g, o, rfl, hrg⟩ := (Own.rd h.hds) (fun e => by rw [e] at hil; simp at hil)
  have hc0 := hrg i u hu
  have hro : (∃ b o', u = .slice b o' 0) ∨ ∃ A n c, u = .slice A n c := .inr (by
   rcases h.rows.at_ i hil with ⟨h1, _⟩ | ⟨a, r, c, h1, _⟩
   ·rw [hu] at h1; exact ⟨_, _, _, Option.some.inj h1⟩
   ·rw [hu] at h1; exact ⟨_, _, _, Option.some.inj h1⟩)
  obtain ⟨A, n, c, rfl⟩ : ∃ A n c, u = .slice A n c := by
   rcases hro with ⟨b, o', e⟩ | h9
   ·exact ⟨_, _, _, e⟩
   ·exact h9
  have hltI : ¬ (m : Int) ≤ (i : Int) := by omega
  clear hro h hlen hil hu hrg
  go_enter Tryz.func101, Tryz.ntmps101
  go_wp2_with fail
  go_ret
  rw [hv.out]
  exact ⟨rfl, rfl⟩
 ·have hv : Hid (hdAt hs i = .slice none 0 0) := by show _ = _; unfold hdAt; rw [List.getElem?_eq_none (by omega)]; rfl
  have hltI : (m : Int) ≤ (i : Int) := by omega
  clear h hlen
  go_enter Tryz.func101, Tryz.ntmps101
  go_wp2_with fail
  go_ret
  rw [hv.out]
  exact ⟨rfl, rfl⟩
theorem hd_cases {w : World} {S : Nat → Prop} {hs : List Value} {H : Nat → Option RowM} (h : HdO w S hs H) (i : Nat) : (hdAt hs i = .slice none 0 0 ∧ H i = none) ∨ ∃ a r c, hdAt hs i = .slice (some a) r.length c ∧ H i = some r ∧ Own w 0 38 3 (some a) r.length c (rcells r) ∧ InS S (some a) ∧ (∀ v ∈ r, v.ok) ∧ r.length ≤ 1000000 := by
 by_cases hi : i < hs.length
 ·rcases h.at_ i hi with ⟨h1, h2⟩ | ⟨a, r, c, h1, h2⟩
  ·exact .inl ⟨by unfold hdAt; rw [h1]; rfl, h2⟩
  ·exact .inr ⟨a, r, c, by unfold hdAt; rw [h1]; rfl, h2⟩
 ·exact .inl ⟨by unfold hdAt; rw [List.getElem?_eq_none (by omega)]; rfl, h.out i (by omega)⟩
set_option maxHeartbeats 4000000 in
set_option maxRecDepth 100000 in
theorem lbeats_any {S : Nat → Prop} {bt m sz : Nat} {H : Nat → Option RowM} {ks : List Ky} {sl : Nat → Nat} {HA : Option Addr} {hc : Nat} {hs : List Value} {KA : Option Addr} {kn kc gs : Nat} {z : Int} (w : World) (h : TrAt w S bt m sz H ks sl HA hc hs KA kn kc gs z) (a b : Nat) (hm : m ≤ 1000000) (hkn : kn ≤ 1000000) (ha : a ≤ 1000000) (hb : b ≤ 1000000) :
  Calls Tryz.prog 102 #[.pointer (some ⟨bt, 0, none⟩), .int .i64 (a : Int), .int .i64 (b : Int)] w fun e w' => e = .returned (.bool (Lt.beat (cmpR ks) H a b)) ∧ (∃ z', TrAt w' S bt m sz H ks sl HA hc hs KA kn kc gs z') ∧ Turns S [] 0 w w' := by
 have hha := Lib.hid (lhead_any w h a hm ha)
 have hhb := Lib.hid (lhead_any w h b hm hb)
 have hqs := fun w a n c => qr_nil w (some a) n c 0 0
 have hqn := fun w => qr_nil w none 0 0 0 0
 have hns := fun w a n c => qr_neq w (some a) n c
 have hnn := fun w => qr_neq w none 0 0
 rw [Option.isNone_none] at hqn hnn
 simp only [Option.isNone_some, Bool.not_false, Bool.not_true] at hqs hns hnn
 rcases hd_cases h.rows a with ⟨ea, Ha⟩ | ⟨aa, ra, ca, ea, Ha, oa, _, _, la⟩
 ·have hv : Hid (Lt.beat (cmpR ks) H a b = false) := by show _ = _; unfold Lt.beat; rw [Ha]
  rw [ea] at hha
  have H0 := Lib.hid h
  obtain ⟨vb, hvb⟩ : ∃ vb, hdAt hs b = vb := ⟨_, rfl⟩
  rw [hvb] at hhb
  clear h ea Ha hvb
  go_enter Tryz.func102, Tryz.ntmps102
  go_wp2_with fail
  refine hha.out.mono ?_
  rintro e w' ⟨rfl, rfl⟩
  go_wp2_with fail
  refine hhb.out.mono ?_
  rintro e w' ⟨rfl, rfl⟩
  go_wp2_with fail
  go_ret
  rw [hv.out]
  exact ⟨rfl, ⟨z, H0.out⟩, Turns.refl _ _ _ _⟩
 ·rcases hd_cases h.rows b with ⟨eb, Hb⟩ | ⟨ab, rb, cb, eb, Hb, ob, _, _, lb⟩
  ·have hv : Hid (Lt.beat (cmpR ks) H a b = true) := by show _ = _; unfold Lt.beat; rw [Ha, Hb]
   rw [ea] at hha
   rw [eb] at hhb
   have H0 := Lib.hid h
   generalize ra.length = n1 at *
   clear h ea Ha eb Hb oa
   go_enter Tryz.func102, Tryz.ntmps102
   go_wp2_with fail
   refine hha.out.mono ?_
   rintro e w' ⟨rfl, rfl⟩
   go_wp2_with fail
   refine hhb.out.mono ?_
   rintro e w' ⟨rfl, rfl⟩
   go_wp2_with fail
   go_ret
   rw [hv.out]
   exact ⟨rfl, ⟨z, H0.out⟩, Turns.refl _ _ _ _⟩
  ·have hv : Hid (Lt.beat (cmpR ks) H a b = (decide (cmpR ks ra rb < 0) || (decide (cmpR ks ra rb = 0) && decide (a < b)))) := by show _ = _; unfold Lt.beat; rw [Ha, Hb]
   rw [ea] at hha
   rw [eb] at hhb
   have k1 := h.blk.cell 1
   have k3 := h.blk.cell 3
   have f3 := h.blk.frozen 3
   simp only [List.getElem?_cons_zero, List.getElem?_cons_succ] at k1 k3
   have H1 := Lib.hid (h.ask (wrap64 (z + 1)))
   have Ht1 := Lib.hid (Turns.setCell (S := S) (T := []) (B := 0) w (g := bt) (i := 3) h.st (.int .i64 (wrap64 (z + 1))))
   have hk1 : Keeps [141] 0 w (w.setCell ⟨bt, 3, none⟩ (.int .i64 (wrap64 (z + 1)))) := (Keeps.refl _ _ _).setCell h.blk (by simp) (Nat.zero_le _) _
   have oa1 := Own.keeps oa (by decide) hk1
   have ob1 := Own.keeps ob (by decide) hk1
   have okk := Own.keeps h.keys (by decide) hk1
   have hc := Lib.hid (rcmp_k ra rb ra.length ca rb.length cb (some aa) (some ab) KA kn kc ks _ rfl rfl oa1.rd ob1.rd h.klen okk.rd hkn)
   have H0 := Lib.hid h
   generalize ra.length = n1 at *
   generalize rb.length = n2 at *
   clear h ea Ha eb Hb oa ob oa1 ob1 okk hk1
   go_enter Tryz.func102, Tryz.ntmps102
   go_wp2_with fail
   refine hha.out.mono ?_
   rintro e w' ⟨rfl, rfl⟩
   go_wp2_with fail
   refine hhb.out.mono ?_
   rintro e w' ⟨rfl, rfl⟩
   go_wp2_with fail
   refine hc.out.mono ?_
   rintro e w2 ⟨rfl, hb2⟩
   have H2 := Lib.hid (H1.out.below hb2)
   have Ht2 := Lib.hid (Ht1.out.trans (Turns.of_below hb2))
   generalize cmpR ks ra rb = R at *
   by_cases h1 : R < 0
   ·rw [decide_eq_true h1, Bool.true_or] at hv
    go_wp2_with fail
    go_ret
    rw [hv.out]
    exact ⟨rfl, ⟨_, H2.out⟩, Ht2.out⟩
   ·rw [decide_eq_false h1, Bool.false_or] at hv
    by_cases h2 : R = 0
    ·subst h2
     rw [decide_eq_true rfl, Bool.true_and] at hv
     by_cases h3 : a < b
     ·rw [decide_eq_true h3] at hv
      have h3I : (a : Int) < (b : Int) := by omega
      go_wp2_with fail
      go_ret
      rw [hv.out]
      exact ⟨rfl, ⟨_, H2.out⟩, Ht2.out⟩
     ·rw [decide_eq_false h3] at hv
      have h3I : ¬ (a : Int) < (b : Int) := by omega
      go_wp2_with fail
      go_ret
      rw [hv.out]
      exact ⟨rfl, ⟨_, H2.out⟩, Ht2.out⟩
    ·have h2B : (R == 0) = false := by rw [beq_eq_false_iff_ne]; exact h2
     have hD : decide (R < 0) = false := decide_eq_false h1
     rw [decide_eq_false h2, Bool.false_and] at hv
     go_wp2_with fail
     go_ret
     rw [hv.out]
     refine ⟨?_, ⟨_, H2.out⟩, Ht2.out⟩
     try rw [hD]
     rfl
end Go.Proofs.YtcadjekcdokkjaaGreat
namespace Go.Proofs.YtcadjekcdokkjaaGreat
set_option linter.unusedVariables false
set_option linter.unusedSimpArgs false
open Go.RowKit
attribute [local go_sem ↓] Go.wp_at_zero Go.wp_at_succ
set_option maxHeartbeats 8000000 in
set_option maxRecDepth 100000 in
theorem lplay_c {S : Nat → Prop} {bt m sz : Nat} {H : Nat → Option RowM} {ks : List Ky} {HA : Option Addr} {hc : Nat} {hs : List Value} {KA : Option Addr} {kn kc gs : Nat} (hm : m ≤ 1000000) (hkn : kn ≤ 1000000) (hsz : sz ≤ 1000) : ∀ (d i : Nat) (sl : Nat → Nat) (z : Int) (w : World), 2 * sz - i ≤ d → 0 < i → i < 2 * sz → TrAt w S bt m sz H ks sl HA hc hs KA kn kc gs z →
  Calls Tryz.prog 100 #[.pointer (some ⟨bt, 0, none⟩), .int .i64 (i : Int)] w fun e w' => e = .returned (.int .i64 ((Lt.win (Lt.beat (cmpR ks) H) sz i : Nat) : Int)) ∧ ∃ sl' z', TrAt w' S bt m sz H ks sl' HA hc hs KA kn kc gs z' ∧ (∀ j, 0 < j → j < sz → Lt.Up i j → sl' j = Lt.lose (Lt.beat (cmpR ks) H) sz j) ∧ (∀ j, ¬ Lt.Up i j → sl' j = sl j) ∧ Turns S [] 0 w w' := by
 intro d
 induction d with
 | zero => intro i sl z w h1 h2 h3; omega
 | succ d ih =>
  intro i sl z w hd h0 h2 h
  have Ih := Lib.hid ih
  have k2 := h.blk.cell 2
  simp only [List.getElem?_cons_zero, List.getElem?_cons_succ] at k2
  have H0 := Lib.hid h
  clear ih h
  by_cases hlt : i < sz
  ·obtain ⟨x2, hx2, hx2'⟩ : ∃ x : Nat, 2 * (i : Int) = (x : Int) ∧ x = 2 * i := ⟨2 * i, by omega, rfl⟩
   obtain ⟨x3, hx3, hx3'⟩ : ∃ x : Nat, (x2 : Int) + 1 = (x : Int) ∧ x = 2 * i + 1 := ⟨2 * i + 1, by omega, rfl⟩
   have hw2 : IntKind.i64.wrap (x2 : Int) = (x2 : Int) := by rw [IntKind.wrap_i64]; omega
   have hw3 : IntKind.i64.wrap (x3 : Int) = (x3 : Int) := by rw [IntKind.wrap_i64]; omega
   have hltI : ¬ (sz : Int) ≤ (i : Int) := by omega
   have hiI : (0 : Int) ≤ (i : Int) := by omega
   have hiI2 : (i : Int) < (sz : Int) := by omega
   have hw := Lib.hid (Lt.win_node (bt := Lt.beat (cmpR ks) H) h0 hlt)
   have hlo : Hid (Lt.lose (Lt.beat (cmpR ks) H) sz i = if Lt.beat (cmpR ks) H (Lt.win (Lt.beat (cmpR ks) H) sz (2 * i + 1)) (Lt.win (Lt.beat (cmpR ks) H) sz (2 * i)) = true then Lt.win (Lt.beat (cmpR ks) H) sz (2 * i) else Lt.win (Lt.beat (cmpR ks) H) sz (2 * i + 1)) := rfl
   have hA9 := Lt.win_lt (bt := Lt.beat (cmpR ks) H) (sz := sz) (by omega) (2 * i) (by omega) (by omega)
   have hB9 := Lt.win_lt (bt := Lt.beat (cmpR ks) H) (sz := sz) (by omega) (2 * i + 1) (by omega) (by omega)
   have h1c := Lib.hid (fun sl z w h => Ih.out x2 sl z w (by omega) (by omega) (by omega) h)
   have h2c := Lib.hid (fun sl z w h => Ih.out x3 sl z w (by omega) (by omega) (by omega) h)
   rw [hx2'] at h1c
   rw [hx3'] at h2c
   generalize Lt.win (Lt.beat (cmpR ks) H) sz (2 * i) = a at *
   generalize Lt.win (Lt.beat (cmpR ks) H) sz (2 * i + 1) = b at *
   rw [← hx2'] at h1c
   rw [← hx3'] at h2c
   have Hx2 := Lib.hid hx2'
   have Hx3 := Lib.hid hx3'
   clear hx2' hx3' Ih
   go_enter Tryz.func100, Tryz.ntmps100
   go_wp2_with fail
   refine (h1c.out sl z w H0.out).mono ?_
   rintro e w1 ⟨rfl, sl1, z1, h1, h1a, h1b, ht1⟩
   have H1 := Lib.hid h1
   have H1a := Lib.hid h1a
   have H1b := Lib.hid h1b
   have Ht1 := Lib.hid ht1
   clear h1 h1a h1b ht1 h1c H0
   go_wp2_with fail
   refine (h2c.out sl1 z1 w1 H1.out).mono ?_
   rintro e w2 ⟨rfl, sl2, z2, h2, h2a, h2b, ht2⟩
   have H2 := Lib.hid h2
   have H2a := Lib.hid h2a
   have H2b := Lib.hid h2b
   have Ht2 := Lib.hid (Ht1.out.trans ht2)
   have hbe := Lib.hid (lbeats_any w2 h2 b a hm hkn (by omega) (by omega))
   clear h2 h2a h2b ht2 h2c H1 Ht1
   have hfin : Hid (∀ v, v = Lt.lose (Lt.beat (cmpR ks) H) sz i → (∀ j, 0 < j → j < sz → Lt.Up i j → Lt.upd sl2 i v j = Lt.lose (Lt.beat (cmpR ks) H) sz j) ∧ (∀ j, ¬ Lt.Up i j → Lt.upd sl2 i v j = sl j)) := fun v hv => by
    have e2 : x2 = 2 * i := Hx2.out
    have e3 : x3 = 2 * i + 1 := Hx3.out
    refine ⟨fun j hj0 hj hu => ?_, fun j hu => ?_⟩
    ·by_cases e : j = i
     ·rw [e, Lt.upd_at, hv]
     ·rw [Lt.upd_ne _ _ e]
      rcases Lt.up_child hu (fun e9 => e e9.symm) with h9 | h9
      ·rw [H2b.out j (fun h8 => ?_)]
       ·exact H1a.out j hj0 hj (by rw [e2]; exact h9)
       ·rw [e3] at h8
        have := Lt.up_twin h8 h9 (by omega) (by omega)
        omega
      ·exact H2a.out j hj0 hj (by rw [e3]; exact h9)
    ·have e : j ≠ i := fun e9 => hu (by rw [e9]; exact Lt.up_self _)
     rw [Lt.upd_ne _ _ e, H2b.out j (fun h8 => hu ?_), H1b.out j (fun h8 => hu ?_)]
     ·have := Lt.up_up h8
      rwa [e2, show 2 * i / 2 = i from by omega] at this
     ·have := Lt.up_up h8
      rwa [e3, show (2 * i + 1) / 2 = i from by omega] at this
   go_wp2_with fail
   refine hbe.out.mono ?_
   rintro e w3 ⟨rfl, ⟨z3, h3⟩, ht3⟩
   have j2 := h3.blk.cell 2
   simp only [List.getElem?_cons_zero, List.getElem?_cons_succ] at j2
   obtain ⟨jc, jf⟩ := h3.scell hlt
   have Hs := Lib.hid (fun v => h3.slot i v)
   have Htv := Lib.hid (fun v : Nat => Turns.setCell (S := S) (T := []) (B := 0) w3 (g := gs) (i := i) h3.sg (.int .i64 (v : Int)))
   have Ht3 := Lib.hid (Ht2.out.trans ht3)
   clear h3 ht3 hbe Ht2 H2 H1a H1b H2a H2b
   cases hbb : Lt.beat (cmpR ks) H b a with
   | true =>
    have hw1 : Hid (Lt.win (Lt.beat (cmpR ks) H) sz i = b) := by show _ = _; rw [hw.out, if_pos hbb]
    have hl1 : Hid (a = Lt.lose (Lt.beat (cmpR ks) H) sz i) := by show _ = _; rw [hlo.out, if_pos hbb]
    clear hw hlo hbb
    go_wp2_with fail
    go_ret
    rw [hw1.out]
    exact ⟨rfl, _, _, Hs.out a, (hfin.out a hl1.out).1, (hfin.out a hl1.out).2, Ht3.out.trans (Htv.out a)⟩
   | false =>
    have hbf : ¬ Lt.beat (cmpR ks) H b a = true := by rw [hbb]; decide
    have hw1 : Hid (Lt.win (Lt.beat (cmpR ks) H) sz i = a) := by show _ = _; rw [hw.out, if_neg hbf]
    have hl1 : Hid (b = Lt.lose (Lt.beat (cmpR ks) H) sz i) := by show _ = _; rw [hlo.out, if_neg hbf]
    clear hw hlo hbb hbf
    go_wp2_with fail
    go_ret
    rw [hw1.out]
    exact ⟨rfl, _, _, Hs.out b, (hfin.out b hl1.out).1, (hfin.out b hl1.out).2, Ht3.out.trans (Htv.out b)⟩
  ·have hw1 : Hid (Lt.win (Lt.beat (cmpR ks) H) sz i = i - sz) := Lt.win_leaf (by omega)
   have hltI : (sz : Int) ≤ (i : Int) := by omega
   have hsub : (i : Int) - (sz : Int) = ((i - sz : Nat) : Int) := by omega
   clear Ih
   go_enter Tryz.func100, Tryz.ntmps100
   go_wp2_with fail
   go_ret
   rw [hw1.out]
   refine ⟨rfl, sl, z, H0.out, fun j _ hj hu => ?_, fun _ _ => rfl, Turns.refl _ _ _ _⟩
   have := Lt.up_le hu
   omega
end Go.Proofs.YtcadjekcdokkjaaGreat
namespace Go.Proofs.YtcadjekcdokkjaaGreat
set_option linter.unusedVariables false
set_option linter.unusedSimpArgs false
open Go.RowKit
attribute [local go_sem ↓] Go.wp_at_zero Go.wp_at_succ
theorem Ekey : ElemT Tryz.prog 41 40 2 16 (.agg #[.int .i64 0, .bool false]) := ElemT.mk' (by kernel_rfl) (by kernel_rfl) rfl (by omega)
theorem qk_nil (w : World) (A : Option Addr) (n c n' c' : Nat) : (binOp .eql 41 (.slice A n c) (.slice none n' c')).run Tryz.prog w = .ok (.bool A.isNone) w := by
 have hu : Tryz.prog.underlying 41 = some (.slice 40) := by kernel_rfl
 exact Lib.run_eql_slice_nil w 41 40 A n c n' c' hu
theorem kyc_one (l : List Ky) : ∀ u ∈ kyc l, u.oneCell' = true := by
 intro u hu
 unfold kyc at hu
 obtain ⟨x, _, hx⟩ := List.mem_flatMap.1 hu
 unfold Ky.cells at hx
 rcases List.mem_cons.1 hx with rfl | hx
 ·rfl
 ·rw [List.mem_singleton] at hx
  rw [hx]
  rfl
set_option maxRecDepth 100000 in
theorem clonek_any (l : List Ky) (n c : Nat) (A : Option Addr) (w : World) (hn : l.length = n) (hr : Rd w A (kyc l)) (hl : n ≤ 1000000) :
  Calls Tryz.prog 98 #[.slice A n c] w fun e w' => ∃ A' c', e = .returned (.slice A' n c') ∧ Own w' w.heap.size 40 2 A' n c' (kyc l) ∧ Below w.heap.size w w' := by
 have Hn := Lib.hid hn
 clear hn
 cases A with
 | none =>
  have h0 : kyc l = [] := by
   refine Classical.byContradiction fun hne => ?_
   obtain ⟨b, o, h, _⟩ := hr hne
   cases h
  have hl0 := kyc_len l
  rw [h0] at hl0
  obtain rfl : 0 = n := by have := Hn.out; simp only [List.length_nil] at hl0; omega
  have hr0 := Lib.hid h0
  have hq := fun w => qk_nil w none 0 c 0 0
  rw [Option.isNone_none] at hq
  clear h0 hl0
  go_enter Tryz.func98, Tryz.ntmps98
  go_wp2_with fail
  go_ret
  rw [hr0.out]
  exact ⟨none, 0, rfl, Own.nil _ _ _ _, Below.refl _ _⟩
 | some a =>
  have ho1 : Own (w.alloc (.cells #[] 40)) w.heap.size 40 2 (some ⟨w.heap.size, 0, none⟩) 0 0 [] := World.ownsRow_made w #[] 0 (Nat.le_refl _) (by unfold maxLen; omega) rfl
  have hbA : Below w.heap.size w (w.alloc (.cells #[] 40)) := (Below.refl _ _).alloc (Nat.le_refl _) _
  have hq := fun w => qk_nil w (some a) n c 0 0
  rw [Option.isNone_some] at hq
  go_enter Tryz.func98, Tryz.ntmps98
  go_wp2_with (first | (at_builtin; refine hold ?_) | (at_make; refine hold ?_))
  (with_reducible refine unhold ?_)
  refine wpList_apd rfl _ _ _ rfl Ekey w.heap.size _ 0 _ [] rfl ho1 _ n _ (kyc l) rfl (by rw [kyc_len, Hn.out]) (hr.below hbA) (kyc_one l) n (Nat.zero_add _) (kyc l) rfl (by omega) (by omega) hbA.size ?_
  intro A2 c2 w2 ho2 hg2 _
  have hb2 := hbA.grown hg2 hbA.size ho1.row_ge
  go_wp2_with fail
  go_ret
  exact ⟨_, _, rfl, ho2, hb2⟩
def HdIn (w : World) (V : Option Addr) (vn vc : Nat) (x : Option RowM) : Prop :=
 (V = none ∧ vn = 0 ∧ vc = 0 ∧ x = none) ∨ ∃ a r, V = some a ∧ vn = r.length ∧ x = some r ∧ Rd w (some a) (rcells r) ∧ (∀ v ∈ r, v.ok) ∧ r.length ≤ 1000000
theorem HdIn.below {w w' : World} {V : Option Addr} {vn vc : Nat} {x : Option RowM} (h : HdIn w V vn vc x) (hb : Below w.heap.size w w') : HdIn w' V vn vc x := by
 rcases h with h | ⟨a, r, h1, h2, h3, h4, h5⟩
 ·exact .inl h
 ·exact .inr ⟨a, r, h1, h2, h3, h4.below hb, h5⟩
def HdV (w : World) (S : Nat → Prop) (V : Option Addr) (vn vc : Nat) (x : Option RowM) : Prop :=
 (Value.slice V vn vc = .slice none 0 0 ∧ x = none) ∨ ∃ a r c, Value.slice V vn vc = .slice (some a) r.length c ∧ x = some r ∧ Own w 0 38 3 (some a) r.length c (rcells r) ∧ InS S (some a) ∧ (∀ v ∈ r, v.ok) ∧ r.length ≤ 1000000
theorem HdV.below {w w' : World} {S : Nat → Prop} {V : Option Addr} {vn vc : Nat} {x : Option RowM} (h : HdV w S V vn vc x) (hb : Below w.heap.size w w') : HdV w' S V vn vc x := by
 rcases h with h | ⟨a, r, c, h1, h2, h3, h4⟩
 ·exact .inl h
 ·exact .inr ⟨a, r, c, h1, h2, Own.below h3 hb, h4⟩
theorem HdV.keeps {w w' : World} {S : Nat → Prop} {V : Option Addr} {vn vc : Nat} {x : Option RowM} {T : List TypeId} {B : Nat} (h : HdV w S V vn vc x) (ht : 38 ∉ T) (hk : Keeps T B w w') : HdV w' S V vn vc x := by
 rcases h with h | ⟨a, r, c, h1, h2, h3, h4⟩
 ·exact .inl h
 ·exact .inr ⟨a, r, c, h1, h2, Own.keeps h3 ht hk, h4⟩
theorem HdV.more {w : World} {S S' : Nat → Prop} {V : Option Addr} {vn vc : Nat} {x : Option RowM} (h : HdV w S V vn vc x) (hS : ∀ i, S i → S' i) : HdV w S' V vn vc x := by
 rcases h with h | ⟨a, r, c, h1, h2, h3, h4, h5⟩
 ·exact .inl h
 ·exact .inr ⟨a, r, c, h1, h2, h3, fun b o e => hS _ (h4 b o e), h5⟩
theorem lown_c (V : Option Addr) (vn vc : Nat) (x : Option RowM) (w : World) (h : HdIn w V vn vc x) :
  Calls Tryz.prog 99 #[.slice V vn vc] w fun e w' => ∃ V' vn' vc', e = .returned (.slice V' vn' vc') ∧ HdV w' (fun i => w.heap.size ≤ i) V' vn' vc' x ∧ Below w.heap.size w w' := by
 rcases h with ⟨rfl, rfl, rfl, rfl⟩ | ⟨a, r, rfl, rfl, rfl, h4, h5, h6⟩
 ·refine (lown_nil w).mono ?_
  rintro e w' ⟨rfl, rfl⟩
  exact ⟨none, 0, 0, rfl, .inl ⟨rfl, rfl⟩, Below.refl _ _⟩
 ·refine (lown_any r r.length vc a w rfl h4 h6).mono ?_
  rintro e w' ⟨b, c', rfl, ho, hb⟩
  refine ⟨_, _, _, rfl, .inr ⟨b, r, c', rfl, rfl, Own.lower ho (Nat.zero_le _), fun b' o' e => ?_, h5, h6⟩, hb⟩
  exact (ho.lt b' (by rw [e]; rfl)).1
theorem HdR.in_ {w : World} {hs : List Value} {H : Nat → Option RowM} (h : HdR w hs H) {p : Nat} (hp : p < hs.length) : ∃ V vn vc, hs[p]? = some (.slice V vn vc) ∧ HdIn w V vn vc (H p) := by
 rcases h.at_ p hp with ⟨h1, h2⟩ | ⟨a, r, c, h1, h2, h3⟩
 ·exact ⟨_, _, _, h1, .inl ⟨rfl, rfl, rfl, h2⟩⟩
 ·exact ⟨_, _, _, h1, .inr ⟨a, r, rfl, rfl, h2, h3⟩⟩
set_option maxHeartbeats 4000000 in
set_option maxRecDepth 100000 in
theorem lnext_any {S : Nat → Prop} {bt m sz : Nat} {H : Nat → Option RowM} {ks : List Ky} {sl : Nat → Nat} {HA : Option Addr} {hc : Nat} {hs : List Value} {KA : Option Addr} {kn kc gs : Nat} {z : Int} (w : World) (h : TrAt w S bt m sz H ks sl HA hc hs KA kn kc gs z) (hm : m ≤ 1000000) (hsz : 0 < sz) (h0 : sl 0 ≤ 1000000) :
  Calls Tryz.prog 83 #[.pointer (some ⟨bt, 0, none⟩)] w fun e w' => ((H (sl 0) = none ∧ e = .returned (.tuple #[.int .i64 0, .bool false])) ∨ (∃ r, H (sl 0) = some r ∧ e = .returned (.tuple #[.int .i64 (sl 0 : Int), .bool true]))) ∧ w = w' := by
 have hhd := Lib.hid (lhead_any w h (sl 0) hm h0)
 have k2 := h.blk.cell 2
 simp only [List.getElem?_cons_zero, List.getElem?_cons_succ] at k2
 obtain ⟨jc, jf⟩ := h.scell hsz
 have hszI : (0 : Int) < (sz : Int) := by omega
 rcases hd_cases h.rows (sl 0) with ⟨e0, H0⟩ | ⟨a, r, c, e0, H0, _⟩
 ·have hq := fun w => qr_nil w none 0 0 0 0
  rw [Option.isNone_none] at hq
  rw [e0] at hhd
  have HH := Lib.hid H0
  clear h e0 H0
  generalize sl 0 = q at *
  go_enter Tryz.func83, Tryz.ntmps83
  go_wp2_with fail
  refine hhd.out.mono ?_
  rintro e w' ⟨rfl, rfl⟩
  go_wp2_with fail
  go_ret2
  exact ⟨.inl ⟨HH.out, rfl⟩, rfl⟩
 ·have hq := fun w => qr_nil w (some a) r.length c 0 0
  rw [Option.isNone_some] at hq
  rw [e0] at hhd
  have HH := Lib.hid H0
  clear h e0 H0
  generalize sl 0 = q at *
  generalize hn : r.length = n at *
  clear hn
  go_enter Tryz.func83, Tryz.ntmps83
  go_wp2_with fail
  refine hhd.out.mono ?_
  rintro e w' ⟨rfl, rfl⟩
  go_wp2_with fail
  go_ret2
  exact ⟨.inr ⟨r, HH.out, rfl⟩, rfl⟩
end Go.Proofs.YtcadjekcdokkjaaGreat
